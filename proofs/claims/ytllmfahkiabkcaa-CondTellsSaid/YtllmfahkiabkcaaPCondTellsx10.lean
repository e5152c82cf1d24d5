/- Lean functions that say what functions of the given program compute, and proofs by walking the code that each call does just that; no condition but those that each statement names. -/
import Derived.Test.YtllmfahkiabkcaaPCondTellsx0
import Derived.Test.YtllmfahkiabkcaaPCondTellsx1
import Derived.Test.YtllmfahkiabkcaaPCondTellsx2
import Derived.Test.YtllmfahkiabkcaaPCondTellsx3
import Derived.Test.YtllmfahkiabkcaaPCondTellsx4
import Derived.Test.YtllmfahkiabkcaaPCondTellsx5
import Derived.Test.YtllmfahkiabkcaaPCondTellsx6
import Derived.Test.YtllmfahkiabkcaaPCondTellsx7
import Derived.Test.YtllmfahkiabkcaaPCondTellsx8
import Derived.Test.YtllmfahkiabkcaaPCondTellsx9
namespace Go.Proofs.Ytllmfahkiabkcaa.PCondTells
open Go.RowKit Go.Proofs.YtllmfahkiabkcaaW.PrintWords Go.Proofs.YtllmfahkiabkcaaW.PrintLast Go.Proofs.YtllmfahkiabkcaaW.PrintMore
attribute [local go_sem] max2_int min2_int max_two min_two max_three min_three max_four min_four   -- for this text's walks alone
set_option linter.unusedVariables false
set_option linter.unusedSimpArgs false

/-! ### handshakerlaw20_CondTells: function 3 -/
def handshakerlaw20_CondTells.f (k : Nat) (l0_0 : List Int) (l0_1 : List Int) (a1 : Int) (a2 : Int) : Option (Bool) := (handshakerlaw20_small.f l0_0 l0_1).bind fun t334 => (if t334 = true then ((cond_Wait.f k l0_0 l0_1 a1).bind fun bt336 => ((handshakerlaw20_ref.f l0_0 l0_1).bind fun bt344 => ((handshakerref20_Wait.f k bt344.1 bt344.2 a1).bind fun bt350 => ((cond_Signal.f k l0_0 l0_1 a2).bind fun bt358 => ((handshakerlaw20_ref.f l0_0 l0_1).bind fun bt368 => ((handshakerref20_Signal.f k bt368.1 bt368.2 a2).bind fun bt374 => ((cond_Go.f k l0_0 l0_1 a1).bind fun bt384 => ((handshakerlaw20_ref.f l0_0 l0_1).bind fun bt392 => ((handshakerref20_Go.f k bt392.1 bt392.2 a1).bind fun bt398 => ((cond_Leave.f k l0_0 l0_1 a1).bind fun bt406 => ((handshakerlaw20_ref.f l0_0 l0_1).bind fun bt415 => ((handshakerref20_Leave.f k bt415.1 bt415.2 a1).bind fun bt421 => ((cond_Right.f k l0_0 l0_1).bind fun t430 => ((handshakerlaw20_ref.f l0_0 l0_1).bind fun bt431 => ((handshakerref20_Right.f bt431.1 bt431.2).bind fun t437 => (if (t430 == t437) = true then ((handshakerlaw20_ref.f bt336.1 bt336.2.1).bind fun bt438 => ((handshakerref20_Same.f k bt438.1 bt438.2 bt350.1 bt350.2.1).bind fun t444 => (if t444 = true then (if bt336.2.2 = bt350.2.2 then ((handshakerlaw20_ref.f bt358.1 bt358.2.1).bind fun bt445 => ((handshakerref20_Same.f k bt445.1 bt445.2 bt374.1 bt374.2.1).bind fun t451 => (if t451 = true then ((handshakerref03_Numbers.f k bt358.2.2 bt374.2.2).bind fun t452 => (if t452 = true then ((handshakerlaw20_ref.f bt384.1 bt384.2.1).bind fun bt453 => ((handshakerref20_Same.f k bt453.1 bt453.2 bt398.1 bt398.2.1).bind fun t459 => (if t459 = true then (if bt384.2.2 = bt398.2.2 then ((handshakerlaw20_ref.f bt406.1 bt406.2.1).bind fun bt460 => ((handshakerref20_Same.f k bt460.1 bt460.2 bt421.1 bt421.2.1).bind fun t466 => (if t466 = true then (if (bt406.2.2.1 == bt421.2.2.1) = true then (if bt406.2.2.2 = bt421.2.2.2 then ((handshakerlaw20_awake.f k).bind fun t467 => (some t467)) else (none)) else (none)) else (none)))) else (none)) else (none)))) else (none))) else (none)))) else (none)) else (none)))) else (none))))))))))))))))) else ((handshakerlaw20_awake.f k).bind fun t335 => (some t335)))
theorem handshakerlaw20_CondTells.mono : ∀ a0 a1 a2 a3 k, LeO (handshakerlaw20_CondTells.f k a0 a1 a2 a3) (handshakerlaw20_CondTells.f (k + 1) a0 a1 a2 a3) := by
 intro a0 a1 a2 a3 k
 unfold handshakerlaw20_CondTells.f
 repeat' first
   | (with_reducible exact cond_Go.mono _ _ _ _)
   | (with_reducible exact cond_Leave.mono _ _ _ _)
   | (with_reducible exact cond_Right.mono _ _ _)
   | (with_reducible exact cond_Signal.mono _ _ _ _)
   | (with_reducible exact cond_Wait.mono _ _ _ _)
   | (with_reducible exact handshakerlaw20_awake.mono _)
   | (with_reducible exact handshakerref03_Numbers.mono _ _ _)
   | (with_reducible exact handshakerref20_Go.mono _ _ _ _)
   | (with_reducible exact handshakerref20_Leave.mono _ _ _ _)
   | (with_reducible exact handshakerref20_Same.mono _ _ _ _ _)
   | (with_reducible exact handshakerref20_Signal.mono _ _ _ _)
   | (with_reducible exact handshakerref20_Wait.mono _ _ _ _)
   | (with_reducible exact LeO.refl _)
   | (with_reducible exact LeO.none _)
   | (with_reducible refine LeO.ite ?_ ?_)
   | (with_reducible refine LeO.bind ?_ (fun _ => ?_))
   | exact cond_Go.mono _ _ _ _
   | exact cond_Leave.mono _ _ _ _
   | exact cond_Right.mono _ _ _
   | exact cond_Signal.mono _ _ _ _
   | exact cond_Wait.mono _ _ _ _
   | exact handshakerlaw20_awake.mono _
   | exact handshakerref03_Numbers.mono _ _ _
   | exact handshakerref20_Go.mono _ _ _ _
   | exact handshakerref20_Leave.mono _ _ _ _
   | exact handshakerref20_Same.mono _ _ _ _ _
   | exact handshakerref20_Signal.mono _ _ _ _
   | exact handshakerref20_Wait.mono _ _ _ _
   | exact LeO.none _
   | refine LeO.ite ?_ ?_
   | refine LeO.bind ?_ (fun _ => ?_)
def handshakerlaw20_CondTells.T11 : Bool × List (List Nat × List Nat) := (true, [([], []), ([0], [0]), ([], []), ([2, 1], [2]), ([3, 3], [3]), ([1, 4], [1, 4]), ([5, 4], [5]), ([6], [6]), ([7, 6, 6], [6, 7]), ([6], [6]), ([8, 9, 8, 6], [6, 8, 9]), ([6, 10], [6, 10]), ([11, 10], [11]), ([12], [12]), ([12], [12]), ([13, 14, 12], [12, 13, 14]), ([12, 15], [12, 15]), ([16, 12], [16]), ([17], [17]), ([18, 17, 17], [17, 18]), ([17], [17]), ([19, 20, 19, 17], [17, 19, 20]), ([17, 21], [17, 21]), ([22, 21], [22]), ([23], [23]), ([23], [23]), ([24, 25, 23, 23], [23, 24, 25]), ([23, 26], [23, 26]), ([27, 26], [27]), ([28], [28]), ([29, 28, 28], [28, 29]), ([28], [28]), ([30, 31, 30, 28], [28, 30, 31]), ([28, 32], [28, 32]), ([33, 32], [33]), ([34], [34]), ([34], [34]), ([35, 36, 34], [34, 35, 36]), ([34, 37], [34, 37]), ([38, 34], [38]), ([39], [39]), ([40, 39, 39], [39, 40]), ([39], [39]), ([41, 42, 41, 39], [39, 41, 42]), ([39, 43], [39, 43]), ([44, 43], [44]), ([45], [45]), ([45], [45]), ([46, 47, 45], [45, 46, 47]), ([45, 48], [45, 48]), ([49, 45], [49]), ([50], [50]), ([50], [50]), ([51, 52, 50], [50, 51, 52]), ([50, 53], [50, 53]), ([54, 50], [54]), ([55, 55], [55]), ([55, 56], [55, 56]), ([57, 56, 0, 1, 2, 3, 4, 5, 6, 7, 8, 9, 10, 11, 12, 13, 14, 15, 16, 17, 18, 19, 20, 21, 22, 23, 24, 25, 26, 27, 28, 29, 30, 31, 32, 33, 34, 35, 36, 37, 38, 39, 40, 41, 42, 43, 44, 45, 46, 47, 48, 49, 50, 51, 52, 53, 54, 55, 56, 57], [57])])
def handshakerlaw20_CondTells.B11 : List Nat := [0, 1, 0, 7, 15, 31, 63, 127, 255, 127, 1023, 2047, 4095, 8191, 8191, 32767, 65535, 131071, 262143, 524287, 262143, 2097151, 4194303, 8388607, 16777215, 16777215, 67108863, 134217727, 268435455, 536870911, 1073741823, 536870911, 4294967295, 8589934591, 17179869183, 34359738367, 34359738367, 137438953471, 274877906943, 549755813887, 1099511627775, 2199023255551, 1099511627775, 8796093022207, 17592186044415, 35184372088831, 70368744177663, 70368744177663, 281474976710655, 562949953421311, 1125899906842623, 2251799813685247, 2251799813685247, 9007199254740991, 18014398509481983, 36028797018963967, 72057594037927935, 144115188075855871, 288230376151711743]
theorem handshakerlaw20_CondTells.tab11 : rtab .any (opsOf Try.f3 11) = handshakerlaw20_CondTells.T11 := by kernel_rfl
theorem handshakerlaw20_CondTells.bits11 : waitsOk handshakerlaw20_CondTells.T11.2 handshakerlaw20_CondTells.B11 = true := by kernel_rfl
set_option maxHeartbeats 8000000 in
set_option maxRecDepth 100000 in
theorem handshakerlaw20_CondTells.calls (k : Nat) (A0_0 : Option Addr) (c0_0 : Nat) (l0_0 : List Int) (A0_1 : Option Addr) (c0_1 : Nat) (l0_1 : List Int) (a1 : Int) (a2 : Int) (r : Bool) (w : World) (hr0_0 : Kd.C (Kd.int .i64) w A0_0 l0_0.length l0_0) (hc0_0 : l0_0.length ≤ c0_0) (hr0_1 : Kd.C (Kd.int .i64) w A0_1 l0_1.length l0_1) (hc0_1 : l0_1.length ≤ c0_1) (h : handshakerlaw20_CondTells.f k l0_0 l0_1 a1 a2 = some r) :
  Calls Try.prog 3 #[.agg #[.slice A0_0 l0_0.length c0_0, .slice A0_1 l0_1.length c0_1], .int .i64 a1, .int .i64 a2] w fun e w' => e = .returned (.bool r) ∧ Below w.heap.size w w' := by
 have hu24 := Try.underlying24
 have hu30 := Try.underlying30
 have HR0_0 := am hr0_0
 have HC0_0 := am hc0_0
 clear hr0_0 hc0_0
 have HR0_1 := am hr0_1
 have HC0_1 := am hc0_1
 clear hr0_1 hc0_1
 have HB := am (Below.refl w.heap.size w)
 have H : ((handshakerlaw20_small.f l0_0 l0_1).bind fun t334 => (if t334 = true then ((cond_Wait.f k l0_0 l0_1 a1).bind fun bt336 => ((handshakerlaw20_ref.f l0_0 l0_1).bind fun bt344 => ((handshakerref20_Wait.f k bt344.1 bt344.2 a1).bind fun bt350 => ((cond_Signal.f k l0_0 l0_1 a2).bind fun bt358 => ((handshakerlaw20_ref.f l0_0 l0_1).bind fun bt368 => ((handshakerref20_Signal.f k bt368.1 bt368.2 a2).bind fun bt374 => ((cond_Go.f k l0_0 l0_1 a1).bind fun bt384 => ((handshakerlaw20_ref.f l0_0 l0_1).bind fun bt392 => ((handshakerref20_Go.f k bt392.1 bt392.2 a1).bind fun bt398 => ((cond_Leave.f k l0_0 l0_1 a1).bind fun bt406 => ((handshakerlaw20_ref.f l0_0 l0_1).bind fun bt415 => ((handshakerref20_Leave.f k bt415.1 bt415.2 a1).bind fun bt421 => ((cond_Right.f k l0_0 l0_1).bind fun t430 => ((handshakerlaw20_ref.f l0_0 l0_1).bind fun bt431 => ((handshakerref20_Right.f bt431.1 bt431.2).bind fun t437 => (if (t430 == t437) = true then ((handshakerlaw20_ref.f bt336.1 bt336.2.1).bind fun bt438 => ((handshakerref20_Same.f k bt438.1 bt438.2 bt350.1 bt350.2.1).bind fun t444 => (if t444 = true then (if bt336.2.2 = bt350.2.2 then ((handshakerlaw20_ref.f bt358.1 bt358.2.1).bind fun bt445 => ((handshakerref20_Same.f k bt445.1 bt445.2 bt374.1 bt374.2.1).bind fun t451 => (if t451 = true then ((handshakerref03_Numbers.f k bt358.2.2 bt374.2.2).bind fun t452 => (if t452 = true then ((handshakerlaw20_ref.f bt384.1 bt384.2.1).bind fun bt453 => ((handshakerref20_Same.f k bt453.1 bt453.2 bt398.1 bt398.2.1).bind fun t459 => (if t459 = true then (if bt384.2.2 = bt398.2.2 then ((handshakerlaw20_ref.f bt406.1 bt406.2.1).bind fun bt460 => ((handshakerref20_Same.f k bt460.1 bt460.2 bt421.1 bt421.2.1).bind fun t466 => (if t466 = true then (if (bt406.2.2.1 == bt421.2.2.1) = true then (if bt406.2.2.2 = bt421.2.2.2 then ((handshakerlaw20_awake.f k).bind fun t467 => (some t467)) else (none)) else (none)) else (none)))) else (none)) else (none)))) else (none))) else (none)))) else (none)) else (none)))) else (none))))))))))))))))) else ((handshakerlaw20_awake.f k).bind fun t335 => (some t335)))) = some r := h
 clear h
 replace H := Option.bind_eq_some_iff.mp H
 obtain ⟨t334, A40, H⟩ := H
 try dsimp only at H
 have A4 := am A40
 clear A40
 by_cases c5 : t334 = true
 ·subst c5
  have H1 : ((cond_Wait.f k l0_0 l0_1 a1).bind fun bt336 => ((handshakerlaw20_ref.f l0_0 l0_1).bind fun bt344 => ((handshakerref20_Wait.f k bt344.1 bt344.2 a1).bind fun bt350 => ((cond_Signal.f k l0_0 l0_1 a2).bind fun bt358 => ((handshakerlaw20_ref.f l0_0 l0_1).bind fun bt368 => ((handshakerref20_Signal.f k bt368.1 bt368.2 a2).bind fun bt374 => ((cond_Go.f k l0_0 l0_1 a1).bind fun bt384 => ((handshakerlaw20_ref.f l0_0 l0_1).bind fun bt392 => ((handshakerref20_Go.f k bt392.1 bt392.2 a1).bind fun bt398 => ((cond_Leave.f k l0_0 l0_1 a1).bind fun bt406 => ((handshakerlaw20_ref.f l0_0 l0_1).bind fun bt415 => ((handshakerref20_Leave.f k bt415.1 bt415.2 a1).bind fun bt421 => ((cond_Right.f k l0_0 l0_1).bind fun t430 => ((handshakerlaw20_ref.f l0_0 l0_1).bind fun bt431 => ((handshakerref20_Right.f bt431.1 bt431.2).bind fun t437 => (if (t430 == t437) = true then ((handshakerlaw20_ref.f bt336.1 bt336.2.1).bind fun bt438 => ((handshakerref20_Same.f k bt438.1 bt438.2 bt350.1 bt350.2.1).bind fun t444 => (if t444 = true then (if bt336.2.2 = bt350.2.2 then ((handshakerlaw20_ref.f bt358.1 bt358.2.1).bind fun bt445 => ((handshakerref20_Same.f k bt445.1 bt445.2 bt374.1 bt374.2.1).bind fun t451 => (if t451 = true then ((handshakerref03_Numbers.f k bt358.2.2 bt374.2.2).bind fun t452 => (if t452 = true then ((handshakerlaw20_ref.f bt384.1 bt384.2.1).bind fun bt453 => ((handshakerref20_Same.f k bt453.1 bt453.2 bt398.1 bt398.2.1).bind fun t459 => (if t459 = true then (if bt384.2.2 = bt398.2.2 then ((handshakerlaw20_ref.f bt406.1 bt406.2.1).bind fun bt460 => ((handshakerref20_Same.f k bt460.1 bt460.2 bt421.1 bt421.2.1).bind fun t466 => (if t466 = true then (if (bt406.2.2.1 == bt421.2.2.1) = true then (if bt406.2.2.2 = bt421.2.2.2 then ((handshakerlaw20_awake.f k).bind fun t467 => (some t467)) else (none)) else (none)) else (none)))) else (none)) else (none)))) else (none))) else (none)))) else (none)) else (none)))) else (none))))))))))))))))) = some r := by rw [if_pos rfl] at H; exact H
  clear H
  have H := H1
  clear H1
  replace H := Option.bind_eq_some_iff.mp H
  obtain ⟨⟨t336, t339, t342⟩, A60, H⟩ := H
  try dsimp only at H
  have A6 := am A60
  clear A60
  replace H := Option.bind_eq_some_iff.mp H
  obtain ⟨⟨t344, t347⟩, A70, H⟩ := H
  try dsimp only at H
  have A7 := am A70
  clear A70
  replace H := Option.bind_eq_some_iff.mp H
  obtain ⟨⟨t350, t353, t356⟩, A80, H⟩ := H
  try dsimp only at H
  have A8 := am A80
  clear A80
  replace H := Option.bind_eq_some_iff.mp H
  obtain ⟨⟨t358, t361, t364⟩, A90, H⟩ := H
  try dsimp only at H
  have A9 := am A90
  clear A90
  replace H := Option.bind_eq_some_iff.mp H
  obtain ⟨⟨t368, t371⟩, A100, H⟩ := H
  try dsimp only at H
  have A10 := am A100
  clear A100
  replace H := Option.bind_eq_some_iff.mp H
  obtain ⟨⟨t374, t377, t380⟩, A110, H⟩ := H
  try dsimp only at H
  have A11 := am A110
  clear A110
  replace H := Option.bind_eq_some_iff.mp H
  obtain ⟨⟨t384, t387, t390⟩, A120, H⟩ := H
  try dsimp only at H
  have A12 := am A120
  clear A120
  replace H := Option.bind_eq_some_iff.mp H
  obtain ⟨⟨t392, t395⟩, A130, H⟩ := H
  try dsimp only at H
  have A13 := am A130
  clear A130
  replace H := Option.bind_eq_some_iff.mp H
  obtain ⟨⟨t398, t401, t404⟩, A140, H⟩ := H
  try dsimp only at H
  have A14 := am A140
  clear A140
  replace H := Option.bind_eq_some_iff.mp H
  obtain ⟨⟨t406, t409, t412, t413⟩, A150, H⟩ := H
  try dsimp only at H
  have A15 := am A150
  clear A150
  replace H := Option.bind_eq_some_iff.mp H
  obtain ⟨⟨t415, t418⟩, A160, H⟩ := H
  try dsimp only at H
  have A16 := am A160
  clear A160
  replace H := Option.bind_eq_some_iff.mp H
  obtain ⟨⟨t421, t424, t427, t428⟩, A170, H⟩ := H
  try dsimp only at H
  have A17 := am A170
  clear A170
  replace H := Option.bind_eq_some_iff.mp H
  obtain ⟨t430, A180, H⟩ := H
  try dsimp only at H
  have A18 := am A180
  clear A180
  replace H := Option.bind_eq_some_iff.mp H
  obtain ⟨⟨t431, t434⟩, A190, H⟩ := H
  try dsimp only at H
  have A19 := am A190
  clear A190
  replace H := Option.bind_eq_some_iff.mp H
  obtain ⟨t437, A200, H⟩ := H
  try dsimp only at H
  have A20 := am A200
  clear A200
  by_cases c21 : (t430 == t437) = true
  ·rw [if_pos c21] at H
   have c21b0 : (t430 == t437) = true := c21
   (try (have c21b1 : decide (t430 = t437) = true := by simpa using c21))
   (try (have c21b2 : (t430 == t437) = true := by simpa using c21))
   clear c21
   replace H := Option.bind_eq_some_iff.mp H
   obtain ⟨⟨t438, t441⟩, A220, H⟩ := H
   try dsimp only at H
   have A22 := am A220
   clear A220
   replace H := Option.bind_eq_some_iff.mp H
   obtain ⟨t444, A230, H⟩ := H
   try dsimp only at H
   have A23 := am A230
   clear A230
   by_cases c24 : t444 = true
   ·subst c24
    have H1 : (if t342 = t356 then ((handshakerlaw20_ref.f t358 t361).bind fun bt445 => ((handshakerref20_Same.f k bt445.1 bt445.2 t374 t377).bind fun t451 => (if t451 = true then ((handshakerref03_Numbers.f k t364 t380).bind fun t452 => (if t452 = true then ((handshakerlaw20_ref.f t384 t387).bind fun bt453 => ((handshakerref20_Same.f k bt453.1 bt453.2 t398 t401).bind fun t459 => (if t459 = true then (if t390 = t404 then ((handshakerlaw20_ref.f t406 t409).bind fun bt460 => ((handshakerref20_Same.f k bt460.1 bt460.2 t421 t424).bind fun t466 => (if t466 = true then (if (t412 == t427) = true then (if t413 = t428 then ((handshakerlaw20_awake.f k).bind fun t467 => (some t467)) else (none)) else (none)) else (none)))) else (none)) else (none)))) else (none))) else (none)))) else (none)) = some r := by rw [if_pos rfl] at H; exact H
    clear H
    have H := H1
    clear H1
    by_cases c25 : t342 = t356
    ·rw [if_pos c25] at H
     have c25b0 : (t342 == t356) = true := beq_iff_eq.mpr c25
     have c25b1 : (t342 != t356) = false := bne_eq_false_iff_eq.mpr c25
     clear c25
     replace H := Option.bind_eq_some_iff.mp H
     obtain ⟨⟨t445, t448⟩, A260, H⟩ := H
     try dsimp only at H
     have A26 := am A260
     clear A260
     replace H := Option.bind_eq_some_iff.mp H
     obtain ⟨t451, A270, H⟩ := H
     try dsimp only at H
     have A27 := am A270
     clear A270
     by_cases c28 : t451 = true
     ·subst c28
      have H1 : ((handshakerref03_Numbers.f k t364 t380).bind fun t452 => (if t452 = true then ((handshakerlaw20_ref.f t384 t387).bind fun bt453 => ((handshakerref20_Same.f k bt453.1 bt453.2 t398 t401).bind fun t459 => (if t459 = true then (if t390 = t404 then ((handshakerlaw20_ref.f t406 t409).bind fun bt460 => ((handshakerref20_Same.f k bt460.1 bt460.2 t421 t424).bind fun t466 => (if t466 = true then (if (t412 == t427) = true then (if t413 = t428 then ((handshakerlaw20_awake.f k).bind fun t467 => (some t467)) else (none)) else (none)) else (none)))) else (none)) else (none)))) else (none))) = some r := by rw [if_pos rfl] at H; exact H
      clear H
      have H := H1
      clear H1
      replace H := Option.bind_eq_some_iff.mp H
      obtain ⟨t452, A290, H⟩ := H
      try dsimp only at H
      have A29 := am A290
      clear A290
      by_cases c30 : t452 = true
      ·subst c30
       have H1 : ((handshakerlaw20_ref.f t384 t387).bind fun bt453 => ((handshakerref20_Same.f k bt453.1 bt453.2 t398 t401).bind fun t459 => (if t459 = true then (if t390 = t404 then ((handshakerlaw20_ref.f t406 t409).bind fun bt460 => ((handshakerref20_Same.f k bt460.1 bt460.2 t421 t424).bind fun t466 => (if t466 = true then (if (t412 == t427) = true then (if t413 = t428 then ((handshakerlaw20_awake.f k).bind fun t467 => (some t467)) else (none)) else (none)) else (none)))) else (none)) else (none)))) = some r := by rw [if_pos rfl] at H; exact H
       clear H
       have H := H1
       clear H1
       replace H := Option.bind_eq_some_iff.mp H
       obtain ⟨⟨t453, t456⟩, A310, H⟩ := H
       try dsimp only at H
       have A31 := am A310
       clear A310
       replace H := Option.bind_eq_some_iff.mp H
       obtain ⟨t459, A320, H⟩ := H
       try dsimp only at H
       have A32 := am A320
       clear A320
       by_cases c33 : t459 = true
       ·subst c33
        have H1 : (if t390 = t404 then ((handshakerlaw20_ref.f t406 t409).bind fun bt460 => ((handshakerref20_Same.f k bt460.1 bt460.2 t421 t424).bind fun t466 => (if t466 = true then (if (t412 == t427) = true then (if t413 = t428 then ((handshakerlaw20_awake.f k).bind fun t467 => (some t467)) else (none)) else (none)) else (none)))) else (none)) = some r := by rw [if_pos rfl] at H; exact H
        clear H
        have H := H1
        clear H1
        by_cases c34 : t390 = t404
        ·rw [if_pos c34] at H
         have c34b0 : (t390 == t404) = true := beq_iff_eq.mpr c34
         have c34b1 : (t390 != t404) = false := bne_eq_false_iff_eq.mpr c34
         clear c34
         replace H := Option.bind_eq_some_iff.mp H
         obtain ⟨⟨t460, t463⟩, A350, H⟩ := H
         try dsimp only at H
         have A35 := am A350
         clear A350
         replace H := Option.bind_eq_some_iff.mp H
         obtain ⟨t466, A360, H⟩ := H
         try dsimp only at H
         have A36 := am A360
         clear A360
         by_cases c37 : t466 = true
         ·subst c37
          have H1 : (if (t412 == t427) = true then (if t413 = t428 then ((handshakerlaw20_awake.f k).bind fun t467 => (some t467)) else (none)) else (none)) = some r := by rw [if_pos rfl] at H; exact H
          clear H
          have H := H1
          clear H1
          by_cases c38 : (t412 == t427) = true
          ·rw [if_pos c38] at H
           have c38b0 : (t412 == t427) = true := c38
           (try (have c38b1 : decide (t412 = t427) = true := by simpa using c38))
           (try (have c38b2 : (t412 == t427) = true := by simpa using c38))
           clear c38
           by_cases c39 : t413 = t428
           ·rw [if_pos c39] at H
            have c39b0 : (t413 == t428) = true := beq_iff_eq.mpr c39
            have c39b1 : (t413 != t428) = false := bne_eq_false_iff_eq.mpr c39
            clear c39
            replace H := Option.bind_eq_some_iff.mp H
            obtain ⟨t467, A400, H⟩ := H
            try dsimp only at H
            have A40 := am A400
            clear A400
            obtain rfl := Option.some.inj H
            go_enter Try.func3, Try.ntmps3
            try go_wp2_with (first | ((with_reducible refine gate_dst (N := 3) rfl ?_); refine box_event ?hg (N := 3) ?hd (cs := #[.slice A0_0 l0_0.length c0_0, .slice A0_1 l0_1.length c0_1]) (t := 24) ?hr ?_; (case hd => rfl); (case hg => rfl); (case hr => first | (go_simp; done) | (go_simp; rfl)); intro gb333 hg w41 hbox hb; have BK333 := am (hbox); have GW333 := zsz hg (zc0 HB); have GE333 := zsz hg (zc0 HB); replace HB := am (below_step (zc0 HB) hb); clear hb hbox hg; have hcz42_0 : w41.cell? ⟨gb333, 0, none⟩ = some (.slice A0_0 l0_0.length c0_0) := (blk_cell BK333.out 0).trans rfl; have hcz42_1 : w41.cell? ⟨gb333, 1, none⟩ = some (.slice A0_1 l0_1.length c0_1) := (blk_cell BK333.out 1).trans rfl; have hfz42_0 := blk_frozen BK333.out 0; have hfz42_1 := blk_frozen BK333.out 1) | ((with_reducible refine gate_callee (f := 8) rfl ?_); refine goesL_ (some 26) rfl rfl Try.func8 (by kernel_rfl) rfl #[.agg #[.slice A0_0 l0_0.length c0_0, .slice A0_1 l0_1.length c0_1]] rfl zm ?_; (with_reducible refine (handshakerlaw20_small.calls _ _ l0_0 _ _ l0_1 true _ ?side1 ?side2 ?side3 ?side4 A4.out).mono ?_); (case side1 => repeat (first | exact (Kd.C_below HR0_0.out HB.out) | (with_reducible refine Kd.C_alloc ?_ _) | (with_reducible refine Kd.C_drewN ?_ _) | (with_reducible refine Kd.C_drew ?_))); (case side2 => exact HC0_0.out); (case side3 => repeat (first | exact (Kd.C_below HR0_1.out HB.out) | (with_reducible refine Kd.C_alloc ?_ _) | (with_reducible refine Kd.C_drewN ?_ _) | (with_reducible refine Kd.C_drew ?_))); (case side4 => exact HC0_1.out); rintro e w43 ⟨rfl, hb⟩; refine ⟨_, rfl, ?_⟩; replace BK333 := zbb BK333 hb; replace HB := am (below_step (zc1 HB GE333) hb); (try clear hb); (try clear hb2); (try clear hk); (try clear hi); have hcz44_0 : w43.cell? ⟨gb333, 0, none⟩ = some (.slice A0_0 l0_0.length c0_0) := (blk_cell BK333.out 0).trans rfl; have hcz44_1 : w43.cell? ⟨gb333, 1, none⟩ = some (.slice A0_1 l0_1.length c0_1) := (blk_cell BK333.out 1).trans rfl; have hfz44_0 := blk_frozen BK333.out 0; have hfz44_1 := blk_frozen BK333.out 1) | ((with_reducible refine gate_callee (f := 10) rfl ?_); refine goesL_ (some 32) rfl rfl Try.func10 (by kernel_rfl) rfl #[.agg #[.slice A0_0 l0_0.length c0_0, .slice A0_1 l0_1.length c0_1], .int .i64 a1] rfl zm ?_; (with_reducible refine (cond_Wait.calls k (fun k_ => k_ < w.heap.size) _ _ l0_0 (fun k_ => k_ < w.heap.size) _ _ l0_1 a1 t336 t339 t342 _ ?side1 ?side2 A6.out).mono ?_); (case side1 => exact Kd.V_mk HC0_0.out (Kd.F_below (Kd.C_F (Kd.heap_int .i64) HR0_0.out) (zc1 HB GE333))); (case side2 => exact Kd.V_mk HC0_1.out (Kd.F_below (Kd.C_F (Kd.heap_int .i64) HR0_1.out) (zc1 HB GE333))); rintro e w45 ⟨v337, v340, rfl, ho0, ho1, hb⟩; refine ⟨_, rfl, ?_⟩; have HO338 := am (Kd.V_lower (Kd.V_mono (ok' := fun k_ => k_ ≠ gb333) ho0 (fun k_ hk_ => Or.elim hk_ (fun hs_ => Or.elim hs_ (znl GW333) (znl GW333)) (fun hn_ => (zfr gb333 BK333 hn_)))) (below_size (zc1 HB GE333))); have HO341 := am (Kd.V_lower (Kd.V_mono (ok' := fun k_ => k_ ≠ gb333) ho1 (fun k_ hk_ => Or.elim hk_ (fun hs_ => Or.elim hs_ (znl GW333) (znl GW333)) (fun hn_ => (zfr gb333 BK333 hn_)))) (below_size (zc1 HB GE333))); replace BK333 := zbb BK333 hb; replace HB := am (below_step (zc1 HB GE333) hb); (try clear hb); (try clear hb2); (try clear hk); (try clear hi); (try clear ho0); (try clear ho1)) | ((with_reducible refine gate_dst (N := 7) rfl ?_); refine box_event ?hg (N := 7) ?hd (cs := #[.slice none 0 0, .slice none 0 0]) (t := 24) ?hr ?_; (case hd => rfl); (case hg => rfl); (case hr => first | (go_simp; done) | (go_simp; rfl)); intro gb343 hg w46 hbox hb; replace HO338 := zVe HO338 hg hb; replace HO341 := zVe HO341 hg hb; have BK343 := am (hbox); have GW343 := zsz hg (zc1 HB GE333); have GE343 := zsz hg (zc1 HB GE333); replace HB := am (below_step (zc1 HB GE333) hb); have NB333_343 := znt BK333 hg; have NB343_333 := zng BK333 hg; replace BK333 := zbb BK333 hb; clear hb hbox hg; obtain ⟨Ao47, co47, eo47⟩ := Kd.V_slice HO338.out; subst eo47; have hnb48 := NB343_333.out; have hnc48 := NB333_343.out; have hcz49_0 : w46.cell? ⟨gb343, 0, none⟩ = some (.slice none 0 0) := (blk_cell BK343.out 0).trans rfl; have hcz49_1 : w46.cell? ⟨gb343, 1, none⟩ = some (.slice none 0 0) := (blk_cell BK343.out 1).trans rfl; have hfz49_0 := blk_frozen BK343.out 0; have hfz49_1 := blk_frozen BK343.out 1; obtain ⟨Ao50, co50, eo50⟩ := Kd.V_slice HO341.out; subst eo50) | ((with_reducible refine gate_store (t := 24) (p := 7) rfl ?_); refine store_event (t := 24) (p := 7) (v := ?vo_w51) (w1 := ((w46.setCell ⟨gb343, 0, none⟩ (.slice Ao47 t336.length co47)).setCell ⟨gb343, 1, none⟩ (.slice Ao50 t339.length co50))) ?hg ?ho ?hn ?hr ?_; (case ho => rfl); (case hg => rfl); (case hn => rfl); (case hr => first | (go_simp; done) | (go_simp; rfl)); intro w51 hw; replace HO338 := zVs hw HO338 (fun _ hk => hk.2); replace HO341 := zVs hw HO341 (fun _ hk => hk.2); replace BK333 := zks hw BK333 NB333_343; replace BK343 : Aside0 (w51.heap[gb343]? = some (.cells #[.slice Ao47 t336.length co47, .slice Ao50 t339.length co50] 24 (0, 0))) := ⟨(by rw [hw]; exact (by (with_reducible repeat (first | refine blk_drewN ?_ _ | refine blk_drew ?_ | refine blk_alloc ?_ _)); refine blk_put (cs := #[.slice Ao47 t336.length co47, .slice none 0 0]) ?_ 1 _ rfl; (with_reducible repeat (first | refine blk_drewN ?_ _ | refine blk_drew ?_ | refine blk_alloc ?_ _)); refine blk_put (cs := #[.slice none 0 0, .slice none 0 0]) ?_ 0 _ rfl; (with_reducible repeat (first | refine blk_drewN ?_ _ | refine blk_drew ?_ | refine blk_alloc ?_ _)); exact BK343.out))⟩; replace HB : Aside0 (Below w.heap.size w w51) := ⟨(by rw [hw]; exact (zc2 HB GE333 GE343))⟩; clear hw; have hcz52_0 : w51.cell? ⟨gb333, 0, none⟩ = some (.slice A0_0 l0_0.length c0_0) := (blk_cell BK333.out 0).trans rfl; have hcz52_1 : w51.cell? ⟨gb333, 1, none⟩ = some (.slice A0_1 l0_1.length c0_1) := (blk_cell BK333.out 1).trans rfl; have hfz52_0 := blk_frozen BK333.out 0; have hfz52_1 := blk_frozen BK333.out 1) | ((with_reducible refine gate_callee (f := 12) rfl ?_); refine goesL_ (some 37) rfl rfl Try.func12 (by kernel_rfl) rfl #[.agg #[.slice A0_0 l0_0.length c0_0, .slice A0_1 l0_1.length c0_1]] rfl zm ?_; (with_reducible refine (handshakerlaw20_ref.calls (fun k_ => k_ < w.heap.size) _ _ l0_0 (fun k_ => k_ < w.heap.size) _ _ l0_1 t344 t347 _ ?side1 ?side2 A7.out).mono ?_); (case side1 => exact Kd.V_mk HC0_0.out (Kd.F_below (Kd.C_F (Kd.heap_int .i64) HR0_0.out) (zc2 HB GE333 GE343))); (case side2 => exact Kd.V_mk HC0_1.out (Kd.F_below (Kd.C_F (Kd.heap_int .i64) HR0_1.out) (zc2 HB GE333 GE343))); rintro e w53 ⟨v345, v348, rfl, ho0, ho1, hb⟩; refine ⟨_, rfl, ?_⟩; replace HO338 := zVb HO338 hb; replace HO341 := zVb HO341 hb; have HO346 := am (Kd.V_lower (Kd.V_mono (ok' := fun k_ => k_ ≠ gb333 ∧ k_ ≠ gb343) ho0 (fun k_ hk_ => ⟨Or.elim hk_ (fun hs_ => Or.elim hs_ (znl GW333) (znl GW333)) (fun hn_ => (zfr gb333 BK333 hn_)), Or.elim hk_ (fun hs_ => Or.elim hs_ (znl GW343) (znl GW343)) (fun hn_ => (zfr gb343 BK343 hn_))⟩)) (below_size (zc2 HB GE333 GE343))); have HO349 := am (Kd.V_lower (Kd.V_mono (ok' := fun k_ => k_ ≠ gb333 ∧ k_ ≠ gb343) ho1 (fun k_ hk_ => ⟨Or.elim hk_ (fun hs_ => Or.elim hs_ (znl GW333) (znl GW333)) (fun hn_ => (zfr gb333 BK333 hn_)), Or.elim hk_ (fun hs_ => Or.elim hs_ (znl GW343) (znl GW343)) (fun hn_ => (zfr gb343 BK343 hn_))⟩)) (below_size (zc2 HB GE333 GE343))); replace BK333 := zbb BK333 hb; replace BK343 := zbb BK343 hb; replace HB := am (below_step (zc2 HB GE333 GE343) hb); (try clear hb); (try clear hb2); (try clear hk); (try clear hi); (try clear ho0); (try clear ho1); obtain ⟨Ao54, co54, eo54⟩ := Kd.V_slice HO346.out; subst eo54; obtain ⟨Ao55, co55, eo55⟩ := Kd.V_slice HO349.out; subst eo55) | ((with_reducible refine gate_callee (f := 11) rfl ?_); refine goesL_ (some 39) rfl rfl Try.func11 (by kernel_rfl) rfl #[.agg #[.slice Ao54 t344.length co54, .slice Ao55 t347.length co55], .int .i64 a1] rfl zm ?_; (with_reducible refine (handshakerref20_Wait.calls k (fun k_ => (k_ ≠ gb333 ∧ k_ ≠ gb343)) _ _ t344 (fun k_ => (k_ ≠ gb333 ∧ k_ ≠ gb343)) _ _ t347 a1 t350 t353 t356 _ ?side1 ?side2 A8.out).mono ?_); (case side1 => exact HO346.out); (case side2 => exact HO349.out); rintro e w56 ⟨v351, v354, rfl, ho0, ho1, hb⟩; refine ⟨_, rfl, ?_⟩; replace HO338 := zVb HO338 hb; replace HO341 := zVb HO341 hb; replace HO346 := zVb HO346 hb; replace HO349 := zVb HO349 hb; have HO352 := am (Kd.V_lower (Kd.V_mono (ok' := fun k_ => k_ ≠ gb333 ∧ k_ ≠ gb343) ho0 (fun k_ hk_ => ⟨Or.elim hk_ (fun hs_ => Or.elim hs_ (fun hs_ => hs_.1) (fun hs_ => hs_.1)) (fun hn_ => (zfr gb333 BK333 hn_)), Or.elim hk_ (fun hs_ => Or.elim hs_ (fun hs_ => hs_.2) (fun hs_ => hs_.2)) (fun hn_ => (zfr gb343 BK343 hn_))⟩)) (below_size (zc2 HB GE333 GE343))); have HO355 := am (Kd.V_lower (Kd.V_mono (ok' := fun k_ => k_ ≠ gb333 ∧ k_ ≠ gb343) ho1 (fun k_ hk_ => ⟨Or.elim hk_ (fun hs_ => Or.elim hs_ (fun hs_ => hs_.1) (fun hs_ => hs_.1)) (fun hn_ => (zfr gb333 BK333 hn_)), Or.elim hk_ (fun hs_ => Or.elim hs_ (fun hs_ => hs_.2) (fun hs_ => hs_.2)) (fun hn_ => (zfr gb343 BK343 hn_))⟩)) (below_size (zc2 HB GE333 GE343))); replace BK333 := zbb BK333 hb; replace BK343 := zbb BK343 hb; replace HB := am (below_step (zc2 HB GE333 GE343) hb); (try clear hb); (try clear hb2); (try clear hk); (try clear hi); (try clear ho0); (try clear ho1)) | ((with_reducible refine gate_dst (N := 9) rfl ?_); refine box_event ?hg (N := 9) ?hd (cs := #[.slice none 0 0, .slice none 0 0]) (t := 30) ?hr ?_; (case hd => rfl); (case hg => rfl); (case hr => first | (go_simp; done) | (go_simp; rfl)); intro gb357 hg w57 hbox hb; replace HO338 := zVe HO338 hg hb; replace HO341 := zVe HO341 hg hb; replace HO346 := zVe HO346 hg hb; replace HO349 := zVe HO349 hg hb; replace HO352 := zVe HO352 hg hb; replace HO355 := zVe HO355 hg hb; have BK357 := am (hbox); have GW357 := zsz hg (zc2 HB GE333 GE343); have GE357 := zsz hg (zc2 HB GE333 GE343); replace HB := am (below_step (zc2 HB GE333 GE343) hb); have NB333_357 := znt BK333 hg; have NB357_333 := zng BK333 hg; replace BK333 := zbb BK333 hb; have NB343_357 := znt BK343 hg; have NB357_343 := zng BK343 hg; replace BK343 := zbb BK343 hb; clear hb hbox hg; obtain ⟨Ao58, co58, eo58⟩ := Kd.V_slice HO352.out; subst eo58; have hnb59 := NB357_333.out; have hnc59 := NB333_357.out; have hnb60 := NB357_343.out; have hnc60 := NB343_357.out; have hcz61_0 : w57.cell? ⟨gb357, 0, none⟩ = some (.slice none 0 0) := (blk_cell BK357.out 0).trans rfl; have hcz61_1 : w57.cell? ⟨gb357, 1, none⟩ = some (.slice none 0 0) := (blk_cell BK357.out 1).trans rfl; have hfz61_0 := blk_frozen BK357.out 0; have hfz61_1 := blk_frozen BK357.out 1; obtain ⟨Ao62, co62, eo62⟩ := Kd.V_slice HO355.out; subst eo62) | ((with_reducible refine gate_store (t := 30) (p := 9) rfl ?_); refine store_event (t := 30) (p := 9) (v := ?vo_w63) (w1 := ((w57.setCell ⟨gb357, 0, none⟩ (.slice Ao58 t350.length co58)).setCell ⟨gb357, 1, none⟩ (.slice Ao62 t353.length co62))) ?hg ?ho ?hn ?hr ?_; (case ho => rfl); (case hg => rfl); (case hn => rfl); (case hr => first | (go_simp; done) | (go_simp; rfl)); intro w63 hw; replace HO338 := zVm hw HO338 (fun k_ => k_ ≠ gb333 ∧ k_ ≠ gb343 ∧ k_ ≠ gb357) (fun _ hk => hk.2) (fun _ hk => ⟨hk.1.1.1, ⟨hk.1.1.2, hk.1.2⟩⟩); replace HO341 := zVm hw HO341 (fun k_ => k_ ≠ gb333 ∧ k_ ≠ gb343 ∧ k_ ≠ gb357) (fun _ hk => hk.2) (fun _ hk => ⟨hk.1.1.1, ⟨hk.1.1.2, hk.1.2⟩⟩); replace HO346 := zVm hw HO346 (fun k_ => k_ ≠ gb333 ∧ k_ ≠ gb343 ∧ k_ ≠ gb357) (fun _ hk => hk.2) (fun _ hk => ⟨hk.1.1.1, ⟨hk.1.1.2, hk.1.2⟩⟩); replace HO349 := zVm hw HO349 (fun k_ => k_ ≠ gb333 ∧ k_ ≠ gb343 ∧ k_ ≠ gb357) (fun _ hk => hk.2) (fun _ hk => ⟨hk.1.1.1, ⟨hk.1.1.2, hk.1.2⟩⟩); replace HO352 := zVm hw HO352 (fun k_ => k_ ≠ gb333 ∧ k_ ≠ gb343 ∧ k_ ≠ gb357) (fun _ hk => hk.2) (fun _ hk => ⟨hk.1.1.1, ⟨hk.1.1.2, hk.1.2⟩⟩); replace HO355 := zVm hw HO355 (fun k_ => k_ ≠ gb333 ∧ k_ ≠ gb343 ∧ k_ ≠ gb357) (fun _ hk => hk.2) (fun _ hk => ⟨hk.1.1.1, ⟨hk.1.1.2, hk.1.2⟩⟩); replace BK333 := zks hw BK333 NB333_357; replace BK343 := zks hw BK343 NB343_357; replace BK357 : Aside0 (w63.heap[gb357]? = some (.cells #[.slice Ao58 t350.length co58, .slice Ao62 t353.length co62] 30 (0, 0))) := ⟨(by rw [hw]; exact (by (with_reducible repeat (first | refine blk_drewN ?_ _ | refine blk_drew ?_ | refine blk_alloc ?_ _)); refine blk_put (cs := #[.slice Ao58 t350.length co58, .slice none 0 0]) ?_ 1 _ rfl; (with_reducible repeat (first | refine blk_drewN ?_ _ | refine blk_drew ?_ | refine blk_alloc ?_ _)); refine blk_put (cs := #[.slice none 0 0, .slice none 0 0]) ?_ 0 _ rfl; (with_reducible repeat (first | refine blk_drewN ?_ _ | refine blk_drew ?_ | refine blk_alloc ?_ _)); exact BK357.out))⟩; replace HB : Aside0 (Below w.heap.size w w63) := ⟨(by rw [hw]; exact (zc3 HB GE333 GE343 GE357))⟩; clear hw; have hcz64_0 : w63.cell? ⟨gb333, 0, none⟩ = some (.slice A0_0 l0_0.length c0_0) := (blk_cell BK333.out 0).trans rfl; have hcz64_1 : w63.cell? ⟨gb333, 1, none⟩ = some (.slice A0_1 l0_1.length c0_1) := (blk_cell BK333.out 1).trans rfl; have hfz64_0 := blk_frozen BK333.out 0; have hfz64_1 := blk_frozen BK333.out 1) | ((with_reducible refine gate_callee (f := 13) rfl ?_); refine goesL_ (some 45) rfl rfl Try.func13 (by kernel_rfl) rfl #[.agg #[.slice A0_0 l0_0.length c0_0, .slice A0_1 l0_1.length c0_1], .int .i64 a2] rfl zm ?_; (with_reducible refine (cond_Signal.calls k (fun k_ => k_ < w.heap.size) _ _ l0_0 (fun k_ => k_ < w.heap.size) _ _ l0_1 a2 t358 t361 t364 _ ?side1 ?side2 A9.out).mono ?_); (case side1 => exact Kd.V_mk HC0_0.out (Kd.F_below (Kd.C_F (Kd.heap_int .i64) HR0_0.out) (zc3 HB GE333 GE343 GE357))); (case side2 => exact Kd.V_mk HC0_1.out (Kd.F_below (Kd.C_F (Kd.heap_int .i64) HR0_1.out) (zc3 HB GE333 GE343 GE357))); rintro e w65 ⟨v359, v362, v365, rfl, ho0, ho1, ho2, hb⟩; refine ⟨_, rfl, ?_⟩; replace HO338 := zVb HO338 hb; replace HO341 := zVb HO341 hb; replace HO346 := zVb HO346 hb; replace HO349 := zVb HO349 hb; replace HO352 := zVb HO352 hb; replace HO355 := zVb HO355 hb; have HO360 := am (Kd.V_lower (Kd.V_mono (ok' := fun k_ => k_ ≠ gb333 ∧ k_ ≠ gb343 ∧ k_ ≠ gb357) ho0 (fun k_ hk_ => ⟨Or.elim hk_ (fun hs_ => Or.elim hs_ (znl GW333) (znl GW333)) (fun hn_ => (zfr gb333 BK333 hn_)), Or.elim hk_ (fun hs_ => Or.elim hs_ (znl GW343) (znl GW343)) (fun hn_ => (zfr gb343 BK343 hn_)), Or.elim hk_ (fun hs_ => Or.elim hs_ (znl GW357) (znl GW357)) (fun hn_ => (zfr gb357 BK357 hn_))⟩)) (below_size (zc3 HB GE333 GE343 GE357))); have HO363 := am (Kd.V_lower (Kd.V_mono (ok' := fun k_ => k_ ≠ gb333 ∧ k_ ≠ gb343 ∧ k_ ≠ gb357) ho1 (fun k_ hk_ => ⟨Or.elim hk_ (fun hs_ => Or.elim hs_ (znl GW333) (znl GW333)) (fun hn_ => (zfr gb333 BK333 hn_)), Or.elim hk_ (fun hs_ => Or.elim hs_ (znl GW343) (znl GW343)) (fun hn_ => (zfr gb343 BK343 hn_)), Or.elim hk_ (fun hs_ => Or.elim hs_ (znl GW357) (znl GW357)) (fun hn_ => (zfr gb357 BK357 hn_))⟩)) (below_size (zc3 HB GE333 GE343 GE357))); have HO366 := am (Kd.V_lower (Kd.V_mono (ok' := fun k_ => k_ ≠ gb333 ∧ k_ ≠ gb343 ∧ k_ ≠ gb357) ho2 (fun k_ hk_ => ⟨Or.elim hk_ (fun hs_ => Or.elim hs_ (znl GW333) (znl GW333)) (fun hn_ => (zfr gb333 BK333 hn_)), Or.elim hk_ (fun hs_ => Or.elim hs_ (znl GW343) (znl GW343)) (fun hn_ => (zfr gb343 BK343 hn_)), Or.elim hk_ (fun hs_ => Or.elim hs_ (znl GW357) (znl GW357)) (fun hn_ => (zfr gb357 BK357 hn_))⟩)) (below_size (zc3 HB GE333 GE343 GE357))); replace BK333 := zbb BK333 hb; replace BK343 := zbb BK343 hb; replace BK357 := zbb BK357 hb; replace HB := am (below_step (zc3 HB GE333 GE343 GE357) hb); (try clear hb); (try clear hb2); (try clear hk); (try clear hi); (try clear ho0); (try clear ho1); (try clear ho2)) | ((with_reducible refine gate_dst (N := 11) rfl ?_); refine box_event ?hg (N := 11) ?hd (cs := #[.slice none 0 0, .slice none 0 0]) (t := 24) ?hr ?_; (case hd => rfl); (case hg => rfl); (case hr => first | (go_simp; done) | (go_simp; rfl)); intro gb367 hg w66 hbox hb; replace HO338 := zVe HO338 hg hb; replace HO341 := zVe HO341 hg hb; replace HO346 := zVe HO346 hg hb; replace HO349 := zVe HO349 hg hb; replace HO352 := zVe HO352 hg hb; replace HO355 := zVe HO355 hg hb; replace HO360 := zVe HO360 hg hb; replace HO363 := zVe HO363 hg hb; replace HO366 := zVe HO366 hg hb; have BK367 := am (hbox); have GW367 := zsz hg (zc3 HB GE333 GE343 GE357); have GE367 := zsz hg (zc3 HB GE333 GE343 GE357); replace HB := am (below_step (zc3 HB GE333 GE343 GE357) hb); have NB333_367 := znt BK333 hg; have NB367_333 := zng BK333 hg; replace BK333 := zbb BK333 hb; have NB343_367 := znt BK343 hg; have NB367_343 := zng BK343 hg; replace BK343 := zbb BK343 hb; have NB357_367 := znt BK357 hg; have NB367_357 := zng BK357 hg; replace BK357 := zbb BK357 hb; clear hb hbox hg; obtain ⟨Ao67, co67, eo67⟩ := Kd.V_slice HO360.out; subst eo67; have hnb68 := NB367_333.out; have hnc68 := NB333_367.out; have hnb69 := NB367_343.out; have hnc69 := NB343_367.out; have hnb70 := NB367_357.out; have hnc70 := NB357_367.out; have hcz71_0 : w66.cell? ⟨gb367, 0, none⟩ = some (.slice none 0 0) := (blk_cell BK367.out 0).trans rfl; have hcz71_1 : w66.cell? ⟨gb367, 1, none⟩ = some (.slice none 0 0) := (blk_cell BK367.out 1).trans rfl; have hfz71_0 := blk_frozen BK367.out 0; have hfz71_1 := blk_frozen BK367.out 1; obtain ⟨Ao72, co72, eo72⟩ := Kd.V_slice HO363.out; subst eo72) | ((with_reducible refine gate_store (t := 24) (p := 11) rfl ?_); refine store_event (t := 24) (p := 11) (v := ?vo_w73) (w1 := ((w66.setCell ⟨gb367, 0, none⟩ (.slice Ao67 t358.length co67)).setCell ⟨gb367, 1, none⟩ (.slice Ao72 t361.length co72))) ?hg ?ho ?hn ?hr ?_; (case ho => rfl); (case hg => rfl); (case hn => rfl); (case hr => first | (go_simp; done) | (go_simp; rfl)); intro w73 hw; replace HO338 := zVm hw HO338 (fun k_ => k_ ≠ gb333 ∧ k_ ≠ gb343 ∧ k_ ≠ gb357 ∧ k_ ≠ gb367) (fun _ hk => hk.2) (fun _ hk => ⟨hk.1.1.1, ⟨hk.1.1.2.1, ⟨hk.1.1.2.2, hk.1.2⟩⟩⟩); replace HO341 := zVm hw HO341 (fun k_ => k_ ≠ gb333 ∧ k_ ≠ gb343 ∧ k_ ≠ gb357 ∧ k_ ≠ gb367) (fun _ hk => hk.2) (fun _ hk => ⟨hk.1.1.1, ⟨hk.1.1.2.1, ⟨hk.1.1.2.2, hk.1.2⟩⟩⟩); replace HO346 := zVm hw HO346 (fun k_ => k_ ≠ gb333 ∧ k_ ≠ gb343 ∧ k_ ≠ gb357 ∧ k_ ≠ gb367) (fun _ hk => hk.2) (fun _ hk => ⟨hk.1.1.1, ⟨hk.1.1.2.1, ⟨hk.1.1.2.2, hk.1.2⟩⟩⟩); replace HO349 := zVm hw HO349 (fun k_ => k_ ≠ gb333 ∧ k_ ≠ gb343 ∧ k_ ≠ gb357 ∧ k_ ≠ gb367) (fun _ hk => hk.2) (fun _ hk => ⟨hk.1.1.1, ⟨hk.1.1.2.1, ⟨hk.1.1.2.2, hk.1.2⟩⟩⟩); replace HO352 := zVm hw HO352 (fun k_ => k_ ≠ gb333 ∧ k_ ≠ gb343 ∧ k_ ≠ gb357 ∧ k_ ≠ gb367) (fun _ hk => hk.2) (fun _ hk => ⟨hk.1.1.1, ⟨hk.1.1.2.1, ⟨hk.1.1.2.2, hk.1.2⟩⟩⟩); replace HO355 := zVm hw HO355 (fun k_ => k_ ≠ gb333 ∧ k_ ≠ gb343 ∧ k_ ≠ gb357 ∧ k_ ≠ gb367) (fun _ hk => hk.2) (fun _ hk => ⟨hk.1.1.1, ⟨hk.1.1.2.1, ⟨hk.1.1.2.2, hk.1.2⟩⟩⟩); replace HO360 := zVm hw HO360 (fun k_ => k_ ≠ gb333 ∧ k_ ≠ gb343 ∧ k_ ≠ gb357 ∧ k_ ≠ gb367) (fun _ hk => hk.2) (fun _ hk => ⟨hk.1.1.1, ⟨hk.1.1.2.1, ⟨hk.1.1.2.2, hk.1.2⟩⟩⟩); replace HO363 := zVm hw HO363 (fun k_ => k_ ≠ gb333 ∧ k_ ≠ gb343 ∧ k_ ≠ gb357 ∧ k_ ≠ gb367) (fun _ hk => hk.2) (fun _ hk => ⟨hk.1.1.1, ⟨hk.1.1.2.1, ⟨hk.1.1.2.2, hk.1.2⟩⟩⟩); replace HO366 := zVm hw HO366 (fun k_ => k_ ≠ gb333 ∧ k_ ≠ gb343 ∧ k_ ≠ gb357 ∧ k_ ≠ gb367) (fun _ hk => hk.2) (fun _ hk => ⟨hk.1.1.1, ⟨hk.1.1.2.1, ⟨hk.1.1.2.2, hk.1.2⟩⟩⟩); replace BK333 := zks hw BK333 NB333_367; replace BK343 := zks hw BK343 NB343_367; replace BK357 := zks hw BK357 NB357_367; replace BK367 : Aside0 (w73.heap[gb367]? = some (.cells #[.slice Ao67 t358.length co67, .slice Ao72 t361.length co72] 24 (0, 0))) := ⟨(by rw [hw]; exact (by (with_reducible repeat (first | refine blk_drewN ?_ _ | refine blk_drew ?_ | refine blk_alloc ?_ _)); refine blk_put (cs := #[.slice Ao67 t358.length co67, .slice none 0 0]) ?_ 1 _ rfl; (with_reducible repeat (first | refine blk_drewN ?_ _ | refine blk_drew ?_ | refine blk_alloc ?_ _)); refine blk_put (cs := #[.slice none 0 0, .slice none 0 0]) ?_ 0 _ rfl; (with_reducible repeat (first | refine blk_drewN ?_ _ | refine blk_drew ?_ | refine blk_alloc ?_ _)); exact BK367.out))⟩; replace HB : Aside0 (Below w.heap.size w w73) := ⟨(by rw [hw]; exact (zc4 HB GE333 GE343 GE357 GE367))⟩; clear hw; have hcz74_0 : w73.cell? ⟨gb333, 0, none⟩ = some (.slice A0_0 l0_0.length c0_0) := (blk_cell BK333.out 0).trans rfl; have hcz74_1 : w73.cell? ⟨gb333, 1, none⟩ = some (.slice A0_1 l0_1.length c0_1) := (blk_cell BK333.out 1).trans rfl; have hfz74_0 := blk_frozen BK333.out 0; have hfz74_1 := blk_frozen BK333.out 1) | ((with_reducible refine gate_callee (f := 12) rfl ?_); refine goesL_ (some 50) rfl rfl Try.func12 (by kernel_rfl) rfl #[.agg #[.slice A0_0 l0_0.length c0_0, .slice A0_1 l0_1.length c0_1]] rfl zm ?_; (with_reducible refine (handshakerlaw20_ref.calls (fun k_ => k_ < w.heap.size) _ _ l0_0 (fun k_ => k_ < w.heap.size) _ _ l0_1 t368 t371 _ ?side1 ?side2 A10.out).mono ?_); (case side1 => exact Kd.V_mk HC0_0.out (Kd.F_below (Kd.C_F (Kd.heap_int .i64) HR0_0.out) (zc4 HB GE333 GE343 GE357 GE367))); (case side2 => exact Kd.V_mk HC0_1.out (Kd.F_below (Kd.C_F (Kd.heap_int .i64) HR0_1.out) (zc4 HB GE333 GE343 GE357 GE367))); rintro e w75 ⟨v369, v372, rfl, ho0, ho1, hb⟩; refine ⟨_, rfl, ?_⟩; replace HO338 := zVb HO338 hb; replace HO341 := zVb HO341 hb; replace HO346 := zVb HO346 hb; replace HO349 := zVb HO349 hb; replace HO352 := zVb HO352 hb; replace HO355 := zVb HO355 hb; replace HO360 := zVb HO360 hb; replace HO363 := zVb HO363 hb; replace HO366 := zVb HO366 hb; have HO370 := am (Kd.V_lower (Kd.V_mono (ok' := fun k_ => k_ ≠ gb333 ∧ k_ ≠ gb343 ∧ k_ ≠ gb357 ∧ k_ ≠ gb367) ho0 (fun k_ hk_ => ⟨Or.elim hk_ (fun hs_ => Or.elim hs_ (znl GW333) (znl GW333)) (fun hn_ => (zfr gb333 BK333 hn_)), Or.elim hk_ (fun hs_ => Or.elim hs_ (znl GW343) (znl GW343)) (fun hn_ => (zfr gb343 BK343 hn_)), Or.elim hk_ (fun hs_ => Or.elim hs_ (znl GW357) (znl GW357)) (fun hn_ => (zfr gb357 BK357 hn_)), Or.elim hk_ (fun hs_ => Or.elim hs_ (znl GW367) (znl GW367)) (fun hn_ => (zfr gb367 BK367 hn_))⟩)) (below_size (zc4 HB GE333 GE343 GE357 GE367))); have HO373 := am (Kd.V_lower (Kd.V_mono (ok' := fun k_ => k_ ≠ gb333 ∧ k_ ≠ gb343 ∧ k_ ≠ gb357 ∧ k_ ≠ gb367) ho1 (fun k_ hk_ => ⟨Or.elim hk_ (fun hs_ => Or.elim hs_ (znl GW333) (znl GW333)) (fun hn_ => (zfr gb333 BK333 hn_)), Or.elim hk_ (fun hs_ => Or.elim hs_ (znl GW343) (znl GW343)) (fun hn_ => (zfr gb343 BK343 hn_)), Or.elim hk_ (fun hs_ => Or.elim hs_ (znl GW357) (znl GW357)) (fun hn_ => (zfr gb357 BK357 hn_)), Or.elim hk_ (fun hs_ => Or.elim hs_ (znl GW367) (znl GW367)) (fun hn_ => (zfr gb367 BK367 hn_))⟩)) (below_size (zc4 HB GE333 GE343 GE357 GE367))); replace BK333 := zbb BK333 hb; replace BK343 := zbb BK343 hb; replace BK357 := zbb BK357 hb; replace BK367 := zbb BK367 hb; replace HB := am (below_step (zc4 HB GE333 GE343 GE357 GE367) hb); (try clear hb); (try clear hb2); (try clear hk); (try clear hi); (try clear ho0); (try clear ho1); obtain ⟨Ao76, co76, eo76⟩ := Kd.V_slice HO370.out; subst eo76; obtain ⟨Ao77, co77, eo77⟩ := Kd.V_slice HO373.out; subst eo77) | ((with_reducible refine gate_callee (f := 14) rfl ?_); refine goesL_ (some 52) rfl rfl Try.func14 (by kernel_rfl) rfl #[.agg #[.slice Ao76 t368.length co76, .slice Ao77 t371.length co77], .int .i64 a2] rfl zm ?_; (with_reducible refine (handshakerref20_Signal.calls k (fun k_ => (k_ ≠ gb333 ∧ (k_ ≠ gb343 ∧ (k_ ≠ gb357 ∧ k_ ≠ gb367)))) _ _ t368 (fun k_ => (k_ ≠ gb333 ∧ (k_ ≠ gb343 ∧ (k_ ≠ gb357 ∧ k_ ≠ gb367)))) _ _ t371 a2 t374 t377 t380 _ ?side1 ?side2 A11.out).mono ?_); (case side1 => exact HO370.out); (case side2 => exact HO373.out); rintro e w78 ⟨v375, v378, v381, rfl, ho0, ho1, ho2, hb⟩; refine ⟨_, rfl, ?_⟩; replace HO338 := am (Kd.V_elder' (zV HO338) (Kd.R_base ho2) hb); replace HO341 := am (Kd.V_elder' (zV HO341) (Kd.R_base ho2) hb); replace HO346 := am (Kd.V_elder' (zV HO346) (Kd.R_base ho2) hb); replace HO349 := am (Kd.V_elder' (zV HO349) (Kd.R_base ho2) hb); replace HO352 := am (Kd.V_elder' (zV HO352) (Kd.R_base ho2) hb); replace HO355 := am (Kd.V_elder' (zV HO355) (Kd.R_base ho2) hb); replace HO360 := am (Kd.V_elder' (zV HO360) (Kd.R_base ho2) hb); replace HO363 := am (Kd.V_elder' (zV HO363) (Kd.R_base ho2) hb); replace HO366 := am (Kd.V_elder' (zV HO366) (Kd.R_base ho2) hb); replace HO370 := am (Kd.V_elder' (zV HO370) (Kd.R_base ho2) hb); replace HO373 := am (Kd.V_elder' (zV HO373) (Kd.R_base ho2) hb); have HO376 := am (Kd.V_lower (Kd.V_mono (ok' := fun k_ => some k_ ≠ (v381 : Value).ownBlock ∧ k_ ≠ gb333 ∧ k_ ≠ gb343 ∧ k_ ≠ gb357 ∧ k_ ≠ gb367) ho0 (fun k_ hk_ => ⟨hk_.2, Or.elim hk_.1 (fun hs_ => Or.elim hs_ (fun hs_ => hs_.1) (fun hs_ => hs_.1)) (fun hn_ => (zfr gb333 BK333 hn_)), Or.elim hk_.1 (fun hs_ => Or.elim hs_ (fun hs_ => hs_.2.1) (fun hs_ => hs_.2.1)) (fun hn_ => (zfr gb343 BK343 hn_)), Or.elim hk_.1 (fun hs_ => Or.elim hs_ (fun hs_ => hs_.2.2.1) (fun hs_ => hs_.2.2.1)) (fun hn_ => (zfr gb357 BK357 hn_)), Or.elim hk_.1 (fun hs_ => Or.elim hs_ (fun hs_ => hs_.2.2.2) (fun hs_ => hs_.2.2.2)) (fun hn_ => (zfr gb367 BK367 hn_))⟩)) (below_size (zc4 HB GE333 GE343 GE357 GE367))); have HO379 := am (Kd.V_lower (Kd.V_mono (ok' := fun k_ => some k_ ≠ (v381 : Value).ownBlock ∧ k_ ≠ gb333 ∧ k_ ≠ gb343 ∧ k_ ≠ gb357 ∧ k_ ≠ gb367) ho1 (fun k_ hk_ => ⟨hk_.2, Or.elim hk_.1 (fun hs_ => Or.elim hs_ (fun hs_ => hs_.1) (fun hs_ => hs_.1)) (fun hn_ => (zfr gb333 BK333 hn_)), Or.elim hk_.1 (fun hs_ => Or.elim hs_ (fun hs_ => hs_.2.1) (fun hs_ => hs_.2.1)) (fun hn_ => (zfr gb343 BK343 hn_)), Or.elim hk_.1 (fun hs_ => Or.elim hs_ (fun hs_ => hs_.2.2.1) (fun hs_ => hs_.2.2.1)) (fun hn_ => (zfr gb357 BK357 hn_)), Or.elim hk_.1 (fun hs_ => Or.elim hs_ (fun hs_ => hs_.2.2.2) (fun hs_ => hs_.2.2.2)) (fun hn_ => (zfr gb367 BK367 hn_))⟩)) (below_size (zc4 HB GE333 GE343 GE357 GE367))); have HO382 := am (Kd.R_lower (Kd.R_mono (ok' := fun k_ => True) ho2 (fun _ hk_ => trivial)) (below_size (zc4 HB GE333 GE343 GE357 GE367))); replace BK333 := zbb BK333 hb; replace BK343 := zbb BK343 hb; replace BK357 := zbb BK357 hb; replace BK367 := zbb BK367 hb; replace HB := am (below_step (zc4 HB GE333 GE343 GE357 GE367) hb); (try clear hb); (try clear hb2); (try clear hk); (try clear hi); (try clear ho0); (try clear ho1); (try clear ho2)) | ((with_reducible refine gate_dst (N := 13) rfl ?_); refine box_event ?hg (N := 13) ?hd (cs := #[.slice none 0 0, .slice none 0 0]) (t := 30) ?hr ?_; (case hd => rfl); (case hg => rfl); (case hr => first | (go_simp; done) | (go_simp; rfl)); intro gb383 hg w79 hbox hb; replace HO338 := zVe HO338 hg hb; replace HO341 := zVe HO341 hg hb; replace HO346 := zVe HO346 hg hb; replace HO349 := zVe HO349 hg hb; replace HO352 := zVe HO352 hg hb; replace HO355 := zVe HO355 hg hb; replace HO360 := zVe HO360 hg hb; replace HO363 := zVe HO363 hg hb; replace HO366 := zVe HO366 hg hb; replace HO370 := zVe HO370 hg hb; replace HO373 := zVe HO373 hg hb; replace HO376 := zVe HO376 hg hb; replace HO379 := zVe HO379 hg hb; replace HO382 := zRb HO382 hb; have BK383 := am (hbox); have GW383 := zsz hg (zc4 HB GE333 GE343 GE357 GE367); have GE383 := zsz hg (zc4 HB GE333 GE343 GE357 GE367); replace HB := am (below_step (zc4 HB GE333 GE343 GE357 GE367) hb); have NB333_383 := znt BK333 hg; have NB383_333 := zng BK333 hg; replace BK333 := zbb BK333 hb; have NB343_383 := znt BK343 hg; have NB383_343 := zng BK343 hg; replace BK343 := zbb BK343 hb; have NB357_383 := znt BK357 hg; have NB383_357 := zng BK357 hg; replace BK357 := zbb BK357 hb; have NB367_383 := znt BK367 hg; have NB383_367 := zng BK367 hg; replace BK367 := zbb BK367 hb; clear hb hbox hg; obtain ⟨Ao80, co80, eo80⟩ := Kd.V_slice HO376.out; subst eo80; have hnb81 := NB383_333.out; have hnc81 := NB333_383.out; have hnb82 := NB383_343.out; have hnc82 := NB343_383.out; have hnb83 := NB383_357.out; have hnc83 := NB357_383.out; have hnb84 := NB383_367.out; have hnc84 := NB367_383.out; have hcz85_0 : w79.cell? ⟨gb383, 0, none⟩ = some (.slice none 0 0) := (blk_cell BK383.out 0).trans rfl; have hcz85_1 : w79.cell? ⟨gb383, 1, none⟩ = some (.slice none 0 0) := (blk_cell BK383.out 1).trans rfl; have hfz85_0 := blk_frozen BK383.out 0; have hfz85_1 := blk_frozen BK383.out 1; obtain ⟨Ao86, co86, eo86⟩ := Kd.V_slice HO379.out; subst eo86) | ((with_reducible refine gate_store (t := 30) (p := 13) rfl ?_); refine store_event (t := 30) (p := 13) (v := ?vo_w87) (w1 := ((w79.setCell ⟨gb383, 0, none⟩ (.slice Ao80 t374.length co80)).setCell ⟨gb383, 1, none⟩ (.slice Ao86 t377.length co86))) ?hg ?ho ?hn ?hr ?_; (case ho => rfl); (case hg => rfl); (case hn => rfl); (case hr => first | (go_simp; done) | (go_simp; rfl)); intro w87 hw; replace HO338 := zVm hw HO338 (fun k_ => some k_ ≠ (v381 : Value).ownBlock ∧ k_ ≠ gb333 ∧ k_ ≠ gb343 ∧ k_ ≠ gb357 ∧ k_ ≠ gb367 ∧ k_ ≠ gb383) (fun _ hk => hk.2) (fun _ hk => ⟨hk.1.1.2, ⟨hk.1.1.1.1, ⟨hk.1.1.1.2.1, ⟨hk.1.1.1.2.2.1, ⟨hk.1.1.1.2.2.2, hk.1.2⟩⟩⟩⟩⟩); replace HO341 := zVm hw HO341 (fun k_ => some k_ ≠ (v381 : Value).ownBlock ∧ k_ ≠ gb333 ∧ k_ ≠ gb343 ∧ k_ ≠ gb357 ∧ k_ ≠ gb367 ∧ k_ ≠ gb383) (fun _ hk => hk.2) (fun _ hk => ⟨hk.1.1.2, ⟨hk.1.1.1.1, ⟨hk.1.1.1.2.1, ⟨hk.1.1.1.2.2.1, ⟨hk.1.1.1.2.2.2, hk.1.2⟩⟩⟩⟩⟩); replace HO346 := zVm hw HO346 (fun k_ => some k_ ≠ (v381 : Value).ownBlock ∧ k_ ≠ gb333 ∧ k_ ≠ gb343 ∧ k_ ≠ gb357 ∧ k_ ≠ gb367 ∧ k_ ≠ gb383) (fun _ hk => hk.2) (fun _ hk => ⟨hk.1.1.2, ⟨hk.1.1.1.1, ⟨hk.1.1.1.2.1, ⟨hk.1.1.1.2.2.1, ⟨hk.1.1.1.2.2.2, hk.1.2⟩⟩⟩⟩⟩); replace HO349 := zVm hw HO349 (fun k_ => some k_ ≠ (v381 : Value).ownBlock ∧ k_ ≠ gb333 ∧ k_ ≠ gb343 ∧ k_ ≠ gb357 ∧ k_ ≠ gb367 ∧ k_ ≠ gb383) (fun _ hk => hk.2) (fun _ hk => ⟨hk.1.1.2, ⟨hk.1.1.1.1, ⟨hk.1.1.1.2.1, ⟨hk.1.1.1.2.2.1, ⟨hk.1.1.1.2.2.2, hk.1.2⟩⟩⟩⟩⟩); replace HO352 := zVm hw HO352 (fun k_ => some k_ ≠ (v381 : Value).ownBlock ∧ k_ ≠ gb333 ∧ k_ ≠ gb343 ∧ k_ ≠ gb357 ∧ k_ ≠ gb367 ∧ k_ ≠ gb383) (fun _ hk => hk.2) (fun _ hk => ⟨hk.1.1.2, ⟨hk.1.1.1.1, ⟨hk.1.1.1.2.1, ⟨hk.1.1.1.2.2.1, ⟨hk.1.1.1.2.2.2, hk.1.2⟩⟩⟩⟩⟩); replace HO355 := zVm hw HO355 (fun k_ => some k_ ≠ (v381 : Value).ownBlock ∧ k_ ≠ gb333 ∧ k_ ≠ gb343 ∧ k_ ≠ gb357 ∧ k_ ≠ gb367 ∧ k_ ≠ gb383) (fun _ hk => hk.2) (fun _ hk => ⟨hk.1.1.2, ⟨hk.1.1.1.1, ⟨hk.1.1.1.2.1, ⟨hk.1.1.1.2.2.1, ⟨hk.1.1.1.2.2.2, hk.1.2⟩⟩⟩⟩⟩); replace HO360 := zVm hw HO360 (fun k_ => some k_ ≠ (v381 : Value).ownBlock ∧ k_ ≠ gb333 ∧ k_ ≠ gb343 ∧ k_ ≠ gb357 ∧ k_ ≠ gb367 ∧ k_ ≠ gb383) (fun _ hk => hk.2) (fun _ hk => ⟨hk.1.1.2, ⟨hk.1.1.1.1, ⟨hk.1.1.1.2.1, ⟨hk.1.1.1.2.2.1, ⟨hk.1.1.1.2.2.2, hk.1.2⟩⟩⟩⟩⟩); replace HO363 := zVm hw HO363 (fun k_ => some k_ ≠ (v381 : Value).ownBlock ∧ k_ ≠ gb333 ∧ k_ ≠ gb343 ∧ k_ ≠ gb357 ∧ k_ ≠ gb367 ∧ k_ ≠ gb383) (fun _ hk => hk.2) (fun _ hk => ⟨hk.1.1.2, ⟨hk.1.1.1.1, ⟨hk.1.1.1.2.1, ⟨hk.1.1.1.2.2.1, ⟨hk.1.1.1.2.2.2, hk.1.2⟩⟩⟩⟩⟩); replace HO366 := zVm hw HO366 (fun k_ => some k_ ≠ (v381 : Value).ownBlock ∧ k_ ≠ gb333 ∧ k_ ≠ gb343 ∧ k_ ≠ gb357 ∧ k_ ≠ gb367 ∧ k_ ≠ gb383) (fun _ hk => hk.2) (fun _ hk => ⟨hk.1.1.2, ⟨hk.1.1.1.1, ⟨hk.1.1.1.2.1, ⟨hk.1.1.1.2.2.1, ⟨hk.1.1.1.2.2.2, hk.1.2⟩⟩⟩⟩⟩); replace HO370 := zVm hw HO370 (fun k_ => some k_ ≠ (v381 : Value).ownBlock ∧ k_ ≠ gb333 ∧ k_ ≠ gb343 ∧ k_ ≠ gb357 ∧ k_ ≠ gb367 ∧ k_ ≠ gb383) (fun _ hk => hk.2) (fun _ hk => ⟨hk.1.1.2, ⟨hk.1.1.1.1, ⟨hk.1.1.1.2.1, ⟨hk.1.1.1.2.2.1, ⟨hk.1.1.1.2.2.2, hk.1.2⟩⟩⟩⟩⟩); replace HO373 := zVm hw HO373 (fun k_ => some k_ ≠ (v381 : Value).ownBlock ∧ k_ ≠ gb333 ∧ k_ ≠ gb343 ∧ k_ ≠ gb357 ∧ k_ ≠ gb367 ∧ k_ ≠ gb383) (fun _ hk => hk.2) (fun _ hk => ⟨hk.1.1.2, ⟨hk.1.1.1.1, ⟨hk.1.1.1.2.1, ⟨hk.1.1.1.2.2.1, ⟨hk.1.1.1.2.2.2, hk.1.2⟩⟩⟩⟩⟩); replace HO376 := zVm hw HO376 (fun k_ => some k_ ≠ (v381 : Value).ownBlock ∧ k_ ≠ gb333 ∧ k_ ≠ gb343 ∧ k_ ≠ gb357 ∧ k_ ≠ gb367 ∧ k_ ≠ gb383) (fun _ hk => hk.2) (fun _ hk => ⟨hk.1.1.1, ⟨hk.1.1.2.1, ⟨hk.1.1.2.2.1, ⟨hk.1.1.2.2.2.1, ⟨hk.1.1.2.2.2.2, hk.1.2⟩⟩⟩⟩⟩); replace HO379 := zVm hw HO379 (fun k_ => some k_ ≠ (v381 : Value).ownBlock ∧ k_ ≠ gb333 ∧ k_ ≠ gb343 ∧ k_ ≠ gb357 ∧ k_ ≠ gb367 ∧ k_ ≠ gb383) (fun _ hk => hk.2) (fun _ hk => ⟨hk.1.1.1, ⟨hk.1.1.2.1, ⟨hk.1.1.2.2.1, ⟨hk.1.1.2.2.2.1, ⟨hk.1.1.2.2.2.2, hk.1.2⟩⟩⟩⟩⟩); replace HO382 : Aside0 (Kd.R (Kd.int .i64) 3 w87 w.heap.size (fun _ => True) v381 t380) := ⟨(by rw [hw]; exact (by (with_reducible repeat (first | apply Kd.R_alloc | apply Kd.R_drewN | apply Kd.R_drew)); exact Kd.R_mono (Kd.R_far (p := ⟨gb383, 1, none⟩) (Kd.R_far (p := ⟨gb383, 0, none⟩) (Kd.R_types HO382.out BK383.out (by decide)) (fun _ hk => hk.2) (.slice Ao80 t374.length co80)) (fun _ hk => hk.2) (.slice Ao86 t377.length co86)) (fun _ hk => trivial)))⟩; replace BK333 := zks hw BK333 NB333_383; replace BK343 := zks hw BK343 NB343_383; replace BK357 := zks hw BK357 NB357_383; replace BK367 := zks hw BK367 NB367_383; replace BK383 : Aside0 (w87.heap[gb383]? = some (.cells #[.slice Ao80 t374.length co80, .slice Ao86 t377.length co86] 30 (0, 0))) := ⟨(by rw [hw]; exact (by (with_reducible repeat (first | refine blk_drewN ?_ _ | refine blk_drew ?_ | refine blk_alloc ?_ _)); refine blk_put (cs := #[.slice Ao80 t374.length co80, .slice none 0 0]) ?_ 1 _ rfl; (with_reducible repeat (first | refine blk_drewN ?_ _ | refine blk_drew ?_ | refine blk_alloc ?_ _)); refine blk_put (cs := #[.slice none 0 0, .slice none 0 0]) ?_ 0 _ rfl; (with_reducible repeat (first | refine blk_drewN ?_ _ | refine blk_drew ?_ | refine blk_alloc ?_ _)); exact BK383.out))⟩; replace HB : Aside0 (Below w.heap.size w w87) := ⟨(by rw [hw]; exact (zc5 HB GE333 GE343 GE357 GE367 GE383))⟩; clear hw; have hcz88_0 : w87.cell? ⟨gb333, 0, none⟩ = some (.slice A0_0 l0_0.length c0_0) := (blk_cell BK333.out 0).trans rfl; have hcz88_1 : w87.cell? ⟨gb333, 1, none⟩ = some (.slice A0_1 l0_1.length c0_1) := (blk_cell BK333.out 1).trans rfl; have hfz88_0 := blk_frozen BK333.out 0; have hfz88_1 := blk_frozen BK333.out 1) | ((with_reducible refine gate_callee (f := 15) rfl ?_); refine goesL_ (some 58) rfl rfl Try.func15 (by kernel_rfl) rfl #[.agg #[.slice A0_0 l0_0.length c0_0, .slice A0_1 l0_1.length c0_1], .int .i64 a1] rfl zm ?_; (with_reducible refine (cond_Go.calls k (fun k_ => k_ < w.heap.size) _ _ l0_0 (fun k_ => k_ < w.heap.size) _ _ l0_1 a1 t384 t387 t390 _ ?side1 ?side2 A12.out).mono ?_); (case side1 => exact Kd.V_mk HC0_0.out (Kd.F_below (Kd.C_F (Kd.heap_int .i64) HR0_0.out) (zc5 HB GE333 GE343 GE357 GE367 GE383))); (case side2 => exact Kd.V_mk HC0_1.out (Kd.F_below (Kd.C_F (Kd.heap_int .i64) HR0_1.out) (zc5 HB GE333 GE343 GE357 GE367 GE383))); rintro e w89 ⟨v385, v388, rfl, ho0, ho1, hb⟩; refine ⟨_, rfl, ?_⟩; replace HO338 := zVb HO338 hb; replace HO341 := zVb HO341 hb; replace HO346 := zVb HO346 hb; replace HO349 := zVb HO349 hb; replace HO352 := zVb HO352 hb; replace HO355 := zVb HO355 hb; replace HO360 := zVb HO360 hb; replace HO363 := zVb HO363 hb; replace HO366 := zVb HO366 hb; replace HO370 := zVb HO370 hb; replace HO373 := zVb HO373 hb; replace HO376 := zVb HO376 hb; replace HO379 := zVb HO379 hb; have HO386 := am (Kd.V_lower (Kd.V_mono (ok' := fun k_ => some k_ ≠ (v381 : Value).ownBlock ∧ k_ ≠ gb333 ∧ k_ ≠ gb343 ∧ k_ ≠ gb357 ∧ k_ ≠ gb367 ∧ k_ ≠ gb383) ho0 (fun k_ hk_ => ⟨Or.elim hk_ (fun hs_ => Or.elim hs_ (fun hs_ => fun e_ => Nat.not_le.2 hs_ (Kd.R_base HO382.out k_ e_.symm)) (fun hs_ => fun e_ => Nat.not_le.2 hs_ (Kd.R_base HO382.out k_ e_.symm))) (fun hn_ => (Kd.fresh' (Kd.R_lt (zR HO382)) k_ hn_)), Or.elim hk_ (fun hs_ => Or.elim hs_ (znl GW333) (znl GW333)) (fun hn_ => (zfr gb333 BK333 hn_)), Or.elim hk_ (fun hs_ => Or.elim hs_ (znl GW343) (znl GW343)) (fun hn_ => (zfr gb343 BK343 hn_)), Or.elim hk_ (fun hs_ => Or.elim hs_ (znl GW357) (znl GW357)) (fun hn_ => (zfr gb357 BK357 hn_)), Or.elim hk_ (fun hs_ => Or.elim hs_ (znl GW367) (znl GW367)) (fun hn_ => (zfr gb367 BK367 hn_)), Or.elim hk_ (fun hs_ => Or.elim hs_ (znl GW383) (znl GW383)) (fun hn_ => (zfr gb383 BK383 hn_))⟩)) (below_size (zc5 HB GE333 GE343 GE357 GE367 GE383))); have HO389 := am (Kd.V_lower (Kd.V_mono (ok' := fun k_ => some k_ ≠ (v381 : Value).ownBlock ∧ k_ ≠ gb333 ∧ k_ ≠ gb343 ∧ k_ ≠ gb357 ∧ k_ ≠ gb367 ∧ k_ ≠ gb383) ho1 (fun k_ hk_ => ⟨Or.elim hk_ (fun hs_ => Or.elim hs_ (fun hs_ => fun e_ => Nat.not_le.2 hs_ (Kd.R_base HO382.out k_ e_.symm)) (fun hs_ => fun e_ => Nat.not_le.2 hs_ (Kd.R_base HO382.out k_ e_.symm))) (fun hn_ => (Kd.fresh' (Kd.R_lt (zR HO382)) k_ hn_)), Or.elim hk_ (fun hs_ => Or.elim hs_ (znl GW333) (znl GW333)) (fun hn_ => (zfr gb333 BK333 hn_)), Or.elim hk_ (fun hs_ => Or.elim hs_ (znl GW343) (znl GW343)) (fun hn_ => (zfr gb343 BK343 hn_)), Or.elim hk_ (fun hs_ => Or.elim hs_ (znl GW357) (znl GW357)) (fun hn_ => (zfr gb357 BK357 hn_)), Or.elim hk_ (fun hs_ => Or.elim hs_ (znl GW367) (znl GW367)) (fun hn_ => (zfr gb367 BK367 hn_)), Or.elim hk_ (fun hs_ => Or.elim hs_ (znl GW383) (znl GW383)) (fun hn_ => (zfr gb383 BK383 hn_))⟩)) (below_size (zc5 HB GE333 GE343 GE357 GE367 GE383))); replace HO382 := zRb HO382 hb; replace BK333 := zbb BK333 hb; replace BK343 := zbb BK343 hb; replace BK357 := zbb BK357 hb; replace BK367 := zbb BK367 hb; replace BK383 := zbb BK383 hb; replace HB := am (below_step (zc5 HB GE333 GE343 GE357 GE367 GE383) hb); (try clear hb); (try clear hb2); (try clear hk); (try clear hi); (try clear ho0); (try clear ho1)) | ((with_reducible refine gate_dst (N := 15) rfl ?_); refine box_event ?hg (N := 15) ?hd (cs := #[.slice none 0 0, .slice none 0 0]) (t := 24) ?hr ?_; (case hd => rfl); (case hg => rfl); (case hr => first | (go_simp; done) | (go_simp; rfl)); intro gb391 hg w90 hbox hb; replace HO338 := zVe HO338 hg hb; replace HO341 := zVe HO341 hg hb; replace HO346 := zVe HO346 hg hb; replace HO349 := zVe HO349 hg hb; replace HO352 := zVe HO352 hg hb; replace HO355 := zVe HO355 hg hb; replace HO360 := zVe HO360 hg hb; replace HO363 := zVe HO363 hg hb; replace HO366 := zVe HO366 hg hb; replace HO370 := zVe HO370 hg hb; replace HO373 := zVe HO373 hg hb; replace HO376 := zVe HO376 hg hb; replace HO379 := zVe HO379 hg hb; replace HO382 := zRb HO382 hb; replace HO386 := zVe HO386 hg hb; replace HO389 := zVe HO389 hg hb; have BK391 := am (hbox); have GW391 := zsz hg (zc5 HB GE333 GE343 GE357 GE367 GE383); have GE391 := zsz hg (zc5 HB GE333 GE343 GE357 GE367 GE383); replace HB := am (below_step (zc5 HB GE333 GE343 GE357 GE367 GE383) hb); have NB333_391 := znt BK333 hg; have NB391_333 := zng BK333 hg; replace BK333 := zbb BK333 hb; have NB343_391 := znt BK343 hg; have NB391_343 := zng BK343 hg; replace BK343 := zbb BK343 hb; have NB357_391 := znt BK357 hg; have NB391_357 := zng BK357 hg; replace BK357 := zbb BK357 hb; have NB367_391 := znt BK367 hg; have NB391_367 := zng BK367 hg; replace BK367 := zbb BK367 hb; have NB383_391 := znt BK383 hg; have NB391_383 := zng BK383 hg; replace BK383 := zbb BK383 hb; clear hb hbox hg; obtain ⟨Ao91, co91, eo91⟩ := Kd.V_slice HO386.out; subst eo91; have hnb92 := NB391_333.out; have hnc92 := NB333_391.out; have hnb93 := NB391_343.out; have hnc93 := NB343_391.out; have hnb94 := NB391_357.out; have hnc94 := NB357_391.out; have hnb95 := NB391_367.out; have hnc95 := NB367_391.out; have hnb96 := NB391_383.out; have hnc96 := NB383_391.out; have hcz97_0 : w90.cell? ⟨gb391, 0, none⟩ = some (.slice none 0 0) := (blk_cell BK391.out 0).trans rfl; have hcz97_1 : w90.cell? ⟨gb391, 1, none⟩ = some (.slice none 0 0) := (blk_cell BK391.out 1).trans rfl; have hfz97_0 := blk_frozen BK391.out 0; have hfz97_1 := blk_frozen BK391.out 1; obtain ⟨Ao98, co98, eo98⟩ := Kd.V_slice HO389.out; subst eo98) | ((with_reducible refine gate_store (t := 24) (p := 15) rfl ?_); refine store_event (t := 24) (p := 15) (v := ?vo_w99) (w1 := ((w90.setCell ⟨gb391, 0, none⟩ (.slice Ao91 t384.length co91)).setCell ⟨gb391, 1, none⟩ (.slice Ao98 t387.length co98))) ?hg ?ho ?hn ?hr ?_; (case ho => rfl); (case hg => rfl); (case hn => rfl); (case hr => first | (go_simp; done) | (go_simp; rfl)); intro w99 hw; replace HO338 := zVm hw HO338 (fun k_ => some k_ ≠ (v381 : Value).ownBlock ∧ k_ ≠ gb333 ∧ k_ ≠ gb343 ∧ k_ ≠ gb357 ∧ k_ ≠ gb367 ∧ k_ ≠ gb383 ∧ k_ ≠ gb391) (fun _ hk => hk.2) (fun _ hk => ⟨hk.1.1.1, ⟨hk.1.1.2.1, ⟨hk.1.1.2.2.1, ⟨hk.1.1.2.2.2.1, ⟨hk.1.1.2.2.2.2.1, ⟨hk.1.1.2.2.2.2.2, hk.1.2⟩⟩⟩⟩⟩⟩); replace HO341 := zVm hw HO341 (fun k_ => some k_ ≠ (v381 : Value).ownBlock ∧ k_ ≠ gb333 ∧ k_ ≠ gb343 ∧ k_ ≠ gb357 ∧ k_ ≠ gb367 ∧ k_ ≠ gb383 ∧ k_ ≠ gb391) (fun _ hk => hk.2) (fun _ hk => ⟨hk.1.1.1, ⟨hk.1.1.2.1, ⟨hk.1.1.2.2.1, ⟨hk.1.1.2.2.2.1, ⟨hk.1.1.2.2.2.2.1, ⟨hk.1.1.2.2.2.2.2, hk.1.2⟩⟩⟩⟩⟩⟩); replace HO346 := zVm hw HO346 (fun k_ => some k_ ≠ (v381 : Value).ownBlock ∧ k_ ≠ gb333 ∧ k_ ≠ gb343 ∧ k_ ≠ gb357 ∧ k_ ≠ gb367 ∧ k_ ≠ gb383 ∧ k_ ≠ gb391) (fun _ hk => hk.2) (fun _ hk => ⟨hk.1.1.1, ⟨hk.1.1.2.1, ⟨hk.1.1.2.2.1, ⟨hk.1.1.2.2.2.1, ⟨hk.1.1.2.2.2.2.1, ⟨hk.1.1.2.2.2.2.2, hk.1.2⟩⟩⟩⟩⟩⟩); replace HO349 := zVm hw HO349 (fun k_ => some k_ ≠ (v381 : Value).ownBlock ∧ k_ ≠ gb333 ∧ k_ ≠ gb343 ∧ k_ ≠ gb357 ∧ k_ ≠ gb367 ∧ k_ ≠ gb383 ∧ k_ ≠ gb391) (fun _ hk => hk.2) (fun _ hk => ⟨hk.1.1.1, ⟨hk.1.1.2.1, ⟨hk.1.1.2.2.1, ⟨hk.1.1.2.2.2.1, ⟨hk.1.1.2.2.2.2.1, ⟨hk.1.1.2.2.2.2.2, hk.1.2⟩⟩⟩⟩⟩⟩); replace HO352 := zVm hw HO352 (fun k_ => some k_ ≠ (v381 : Value).ownBlock ∧ k_ ≠ gb333 ∧ k_ ≠ gb343 ∧ k_ ≠ gb357 ∧ k_ ≠ gb367 ∧ k_ ≠ gb383 ∧ k_ ≠ gb391) (fun _ hk => hk.2) (fun _ hk => ⟨hk.1.1.1, ⟨hk.1.1.2.1, ⟨hk.1.1.2.2.1, ⟨hk.1.1.2.2.2.1, ⟨hk.1.1.2.2.2.2.1, ⟨hk.1.1.2.2.2.2.2, hk.1.2⟩⟩⟩⟩⟩⟩); replace HO355 := zVm hw HO355 (fun k_ => some k_ ≠ (v381 : Value).ownBlock ∧ k_ ≠ gb333 ∧ k_ ≠ gb343 ∧ k_ ≠ gb357 ∧ k_ ≠ gb367 ∧ k_ ≠ gb383 ∧ k_ ≠ gb391) (fun _ hk => hk.2) (fun _ hk => ⟨hk.1.1.1, ⟨hk.1.1.2.1, ⟨hk.1.1.2.2.1, ⟨hk.1.1.2.2.2.1, ⟨hk.1.1.2.2.2.2.1, ⟨hk.1.1.2.2.2.2.2, hk.1.2⟩⟩⟩⟩⟩⟩); replace HO360 := zVm hw HO360 (fun k_ => some k_ ≠ (v381 : Value).ownBlock ∧ k_ ≠ gb333 ∧ k_ ≠ gb343 ∧ k_ ≠ gb357 ∧ k_ ≠ gb367 ∧ k_ ≠ gb383 ∧ k_ ≠ gb391) (fun _ hk => hk.2) (fun _ hk => ⟨hk.1.1.1, ⟨hk.1.1.2.1, ⟨hk.1.1.2.2.1, ⟨hk.1.1.2.2.2.1, ⟨hk.1.1.2.2.2.2.1, ⟨hk.1.1.2.2.2.2.2, hk.1.2⟩⟩⟩⟩⟩⟩); replace HO363 := zVm hw HO363 (fun k_ => some k_ ≠ (v381 : Value).ownBlock ∧ k_ ≠ gb333 ∧ k_ ≠ gb343 ∧ k_ ≠ gb357 ∧ k_ ≠ gb367 ∧ k_ ≠ gb383 ∧ k_ ≠ gb391) (fun _ hk => hk.2) (fun _ hk => ⟨hk.1.1.1, ⟨hk.1.1.2.1, ⟨hk.1.1.2.2.1, ⟨hk.1.1.2.2.2.1, ⟨hk.1.1.2.2.2.2.1, ⟨hk.1.1.2.2.2.2.2, hk.1.2⟩⟩⟩⟩⟩⟩); replace HO366 := zVm hw HO366 (fun k_ => some k_ ≠ (v381 : Value).ownBlock ∧ k_ ≠ gb333 ∧ k_ ≠ gb343 ∧ k_ ≠ gb357 ∧ k_ ≠ gb367 ∧ k_ ≠ gb383 ∧ k_ ≠ gb391) (fun _ hk => hk.2) (fun _ hk => ⟨hk.1.1.1, ⟨hk.1.1.2.1, ⟨hk.1.1.2.2.1, ⟨hk.1.1.2.2.2.1, ⟨hk.1.1.2.2.2.2.1, ⟨hk.1.1.2.2.2.2.2, hk.1.2⟩⟩⟩⟩⟩⟩); replace HO370 := zVm hw HO370 (fun k_ => some k_ ≠ (v381 : Value).ownBlock ∧ k_ ≠ gb333 ∧ k_ ≠ gb343 ∧ k_ ≠ gb357 ∧ k_ ≠ gb367 ∧ k_ ≠ gb383 ∧ k_ ≠ gb391) (fun _ hk => hk.2) (fun _ hk => ⟨hk.1.1.1, ⟨hk.1.1.2.1, ⟨hk.1.1.2.2.1, ⟨hk.1.1.2.2.2.1, ⟨hk.1.1.2.2.2.2.1, ⟨hk.1.1.2.2.2.2.2, hk.1.2⟩⟩⟩⟩⟩⟩); replace HO373 := zVm hw HO373 (fun k_ => some k_ ≠ (v381 : Value).ownBlock ∧ k_ ≠ gb333 ∧ k_ ≠ gb343 ∧ k_ ≠ gb357 ∧ k_ ≠ gb367 ∧ k_ ≠ gb383 ∧ k_ ≠ gb391) (fun _ hk => hk.2) (fun _ hk => ⟨hk.1.1.1, ⟨hk.1.1.2.1, ⟨hk.1.1.2.2.1, ⟨hk.1.1.2.2.2.1, ⟨hk.1.1.2.2.2.2.1, ⟨hk.1.1.2.2.2.2.2, hk.1.2⟩⟩⟩⟩⟩⟩); replace HO376 := zVm hw HO376 (fun k_ => some k_ ≠ (v381 : Value).ownBlock ∧ k_ ≠ gb333 ∧ k_ ≠ gb343 ∧ k_ ≠ gb357 ∧ k_ ≠ gb367 ∧ k_ ≠ gb383 ∧ k_ ≠ gb391) (fun _ hk => hk.2) (fun _ hk => ⟨hk.1.1.1, ⟨hk.1.1.2.1, ⟨hk.1.1.2.2.1, ⟨hk.1.1.2.2.2.1, ⟨hk.1.1.2.2.2.2.1, ⟨hk.1.1.2.2.2.2.2, hk.1.2⟩⟩⟩⟩⟩⟩); replace HO379 := zVm hw HO379 (fun k_ => some k_ ≠ (v381 : Value).ownBlock ∧ k_ ≠ gb333 ∧ k_ ≠ gb343 ∧ k_ ≠ gb357 ∧ k_ ≠ gb367 ∧ k_ ≠ gb383 ∧ k_ ≠ gb391) (fun _ hk => hk.2) (fun _ hk => ⟨hk.1.1.1, ⟨hk.1.1.2.1, ⟨hk.1.1.2.2.1, ⟨hk.1.1.2.2.2.1, ⟨hk.1.1.2.2.2.2.1, ⟨hk.1.1.2.2.2.2.2, hk.1.2⟩⟩⟩⟩⟩⟩); replace HO382 : Aside0 (Kd.R (Kd.int .i64) 3 w99 w.heap.size (fun _ => True) v381 t380) := ⟨(by rw [hw]; exact (by (with_reducible repeat (first | apply Kd.R_alloc | apply Kd.R_drewN | apply Kd.R_drew)); exact Kd.R_mono (Kd.R_far (p := ⟨gb391, 1, none⟩) (Kd.R_far (p := ⟨gb391, 0, none⟩) (Kd.R_types HO382.out BK391.out (by decide)) (fun _ hk => hk.2) (.slice Ao91 t384.length co91)) (fun _ hk => hk.2) (.slice Ao98 t387.length co98)) (fun _ hk => trivial)))⟩; replace HO386 := zVm hw HO386 (fun k_ => some k_ ≠ (v381 : Value).ownBlock ∧ k_ ≠ gb333 ∧ k_ ≠ gb343 ∧ k_ ≠ gb357 ∧ k_ ≠ gb367 ∧ k_ ≠ gb383 ∧ k_ ≠ gb391) (fun _ hk => hk.2) (fun _ hk => ⟨hk.1.1.1, ⟨hk.1.1.2.1, ⟨hk.1.1.2.2.1, ⟨hk.1.1.2.2.2.1, ⟨hk.1.1.2.2.2.2.1, ⟨hk.1.1.2.2.2.2.2, hk.1.2⟩⟩⟩⟩⟩⟩); replace HO389 := zVm hw HO389 (fun k_ => some k_ ≠ (v381 : Value).ownBlock ∧ k_ ≠ gb333 ∧ k_ ≠ gb343 ∧ k_ ≠ gb357 ∧ k_ ≠ gb367 ∧ k_ ≠ gb383 ∧ k_ ≠ gb391) (fun _ hk => hk.2) (fun _ hk => ⟨hk.1.1.1, ⟨hk.1.1.2.1, ⟨hk.1.1.2.2.1, ⟨hk.1.1.2.2.2.1, ⟨hk.1.1.2.2.2.2.1, ⟨hk.1.1.2.2.2.2.2, hk.1.2⟩⟩⟩⟩⟩⟩); replace BK333 := zks hw BK333 NB333_391; replace BK343 := zks hw BK343 NB343_391; replace BK357 := zks hw BK357 NB357_391; replace BK367 := zks hw BK367 NB367_391; replace BK383 := zks hw BK383 NB383_391; replace BK391 : Aside0 (w99.heap[gb391]? = some (.cells #[.slice Ao91 t384.length co91, .slice Ao98 t387.length co98] 24 (0, 0))) := ⟨(by rw [hw]; exact (by (with_reducible repeat (first | refine blk_drewN ?_ _ | refine blk_drew ?_ | refine blk_alloc ?_ _)); refine blk_put (cs := #[.slice Ao91 t384.length co91, .slice none 0 0]) ?_ 1 _ rfl; (with_reducible repeat (first | refine blk_drewN ?_ _ | refine blk_drew ?_ | refine blk_alloc ?_ _)); refine blk_put (cs := #[.slice none 0 0, .slice none 0 0]) ?_ 0 _ rfl; (with_reducible repeat (first | refine blk_drewN ?_ _ | refine blk_drew ?_ | refine blk_alloc ?_ _)); exact BK391.out))⟩; replace HB : Aside0 (Below w.heap.size w w99) := ⟨(by rw [hw]; exact (zc6 HB GE333 GE343 GE357 GE367 GE383 GE391))⟩; clear hw; have hcz100_0 : w99.cell? ⟨gb333, 0, none⟩ = some (.slice A0_0 l0_0.length c0_0) := (blk_cell BK333.out 0).trans rfl; have hcz100_1 : w99.cell? ⟨gb333, 1, none⟩ = some (.slice A0_1 l0_1.length c0_1) := (blk_cell BK333.out 1).trans rfl; have hfz100_0 := blk_frozen BK333.out 0; have hfz100_1 := blk_frozen BK333.out 1) | ((with_reducible refine gate_callee (f := 12) rfl ?_); refine goesL_ (some 63) rfl rfl Try.func12 (by kernel_rfl) rfl #[.agg #[.slice A0_0 l0_0.length c0_0, .slice A0_1 l0_1.length c0_1]] rfl zm ?_; (with_reducible refine (handshakerlaw20_ref.calls (fun k_ => k_ < w.heap.size) _ _ l0_0 (fun k_ => k_ < w.heap.size) _ _ l0_1 t392 t395 _ ?side1 ?side2 A13.out).mono ?_); (case side1 => exact Kd.V_mk HC0_0.out (Kd.F_below (Kd.C_F (Kd.heap_int .i64) HR0_0.out) (zc6 HB GE333 GE343 GE357 GE367 GE383 GE391))); (case side2 => exact Kd.V_mk HC0_1.out (Kd.F_below (Kd.C_F (Kd.heap_int .i64) HR0_1.out) (zc6 HB GE333 GE343 GE357 GE367 GE383 GE391))); rintro e w101 ⟨v393, v396, rfl, ho0, ho1, hb⟩; refine ⟨_, rfl, ?_⟩; replace HO338 := zVb HO338 hb; replace HO341 := zVb HO341 hb; replace HO346 := zVb HO346 hb; replace HO349 := zVb HO349 hb; replace HO352 := zVb HO352 hb; replace HO355 := zVb HO355 hb; replace HO360 := zVb HO360 hb; replace HO363 := zVb HO363 hb; replace HO366 := zVb HO366 hb; replace HO370 := zVb HO370 hb; replace HO373 := zVb HO373 hb; replace HO376 := zVb HO376 hb; replace HO379 := zVb HO379 hb; replace HO386 := zVb HO386 hb; replace HO389 := zVb HO389 hb; have HO394 := am (Kd.V_lower (Kd.V_mono (ok' := fun k_ => some k_ ≠ (v381 : Value).ownBlock ∧ k_ ≠ gb333 ∧ k_ ≠ gb343 ∧ k_ ≠ gb357 ∧ k_ ≠ gb367 ∧ k_ ≠ gb383 ∧ k_ ≠ gb391) ho0 (fun k_ hk_ => ⟨Or.elim hk_ (fun hs_ => Or.elim hs_ (fun hs_ => fun e_ => Nat.not_le.2 hs_ (Kd.R_base HO382.out k_ e_.symm)) (fun hs_ => fun e_ => Nat.not_le.2 hs_ (Kd.R_base HO382.out k_ e_.symm))) (fun hn_ => (Kd.fresh' (Kd.R_lt (zR HO382)) k_ hn_)), Or.elim hk_ (fun hs_ => Or.elim hs_ (znl GW333) (znl GW333)) (fun hn_ => (zfr gb333 BK333 hn_)), Or.elim hk_ (fun hs_ => Or.elim hs_ (znl GW343) (znl GW343)) (fun hn_ => (zfr gb343 BK343 hn_)), Or.elim hk_ (fun hs_ => Or.elim hs_ (znl GW357) (znl GW357)) (fun hn_ => (zfr gb357 BK357 hn_)), Or.elim hk_ (fun hs_ => Or.elim hs_ (znl GW367) (znl GW367)) (fun hn_ => (zfr gb367 BK367 hn_)), Or.elim hk_ (fun hs_ => Or.elim hs_ (znl GW383) (znl GW383)) (fun hn_ => (zfr gb383 BK383 hn_)), Or.elim hk_ (fun hs_ => Or.elim hs_ (znl GW391) (znl GW391)) (fun hn_ => (zfr gb391 BK391 hn_))⟩)) (below_size (zc6 HB GE333 GE343 GE357 GE367 GE383 GE391))); have HO397 := am (Kd.V_lower (Kd.V_mono (ok' := fun k_ => some k_ ≠ (v381 : Value).ownBlock ∧ k_ ≠ gb333 ∧ k_ ≠ gb343 ∧ k_ ≠ gb357 ∧ k_ ≠ gb367 ∧ k_ ≠ gb383 ∧ k_ ≠ gb391) ho1 (fun k_ hk_ => ⟨Or.elim hk_ (fun hs_ => Or.elim hs_ (fun hs_ => fun e_ => Nat.not_le.2 hs_ (Kd.R_base HO382.out k_ e_.symm)) (fun hs_ => fun e_ => Nat.not_le.2 hs_ (Kd.R_base HO382.out k_ e_.symm))) (fun hn_ => (Kd.fresh' (Kd.R_lt (zR HO382)) k_ hn_)), Or.elim hk_ (fun hs_ => Or.elim hs_ (znl GW333) (znl GW333)) (fun hn_ => (zfr gb333 BK333 hn_)), Or.elim hk_ (fun hs_ => Or.elim hs_ (znl GW343) (znl GW343)) (fun hn_ => (zfr gb343 BK343 hn_)), Or.elim hk_ (fun hs_ => Or.elim hs_ (znl GW357) (znl GW357)) (fun hn_ => (zfr gb357 BK357 hn_)), Or.elim hk_ (fun hs_ => Or.elim hs_ (znl GW367) (znl GW367)) (fun hn_ => (zfr gb367 BK367 hn_)), Or.elim hk_ (fun hs_ => Or.elim hs_ (znl GW383) (znl GW383)) (fun hn_ => (zfr gb383 BK383 hn_)), Or.elim hk_ (fun hs_ => Or.elim hs_ (znl GW391) (znl GW391)) (fun hn_ => (zfr gb391 BK391 hn_))⟩)) (below_size (zc6 HB GE333 GE343 GE357 GE367 GE383 GE391))); replace HO382 := zRb HO382 hb; replace BK333 := zbb BK333 hb; replace BK343 := zbb BK343 hb; replace BK357 := zbb BK357 hb; replace BK367 := zbb BK367 hb; replace BK383 := zbb BK383 hb; replace BK391 := zbb BK391 hb; replace HB := am (below_step (zc6 HB GE333 GE343 GE357 GE367 GE383 GE391) hb); (try clear hb); (try clear hb2); (try clear hk); (try clear hi); (try clear ho0); (try clear ho1); obtain ⟨Ao102, co102, eo102⟩ := Kd.V_slice HO394.out; subst eo102; obtain ⟨Ao103, co103, eo103⟩ := Kd.V_slice HO397.out; subst eo103) | ((with_reducible refine gate_callee (f := 16) rfl ?_); refine goesL_ (some 65) rfl rfl Try.func16 (by kernel_rfl) rfl #[.agg #[.slice Ao102 t392.length co102, .slice Ao103 t395.length co103], .int .i64 a1] rfl zm ?_; (with_reducible refine (handshakerref20_Go.calls k (fun k_ => (some k_ ≠ (v381 : Value).ownBlock ∧ (k_ ≠ gb333 ∧ (k_ ≠ gb343 ∧ (k_ ≠ gb357 ∧ (k_ ≠ gb367 ∧ (k_ ≠ gb383 ∧ k_ ≠ gb391))))))) _ _ t392 (fun k_ => (some k_ ≠ (v381 : Value).ownBlock ∧ (k_ ≠ gb333 ∧ (k_ ≠ gb343 ∧ (k_ ≠ gb357 ∧ (k_ ≠ gb367 ∧ (k_ ≠ gb383 ∧ k_ ≠ gb391))))))) _ _ t395 a1 t398 t401 t404 _ ?side1 ?side2 A14.out).mono ?_); (case side1 => exact HO394.out); (case side2 => exact HO397.out); rintro e w104 ⟨v399, v402, rfl, ho0, ho1, hb⟩; refine ⟨_, rfl, ?_⟩; replace HO338 := zVb HO338 hb; replace HO341 := zVb HO341 hb; replace HO346 := zVb HO346 hb; replace HO349 := zVb HO349 hb; replace HO352 := zVb HO352 hb; replace HO355 := zVb HO355 hb; replace HO360 := zVb HO360 hb; replace HO363 := zVb HO363 hb; replace HO366 := zVb HO366 hb; replace HO370 := zVb HO370 hb; replace HO373 := zVb HO373 hb; replace HO376 := zVb HO376 hb; replace HO379 := zVb HO379 hb; replace HO386 := zVb HO386 hb; replace HO389 := zVb HO389 hb; replace HO394 := zVb HO394 hb; replace HO397 := zVb HO397 hb; have HO400 := am (Kd.V_lower (Kd.V_mono (ok' := fun k_ => some k_ ≠ (v381 : Value).ownBlock ∧ k_ ≠ gb333 ∧ k_ ≠ gb343 ∧ k_ ≠ gb357 ∧ k_ ≠ gb367 ∧ k_ ≠ gb383 ∧ k_ ≠ gb391) ho0 (fun k_ hk_ => ⟨Or.elim hk_ (fun hs_ => Or.elim hs_ (fun hs_ => hs_.1) (fun hs_ => hs_.1)) (fun hn_ => (Kd.fresh' (Kd.R_lt (zR HO382)) k_ hn_)), Or.elim hk_ (fun hs_ => Or.elim hs_ (fun hs_ => hs_.2.1) (fun hs_ => hs_.2.1)) (fun hn_ => (zfr gb333 BK333 hn_)), Or.elim hk_ (fun hs_ => Or.elim hs_ (fun hs_ => hs_.2.2.1) (fun hs_ => hs_.2.2.1)) (fun hn_ => (zfr gb343 BK343 hn_)), Or.elim hk_ (fun hs_ => Or.elim hs_ (fun hs_ => hs_.2.2.2.1) (fun hs_ => hs_.2.2.2.1)) (fun hn_ => (zfr gb357 BK357 hn_)), Or.elim hk_ (fun hs_ => Or.elim hs_ (fun hs_ => hs_.2.2.2.2.1) (fun hs_ => hs_.2.2.2.2.1)) (fun hn_ => (zfr gb367 BK367 hn_)), Or.elim hk_ (fun hs_ => Or.elim hs_ (fun hs_ => hs_.2.2.2.2.2.1) (fun hs_ => hs_.2.2.2.2.2.1)) (fun hn_ => (zfr gb383 BK383 hn_)), Or.elim hk_ (fun hs_ => Or.elim hs_ (fun hs_ => hs_.2.2.2.2.2.2) (fun hs_ => hs_.2.2.2.2.2.2)) (fun hn_ => (zfr gb391 BK391 hn_))⟩)) (below_size (zc6 HB GE333 GE343 GE357 GE367 GE383 GE391))); have HO403 := am (Kd.V_lower (Kd.V_mono (ok' := fun k_ => some k_ ≠ (v381 : Value).ownBlock ∧ k_ ≠ gb333 ∧ k_ ≠ gb343 ∧ k_ ≠ gb357 ∧ k_ ≠ gb367 ∧ k_ ≠ gb383 ∧ k_ ≠ gb391) ho1 (fun k_ hk_ => ⟨Or.elim hk_ (fun hs_ => Or.elim hs_ (fun hs_ => hs_.1) (fun hs_ => hs_.1)) (fun hn_ => (Kd.fresh' (Kd.R_lt (zR HO382)) k_ hn_)), Or.elim hk_ (fun hs_ => Or.elim hs_ (fun hs_ => hs_.2.1) (fun hs_ => hs_.2.1)) (fun hn_ => (zfr gb333 BK333 hn_)), Or.elim hk_ (fun hs_ => Or.elim hs_ (fun hs_ => hs_.2.2.1) (fun hs_ => hs_.2.2.1)) (fun hn_ => (zfr gb343 BK343 hn_)), Or.elim hk_ (fun hs_ => Or.elim hs_ (fun hs_ => hs_.2.2.2.1) (fun hs_ => hs_.2.2.2.1)) (fun hn_ => (zfr gb357 BK357 hn_)), Or.elim hk_ (fun hs_ => Or.elim hs_ (fun hs_ => hs_.2.2.2.2.1) (fun hs_ => hs_.2.2.2.2.1)) (fun hn_ => (zfr gb367 BK367 hn_)), Or.elim hk_ (fun hs_ => Or.elim hs_ (fun hs_ => hs_.2.2.2.2.2.1) (fun hs_ => hs_.2.2.2.2.2.1)) (fun hn_ => (zfr gb383 BK383 hn_)), Or.elim hk_ (fun hs_ => Or.elim hs_ (fun hs_ => hs_.2.2.2.2.2.2) (fun hs_ => hs_.2.2.2.2.2.2)) (fun hn_ => (zfr gb391 BK391 hn_))⟩)) (below_size (zc6 HB GE333 GE343 GE357 GE367 GE383 GE391))); replace HO382 := zRb HO382 hb; replace BK333 := zbb BK333 hb; replace BK343 := zbb BK343 hb; replace BK357 := zbb BK357 hb; replace BK367 := zbb BK367 hb; replace BK383 := zbb BK383 hb; replace BK391 := zbb BK391 hb; replace HB := am (below_step (zc6 HB GE333 GE343 GE357 GE367 GE383 GE391) hb); (try clear hb); (try clear hb2); (try clear hk); (try clear hi); (try clear ho0); (try clear ho1)) | ((with_reducible refine gate_dst (N := 17) rfl ?_); refine box_event ?hg (N := 17) ?hd (cs := #[.slice none 0 0, .slice none 0 0]) (t := 30) ?hr ?_; (case hd => rfl); (case hg => rfl); (case hr => first | (go_simp; done) | (go_simp; rfl)); intro gb405 hg w105 hbox hb; replace HO338 := zVe HO338 hg hb; replace HO341 := zVe HO341 hg hb; replace HO346 := zVe HO346 hg hb; replace HO349 := zVe HO349 hg hb; replace HO352 := zVe HO352 hg hb; replace HO355 := zVe HO355 hg hb; replace HO360 := zVe HO360 hg hb; replace HO363 := zVe HO363 hg hb; replace HO366 := zVe HO366 hg hb; replace HO370 := zVe HO370 hg hb; replace HO373 := zVe HO373 hg hb; replace HO376 := zVe HO376 hg hb; replace HO379 := zVe HO379 hg hb; replace HO382 := zRb HO382 hb; replace HO386 := zVe HO386 hg hb; replace HO389 := zVe HO389 hg hb; replace HO394 := zVe HO394 hg hb; replace HO397 := zVe HO397 hg hb; replace HO400 := zVe HO400 hg hb; replace HO403 := zVe HO403 hg hb; have BK405 := am (hbox); have GW405 := zsz hg (zc6 HB GE333 GE343 GE357 GE367 GE383 GE391); have GE405 := zsz hg (zc6 HB GE333 GE343 GE357 GE367 GE383 GE391); replace HB := am (below_step (zc6 HB GE333 GE343 GE357 GE367 GE383 GE391) hb); have NB333_405 := znt BK333 hg; have NB405_333 := zng BK333 hg; replace BK333 := zbb BK333 hb; have NB343_405 := znt BK343 hg; have NB405_343 := zng BK343 hg; replace BK343 := zbb BK343 hb; have NB357_405 := znt BK357 hg; have NB405_357 := zng BK357 hg; replace BK357 := zbb BK357 hb; have NB367_405 := znt BK367 hg; have NB405_367 := zng BK367 hg; replace BK367 := zbb BK367 hb; have NB383_405 := znt BK383 hg; have NB405_383 := zng BK383 hg; replace BK383 := zbb BK383 hb; have NB391_405 := znt BK391 hg; have NB405_391 := zng BK391 hg; replace BK391 := zbb BK391 hb; clear hb hbox hg; obtain ⟨Ao106, co106, eo106⟩ := Kd.V_slice HO400.out; subst eo106; have hnb107 := NB405_333.out; have hnc107 := NB333_405.out; have hnb108 := NB405_343.out; have hnc108 := NB343_405.out; have hnb109 := NB405_357.out; have hnc109 := NB357_405.out; have hnb110 := NB405_367.out; have hnc110 := NB367_405.out; have hnb111 := NB405_383.out; have hnc111 := NB383_405.out; have hnb112 := NB405_391.out; have hnc112 := NB391_405.out; have hcz113_0 : w105.cell? ⟨gb405, 0, none⟩ = some (.slice none 0 0) := (blk_cell BK405.out 0).trans rfl; have hcz113_1 : w105.cell? ⟨gb405, 1, none⟩ = some (.slice none 0 0) := (blk_cell BK405.out 1).trans rfl; have hfz113_0 := blk_frozen BK405.out 0; have hfz113_1 := blk_frozen BK405.out 1; obtain ⟨Ao114, co114, eo114⟩ := Kd.V_slice HO403.out; subst eo114) | ((with_reducible refine gate_store (t := 30) (p := 17) rfl ?_); refine store_event (t := 30) (p := 17) (v := ?vo_w115) (w1 := ((w105.setCell ⟨gb405, 0, none⟩ (.slice Ao106 t398.length co106)).setCell ⟨gb405, 1, none⟩ (.slice Ao114 t401.length co114))) ?hg ?ho ?hn ?hr ?_; (case ho => rfl); (case hg => rfl); (case hn => rfl); (case hr => first | (go_simp; done) | (go_simp; rfl)); intro w115 hw; replace HO338 := zVm hw HO338 (fun k_ => some k_ ≠ (v381 : Value).ownBlock ∧ k_ ≠ gb333 ∧ k_ ≠ gb343 ∧ k_ ≠ gb357 ∧ k_ ≠ gb367 ∧ k_ ≠ gb383 ∧ k_ ≠ gb391 ∧ k_ ≠ gb405) (fun _ hk => hk.2) (fun _ hk => ⟨hk.1.1.1, ⟨hk.1.1.2.1, ⟨hk.1.1.2.2.1, ⟨hk.1.1.2.2.2.1, ⟨hk.1.1.2.2.2.2.1, ⟨hk.1.1.2.2.2.2.2.1, ⟨hk.1.1.2.2.2.2.2.2, hk.1.2⟩⟩⟩⟩⟩⟩⟩); replace HO341 := zVm hw HO341 (fun k_ => some k_ ≠ (v381 : Value).ownBlock ∧ k_ ≠ gb333 ∧ k_ ≠ gb343 ∧ k_ ≠ gb357 ∧ k_ ≠ gb367 ∧ k_ ≠ gb383 ∧ k_ ≠ gb391 ∧ k_ ≠ gb405) (fun _ hk => hk.2) (fun _ hk => ⟨hk.1.1.1, ⟨hk.1.1.2.1, ⟨hk.1.1.2.2.1, ⟨hk.1.1.2.2.2.1, ⟨hk.1.1.2.2.2.2.1, ⟨hk.1.1.2.2.2.2.2.1, ⟨hk.1.1.2.2.2.2.2.2, hk.1.2⟩⟩⟩⟩⟩⟩⟩); replace HO346 := zVm hw HO346 (fun k_ => some k_ ≠ (v381 : Value).ownBlock ∧ k_ ≠ gb333 ∧ k_ ≠ gb343 ∧ k_ ≠ gb357 ∧ k_ ≠ gb367 ∧ k_ ≠ gb383 ∧ k_ ≠ gb391 ∧ k_ ≠ gb405) (fun _ hk => hk.2) (fun _ hk => ⟨hk.1.1.1, ⟨hk.1.1.2.1, ⟨hk.1.1.2.2.1, ⟨hk.1.1.2.2.2.1, ⟨hk.1.1.2.2.2.2.1, ⟨hk.1.1.2.2.2.2.2.1, ⟨hk.1.1.2.2.2.2.2.2, hk.1.2⟩⟩⟩⟩⟩⟩⟩); replace HO349 := zVm hw HO349 (fun k_ => some k_ ≠ (v381 : Value).ownBlock ∧ k_ ≠ gb333 ∧ k_ ≠ gb343 ∧ k_ ≠ gb357 ∧ k_ ≠ gb367 ∧ k_ ≠ gb383 ∧ k_ ≠ gb391 ∧ k_ ≠ gb405) (fun _ hk => hk.2) (fun _ hk => ⟨hk.1.1.1, ⟨hk.1.1.2.1, ⟨hk.1.1.2.2.1, ⟨hk.1.1.2.2.2.1, ⟨hk.1.1.2.2.2.2.1, ⟨hk.1.1.2.2.2.2.2.1, ⟨hk.1.1.2.2.2.2.2.2, hk.1.2⟩⟩⟩⟩⟩⟩⟩); replace HO352 := zVm hw HO352 (fun k_ => some k_ ≠ (v381 : Value).ownBlock ∧ k_ ≠ gb333 ∧ k_ ≠ gb343 ∧ k_ ≠ gb357 ∧ k_ ≠ gb367 ∧ k_ ≠ gb383 ∧ k_ ≠ gb391 ∧ k_ ≠ gb405) (fun _ hk => hk.2) (fun _ hk => ⟨hk.1.1.1, ⟨hk.1.1.2.1, ⟨hk.1.1.2.2.1, ⟨hk.1.1.2.2.2.1, ⟨hk.1.1.2.2.2.2.1, ⟨hk.1.1.2.2.2.2.2.1, ⟨hk.1.1.2.2.2.2.2.2, hk.1.2⟩⟩⟩⟩⟩⟩⟩); replace HO355 := zVm hw HO355 (fun k_ => some k_ ≠ (v381 : Value).ownBlock ∧ k_ ≠ gb333 ∧ k_ ≠ gb343 ∧ k_ ≠ gb357 ∧ k_ ≠ gb367 ∧ k_ ≠ gb383 ∧ k_ ≠ gb391 ∧ k_ ≠ gb405) (fun _ hk => hk.2) (fun _ hk => ⟨hk.1.1.1, ⟨hk.1.1.2.1, ⟨hk.1.1.2.2.1, ⟨hk.1.1.2.2.2.1, ⟨hk.1.1.2.2.2.2.1, ⟨hk.1.1.2.2.2.2.2.1, ⟨hk.1.1.2.2.2.2.2.2, hk.1.2⟩⟩⟩⟩⟩⟩⟩); replace HO360 := zVm hw HO360 (fun k_ => some k_ ≠ (v381 : Value).ownBlock ∧ k_ ≠ gb333 ∧ k_ ≠ gb343 ∧ k_ ≠ gb357 ∧ k_ ≠ gb367 ∧ k_ ≠ gb383 ∧ k_ ≠ gb391 ∧ k_ ≠ gb405) (fun _ hk => hk.2) (fun _ hk => ⟨hk.1.1.1, ⟨hk.1.1.2.1, ⟨hk.1.1.2.2.1, ⟨hk.1.1.2.2.2.1, ⟨hk.1.1.2.2.2.2.1, ⟨hk.1.1.2.2.2.2.2.1, ⟨hk.1.1.2.2.2.2.2.2, hk.1.2⟩⟩⟩⟩⟩⟩⟩); replace HO363 := zVm hw HO363 (fun k_ => some k_ ≠ (v381 : Value).ownBlock ∧ k_ ≠ gb333 ∧ k_ ≠ gb343 ∧ k_ ≠ gb357 ∧ k_ ≠ gb367 ∧ k_ ≠ gb383 ∧ k_ ≠ gb391 ∧ k_ ≠ gb405) (fun _ hk => hk.2) (fun _ hk => ⟨hk.1.1.1, ⟨hk.1.1.2.1, ⟨hk.1.1.2.2.1, ⟨hk.1.1.2.2.2.1, ⟨hk.1.1.2.2.2.2.1, ⟨hk.1.1.2.2.2.2.2.1, ⟨hk.1.1.2.2.2.2.2.2, hk.1.2⟩⟩⟩⟩⟩⟩⟩); replace HO366 := zVm hw HO366 (fun k_ => some k_ ≠ (v381 : Value).ownBlock ∧ k_ ≠ gb333 ∧ k_ ≠ gb343 ∧ k_ ≠ gb357 ∧ k_ ≠ gb367 ∧ k_ ≠ gb383 ∧ k_ ≠ gb391 ∧ k_ ≠ gb405) (fun _ hk => hk.2) (fun _ hk => ⟨hk.1.1.1, ⟨hk.1.1.2.1, ⟨hk.1.1.2.2.1, ⟨hk.1.1.2.2.2.1, ⟨hk.1.1.2.2.2.2.1, ⟨hk.1.1.2.2.2.2.2.1, ⟨hk.1.1.2.2.2.2.2.2, hk.1.2⟩⟩⟩⟩⟩⟩⟩); replace HO370 := zVm hw HO370 (fun k_ => some k_ ≠ (v381 : Value).ownBlock ∧ k_ ≠ gb333 ∧ k_ ≠ gb343 ∧ k_ ≠ gb357 ∧ k_ ≠ gb367 ∧ k_ ≠ gb383 ∧ k_ ≠ gb391 ∧ k_ ≠ gb405) (fun _ hk => hk.2) (fun _ hk => ⟨hk.1.1.1, ⟨hk.1.1.2.1, ⟨hk.1.1.2.2.1, ⟨hk.1.1.2.2.2.1, ⟨hk.1.1.2.2.2.2.1, ⟨hk.1.1.2.2.2.2.2.1, ⟨hk.1.1.2.2.2.2.2.2, hk.1.2⟩⟩⟩⟩⟩⟩⟩); replace HO373 := zVm hw HO373 (fun k_ => some k_ ≠ (v381 : Value).ownBlock ∧ k_ ≠ gb333 ∧ k_ ≠ gb343 ∧ k_ ≠ gb357 ∧ k_ ≠ gb367 ∧ k_ ≠ gb383 ∧ k_ ≠ gb391 ∧ k_ ≠ gb405) (fun _ hk => hk.2) (fun _ hk => ⟨hk.1.1.1, ⟨hk.1.1.2.1, ⟨hk.1.1.2.2.1, ⟨hk.1.1.2.2.2.1, ⟨hk.1.1.2.2.2.2.1, ⟨hk.1.1.2.2.2.2.2.1, ⟨hk.1.1.2.2.2.2.2.2, hk.1.2⟩⟩⟩⟩⟩⟩⟩); replace HO376 := zVm hw HO376 (fun k_ => some k_ ≠ (v381 : Value).ownBlock ∧ k_ ≠ gb333 ∧ k_ ≠ gb343 ∧ k_ ≠ gb357 ∧ k_ ≠ gb367 ∧ k_ ≠ gb383 ∧ k_ ≠ gb391 ∧ k_ ≠ gb405) (fun _ hk => hk.2) (fun _ hk => ⟨hk.1.1.1, ⟨hk.1.1.2.1, ⟨hk.1.1.2.2.1, ⟨hk.1.1.2.2.2.1, ⟨hk.1.1.2.2.2.2.1, ⟨hk.1.1.2.2.2.2.2.1, ⟨hk.1.1.2.2.2.2.2.2, hk.1.2⟩⟩⟩⟩⟩⟩⟩); replace HO379 := zVm hw HO379 (fun k_ => some k_ ≠ (v381 : Value).ownBlock ∧ k_ ≠ gb333 ∧ k_ ≠ gb343 ∧ k_ ≠ gb357 ∧ k_ ≠ gb367 ∧ k_ ≠ gb383 ∧ k_ ≠ gb391 ∧ k_ ≠ gb405) (fun _ hk => hk.2) (fun _ hk => ⟨hk.1.1.1, ⟨hk.1.1.2.1, ⟨hk.1.1.2.2.1, ⟨hk.1.1.2.2.2.1, ⟨hk.1.1.2.2.2.2.1, ⟨hk.1.1.2.2.2.2.2.1, ⟨hk.1.1.2.2.2.2.2.2, hk.1.2⟩⟩⟩⟩⟩⟩⟩); replace HO382 : Aside0 (Kd.R (Kd.int .i64) 3 w115 w.heap.size (fun _ => True) v381 t380) := ⟨(by rw [hw]; exact (by (with_reducible repeat (first | apply Kd.R_alloc | apply Kd.R_drewN | apply Kd.R_drew)); exact Kd.R_mono (Kd.R_far (p := ⟨gb405, 1, none⟩) (Kd.R_far (p := ⟨gb405, 0, none⟩) (Kd.R_types HO382.out BK405.out (by decide)) (fun _ hk => hk.2) (.slice Ao106 t398.length co106)) (fun _ hk => hk.2) (.slice Ao114 t401.length co114)) (fun _ hk => trivial)))⟩; replace HO386 := zVm hw HO386 (fun k_ => some k_ ≠ (v381 : Value).ownBlock ∧ k_ ≠ gb333 ∧ k_ ≠ gb343 ∧ k_ ≠ gb357 ∧ k_ ≠ gb367 ∧ k_ ≠ gb383 ∧ k_ ≠ gb391 ∧ k_ ≠ gb405) (fun _ hk => hk.2) (fun _ hk => ⟨hk.1.1.1, ⟨hk.1.1.2.1, ⟨hk.1.1.2.2.1, ⟨hk.1.1.2.2.2.1, ⟨hk.1.1.2.2.2.2.1, ⟨hk.1.1.2.2.2.2.2.1, ⟨hk.1.1.2.2.2.2.2.2, hk.1.2⟩⟩⟩⟩⟩⟩⟩); replace HO389 := zVm hw HO389 (fun k_ => some k_ ≠ (v381 : Value).ownBlock ∧ k_ ≠ gb333 ∧ k_ ≠ gb343 ∧ k_ ≠ gb357 ∧ k_ ≠ gb367 ∧ k_ ≠ gb383 ∧ k_ ≠ gb391 ∧ k_ ≠ gb405) (fun _ hk => hk.2) (fun _ hk => ⟨hk.1.1.1, ⟨hk.1.1.2.1, ⟨hk.1.1.2.2.1, ⟨hk.1.1.2.2.2.1, ⟨hk.1.1.2.2.2.2.1, ⟨hk.1.1.2.2.2.2.2.1, ⟨hk.1.1.2.2.2.2.2.2, hk.1.2⟩⟩⟩⟩⟩⟩⟩); replace HO394 := zVm hw HO394 (fun k_ => some k_ ≠ (v381 : Value).ownBlock ∧ k_ ≠ gb333 ∧ k_ ≠ gb343 ∧ k_ ≠ gb357 ∧ k_ ≠ gb367 ∧ k_ ≠ gb383 ∧ k_ ≠ gb391 ∧ k_ ≠ gb405) (fun _ hk => hk.2) (fun _ hk => ⟨hk.1.1.1, ⟨hk.1.1.2.1, ⟨hk.1.1.2.2.1, ⟨hk.1.1.2.2.2.1, ⟨hk.1.1.2.2.2.2.1, ⟨hk.1.1.2.2.2.2.2.1, ⟨hk.1.1.2.2.2.2.2.2, hk.1.2⟩⟩⟩⟩⟩⟩⟩); replace HO397 := zVm hw HO397 (fun k_ => some k_ ≠ (v381 : Value).ownBlock ∧ k_ ≠ gb333 ∧ k_ ≠ gb343 ∧ k_ ≠ gb357 ∧ k_ ≠ gb367 ∧ k_ ≠ gb383 ∧ k_ ≠ gb391 ∧ k_ ≠ gb405) (fun _ hk => hk.2) (fun _ hk => ⟨hk.1.1.1, ⟨hk.1.1.2.1, ⟨hk.1.1.2.2.1, ⟨hk.1.1.2.2.2.1, ⟨hk.1.1.2.2.2.2.1, ⟨hk.1.1.2.2.2.2.2.1, ⟨hk.1.1.2.2.2.2.2.2, hk.1.2⟩⟩⟩⟩⟩⟩⟩); replace HO400 := zVm hw HO400 (fun k_ => some k_ ≠ (v381 : Value).ownBlock ∧ k_ ≠ gb333 ∧ k_ ≠ gb343 ∧ k_ ≠ gb357 ∧ k_ ≠ gb367 ∧ k_ ≠ gb383 ∧ k_ ≠ gb391 ∧ k_ ≠ gb405) (fun _ hk => hk.2) (fun _ hk => ⟨hk.1.1.1, ⟨hk.1.1.2.1, ⟨hk.1.1.2.2.1, ⟨hk.1.1.2.2.2.1, ⟨hk.1.1.2.2.2.2.1, ⟨hk.1.1.2.2.2.2.2.1, ⟨hk.1.1.2.2.2.2.2.2, hk.1.2⟩⟩⟩⟩⟩⟩⟩); replace HO403 := zVm hw HO403 (fun k_ => some k_ ≠ (v381 : Value).ownBlock ∧ k_ ≠ gb333 ∧ k_ ≠ gb343 ∧ k_ ≠ gb357 ∧ k_ ≠ gb367 ∧ k_ ≠ gb383 ∧ k_ ≠ gb391 ∧ k_ ≠ gb405) (fun _ hk => hk.2) (fun _ hk => ⟨hk.1.1.1, ⟨hk.1.1.2.1, ⟨hk.1.1.2.2.1, ⟨hk.1.1.2.2.2.1, ⟨hk.1.1.2.2.2.2.1, ⟨hk.1.1.2.2.2.2.2.1, ⟨hk.1.1.2.2.2.2.2.2, hk.1.2⟩⟩⟩⟩⟩⟩⟩); replace BK333 := zks hw BK333 NB333_405; replace BK343 := zks hw BK343 NB343_405; replace BK357 := zks hw BK357 NB357_405; replace BK367 := zks hw BK367 NB367_405; replace BK383 := zks hw BK383 NB383_405; replace BK391 := zks hw BK391 NB391_405; replace BK405 : Aside0 (w115.heap[gb405]? = some (.cells #[.slice Ao106 t398.length co106, .slice Ao114 t401.length co114] 30 (0, 0))) := ⟨(by rw [hw]; exact (by (with_reducible repeat (first | refine blk_drewN ?_ _ | refine blk_drew ?_ | refine blk_alloc ?_ _)); refine blk_put (cs := #[.slice Ao106 t398.length co106, .slice none 0 0]) ?_ 1 _ rfl; (with_reducible repeat (first | refine blk_drewN ?_ _ | refine blk_drew ?_ | refine blk_alloc ?_ _)); refine blk_put (cs := #[.slice none 0 0, .slice none 0 0]) ?_ 0 _ rfl; (with_reducible repeat (first | refine blk_drewN ?_ _ | refine blk_drew ?_ | refine blk_alloc ?_ _)); exact BK405.out))⟩; replace HB : Aside0 (Below w.heap.size w w115) := ⟨(by rw [hw]; exact (zc7 HB GE333 GE343 GE357 GE367 GE383 GE391 GE405))⟩; clear hw; have hcz116_0 : w115.cell? ⟨gb333, 0, none⟩ = some (.slice A0_0 l0_0.length c0_0) := (blk_cell BK333.out 0).trans rfl; have hcz116_1 : w115.cell? ⟨gb333, 1, none⟩ = some (.slice A0_1 l0_1.length c0_1) := (blk_cell BK333.out 1).trans rfl; have hfz116_0 := blk_frozen BK333.out 0; have hfz116_1 := blk_frozen BK333.out 1) | ((with_reducible refine gate_callee (f := 17) rfl ?_); refine goesL_ (some 71) rfl rfl Try.func17 (by kernel_rfl) rfl #[.agg #[.slice A0_0 l0_0.length c0_0, .slice A0_1 l0_1.length c0_1], .int .i64 a1] rfl zm ?_; (with_reducible refine (cond_Leave.calls k (fun k_ => k_ < w.heap.size) _ _ l0_0 (fun k_ => k_ < w.heap.size) _ _ l0_1 a1 t406 t409 t412 t413 _ ?side1 ?side2 A15.out).mono ?_); (case side1 => exact Kd.V_mk HC0_0.out (Kd.F_below (Kd.C_F (Kd.heap_int .i64) HR0_0.out) (zc7 HB GE333 GE343 GE357 GE367 GE383 GE391 GE405))); (case side2 => exact Kd.V_mk HC0_1.out (Kd.F_below (Kd.C_F (Kd.heap_int .i64) HR0_1.out) (zc7 HB GE333 GE343 GE357 GE367 GE383 GE391 GE405))); rintro e w117 ⟨v407, v410, rfl, ho0, ho1, hb⟩; refine ⟨_, rfl, ?_⟩; replace HO338 := zVb HO338 hb; replace HO341 := zVb HO341 hb; replace HO346 := zVb HO346 hb; replace HO349 := zVb HO349 hb; replace HO352 := zVb HO352 hb; replace HO355 := zVb HO355 hb; replace HO360 := zVb HO360 hb; replace HO363 := zVb HO363 hb; replace HO366 := zVb HO366 hb; replace HO370 := zVb HO370 hb; replace HO373 := zVb HO373 hb; replace HO376 := zVb HO376 hb; replace HO379 := zVb HO379 hb; replace HO386 := zVb HO386 hb; replace HO389 := zVb HO389 hb; replace HO394 := zVb HO394 hb; replace HO397 := zVb HO397 hb; replace HO400 := zVb HO400 hb; replace HO403 := zVb HO403 hb; have HO408 := am (Kd.V_lower (Kd.V_mono (ok' := fun k_ => some k_ ≠ (v381 : Value).ownBlock ∧ k_ ≠ gb333 ∧ k_ ≠ gb343 ∧ k_ ≠ gb357 ∧ k_ ≠ gb367 ∧ k_ ≠ gb383 ∧ k_ ≠ gb391 ∧ k_ ≠ gb405) ho0 (fun k_ hk_ => ⟨Or.elim hk_ (fun hs_ => Or.elim hs_ (fun hs_ => fun e_ => Nat.not_le.2 hs_ (Kd.R_base HO382.out k_ e_.symm)) (fun hs_ => fun e_ => Nat.not_le.2 hs_ (Kd.R_base HO382.out k_ e_.symm))) (fun hn_ => (Kd.fresh' (Kd.R_lt (zR HO382)) k_ hn_)), Or.elim hk_ (fun hs_ => Or.elim hs_ (znl GW333) (znl GW333)) (fun hn_ => (zfr gb333 BK333 hn_)), Or.elim hk_ (fun hs_ => Or.elim hs_ (znl GW343) (znl GW343)) (fun hn_ => (zfr gb343 BK343 hn_)), Or.elim hk_ (fun hs_ => Or.elim hs_ (znl GW357) (znl GW357)) (fun hn_ => (zfr gb357 BK357 hn_)), Or.elim hk_ (fun hs_ => Or.elim hs_ (znl GW367) (znl GW367)) (fun hn_ => (zfr gb367 BK367 hn_)), Or.elim hk_ (fun hs_ => Or.elim hs_ (znl GW383) (znl GW383)) (fun hn_ => (zfr gb383 BK383 hn_)), Or.elim hk_ (fun hs_ => Or.elim hs_ (znl GW391) (znl GW391)) (fun hn_ => (zfr gb391 BK391 hn_)), Or.elim hk_ (fun hs_ => Or.elim hs_ (znl GW405) (znl GW405)) (fun hn_ => (zfr gb405 BK405 hn_))⟩)) (below_size (zc7 HB GE333 GE343 GE357 GE367 GE383 GE391 GE405))); have HO411 := am (Kd.V_lower (Kd.V_mono (ok' := fun k_ => some k_ ≠ (v381 : Value).ownBlock ∧ k_ ≠ gb333 ∧ k_ ≠ gb343 ∧ k_ ≠ gb357 ∧ k_ ≠ gb367 ∧ k_ ≠ gb383 ∧ k_ ≠ gb391 ∧ k_ ≠ gb405) ho1 (fun k_ hk_ => ⟨Or.elim hk_ (fun hs_ => Or.elim hs_ (fun hs_ => fun e_ => Nat.not_le.2 hs_ (Kd.R_base HO382.out k_ e_.symm)) (fun hs_ => fun e_ => Nat.not_le.2 hs_ (Kd.R_base HO382.out k_ e_.symm))) (fun hn_ => (Kd.fresh' (Kd.R_lt (zR HO382)) k_ hn_)), Or.elim hk_ (fun hs_ => Or.elim hs_ (znl GW333) (znl GW333)) (fun hn_ => (zfr gb333 BK333 hn_)), Or.elim hk_ (fun hs_ => Or.elim hs_ (znl GW343) (znl GW343)) (fun hn_ => (zfr gb343 BK343 hn_)), Or.elim hk_ (fun hs_ => Or.elim hs_ (znl GW357) (znl GW357)) (fun hn_ => (zfr gb357 BK357 hn_)), Or.elim hk_ (fun hs_ => Or.elim hs_ (znl GW367) (znl GW367)) (fun hn_ => (zfr gb367 BK367 hn_)), Or.elim hk_ (fun hs_ => Or.elim hs_ (znl GW383) (znl GW383)) (fun hn_ => (zfr gb383 BK383 hn_)), Or.elim hk_ (fun hs_ => Or.elim hs_ (znl GW391) (znl GW391)) (fun hn_ => (zfr gb391 BK391 hn_)), Or.elim hk_ (fun hs_ => Or.elim hs_ (znl GW405) (znl GW405)) (fun hn_ => (zfr gb405 BK405 hn_))⟩)) (below_size (zc7 HB GE333 GE343 GE357 GE367 GE383 GE391 GE405))); replace HO382 := zRb HO382 hb; replace BK333 := zbb BK333 hb; replace BK343 := zbb BK343 hb; replace BK357 := zbb BK357 hb; replace BK367 := zbb BK367 hb; replace BK383 := zbb BK383 hb; replace BK391 := zbb BK391 hb; replace BK405 := zbb BK405 hb; replace HB := am (below_step (zc7 HB GE333 GE343 GE357 GE367 GE383 GE391 GE405) hb); (try clear hb); (try clear hb2); (try clear hk); (try clear hi); (try clear ho0); (try clear ho1)) | ((with_reducible refine gate_dst (N := 19) rfl ?_); refine box_event ?hg (N := 19) ?hd (cs := #[.slice none 0 0, .slice none 0 0]) (t := 24) ?hr ?_; (case hd => rfl); (case hg => rfl); (case hr => first | (go_simp; done) | (go_simp; rfl)); intro gb414 hg w118 hbox hb; replace HO338 := zVe HO338 hg hb; replace HO341 := zVe HO341 hg hb; replace HO346 := zVe HO346 hg hb; replace HO349 := zVe HO349 hg hb; replace HO352 := zVe HO352 hg hb; replace HO355 := zVe HO355 hg hb; replace HO360 := zVe HO360 hg hb; replace HO363 := zVe HO363 hg hb; replace HO366 := zVe HO366 hg hb; replace HO370 := zVe HO370 hg hb; replace HO373 := zVe HO373 hg hb; replace HO376 := zVe HO376 hg hb; replace HO379 := zVe HO379 hg hb; replace HO382 := zRb HO382 hb; replace HO386 := zVe HO386 hg hb; replace HO389 := zVe HO389 hg hb; replace HO394 := zVe HO394 hg hb; replace HO397 := zVe HO397 hg hb; replace HO400 := zVe HO400 hg hb; replace HO403 := zVe HO403 hg hb; replace HO408 := zVe HO408 hg hb; replace HO411 := zVe HO411 hg hb; have BK414 := am (hbox); have GW414 := zsz hg (zc7 HB GE333 GE343 GE357 GE367 GE383 GE391 GE405); have GE414 := zsz hg (zc7 HB GE333 GE343 GE357 GE367 GE383 GE391 GE405); replace HB := am (below_step (zc7 HB GE333 GE343 GE357 GE367 GE383 GE391 GE405) hb); have NB333_414 := znt BK333 hg; have NB414_333 := zng BK333 hg; replace BK333 := zbb BK333 hb; have NB343_414 := znt BK343 hg; have NB414_343 := zng BK343 hg; replace BK343 := zbb BK343 hb; have NB357_414 := znt BK357 hg; have NB414_357 := zng BK357 hg; replace BK357 := zbb BK357 hb; have NB367_414 := znt BK367 hg; have NB414_367 := zng BK367 hg; replace BK367 := zbb BK367 hb; have NB383_414 := znt BK383 hg; have NB414_383 := zng BK383 hg; replace BK383 := zbb BK383 hb; have NB391_414 := znt BK391 hg; have NB414_391 := zng BK391 hg; replace BK391 := zbb BK391 hb; have NB405_414 := znt BK405 hg; have NB414_405 := zng BK405 hg; replace BK405 := zbb BK405 hb; clear hb hbox hg; obtain ⟨Ao119, co119, eo119⟩ := Kd.V_slice HO408.out; subst eo119; have hnb120 := NB414_333.out; have hnc120 := NB333_414.out; have hnb121 := NB414_343.out; have hnc121 := NB343_414.out; have hnb122 := NB414_357.out; have hnc122 := NB357_414.out; have hnb123 := NB414_367.out; have hnc123 := NB367_414.out; have hnb124 := NB414_383.out; have hnc124 := NB383_414.out; have hnb125 := NB414_391.out; have hnc125 := NB391_414.out; have hnb126 := NB414_405.out; have hnc126 := NB405_414.out; have hcz127_0 : w118.cell? ⟨gb414, 0, none⟩ = some (.slice none 0 0) := (blk_cell BK414.out 0).trans rfl; have hcz127_1 : w118.cell? ⟨gb414, 1, none⟩ = some (.slice none 0 0) := (blk_cell BK414.out 1).trans rfl; have hfz127_0 := blk_frozen BK414.out 0; have hfz127_1 := blk_frozen BK414.out 1; obtain ⟨Ao128, co128, eo128⟩ := Kd.V_slice HO411.out; subst eo128) | ((with_reducible refine gate_store (t := 24) (p := 19) rfl ?_); refine store_event (t := 24) (p := 19) (v := ?vo_w129) (w1 := ((w118.setCell ⟨gb414, 0, none⟩ (.slice Ao119 t406.length co119)).setCell ⟨gb414, 1, none⟩ (.slice Ao128 t409.length co128))) ?hg ?ho ?hn ?hr ?_; (case ho => rfl); (case hg => rfl); (case hn => rfl); (case hr => first | (go_simp; done) | (go_simp; rfl)); intro w129 hw; replace HO338 := zVm hw HO338 (fun k_ => some k_ ≠ (v381 : Value).ownBlock ∧ k_ ≠ gb333 ∧ k_ ≠ gb343 ∧ k_ ≠ gb357 ∧ k_ ≠ gb367 ∧ k_ ≠ gb383 ∧ k_ ≠ gb391 ∧ k_ ≠ gb405 ∧ k_ ≠ gb414) (fun _ hk => hk.2) (fun _ hk => ⟨hk.1.1.1, ⟨hk.1.1.2.1, ⟨hk.1.1.2.2.1, ⟨hk.1.1.2.2.2.1, ⟨hk.1.1.2.2.2.2.1, ⟨hk.1.1.2.2.2.2.2.1, ⟨hk.1.1.2.2.2.2.2.2.1, ⟨hk.1.1.2.2.2.2.2.2.2, hk.1.2⟩⟩⟩⟩⟩⟩⟩⟩); replace HO341 := zVm hw HO341 (fun k_ => some k_ ≠ (v381 : Value).ownBlock ∧ k_ ≠ gb333 ∧ k_ ≠ gb343 ∧ k_ ≠ gb357 ∧ k_ ≠ gb367 ∧ k_ ≠ gb383 ∧ k_ ≠ gb391 ∧ k_ ≠ gb405 ∧ k_ ≠ gb414) (fun _ hk => hk.2) (fun _ hk => ⟨hk.1.1.1, ⟨hk.1.1.2.1, ⟨hk.1.1.2.2.1, ⟨hk.1.1.2.2.2.1, ⟨hk.1.1.2.2.2.2.1, ⟨hk.1.1.2.2.2.2.2.1, ⟨hk.1.1.2.2.2.2.2.2.1, ⟨hk.1.1.2.2.2.2.2.2.2, hk.1.2⟩⟩⟩⟩⟩⟩⟩⟩); replace HO346 := zVm hw HO346 (fun k_ => some k_ ≠ (v381 : Value).ownBlock ∧ k_ ≠ gb333 ∧ k_ ≠ gb343 ∧ k_ ≠ gb357 ∧ k_ ≠ gb367 ∧ k_ ≠ gb383 ∧ k_ ≠ gb391 ∧ k_ ≠ gb405 ∧ k_ ≠ gb414) (fun _ hk => hk.2) (fun _ hk => ⟨hk.1.1.1, ⟨hk.1.1.2.1, ⟨hk.1.1.2.2.1, ⟨hk.1.1.2.2.2.1, ⟨hk.1.1.2.2.2.2.1, ⟨hk.1.1.2.2.2.2.2.1, ⟨hk.1.1.2.2.2.2.2.2.1, ⟨hk.1.1.2.2.2.2.2.2.2, hk.1.2⟩⟩⟩⟩⟩⟩⟩⟩); replace HO349 := zVm hw HO349 (fun k_ => some k_ ≠ (v381 : Value).ownBlock ∧ k_ ≠ gb333 ∧ k_ ≠ gb343 ∧ k_ ≠ gb357 ∧ k_ ≠ gb367 ∧ k_ ≠ gb383 ∧ k_ ≠ gb391 ∧ k_ ≠ gb405 ∧ k_ ≠ gb414) (fun _ hk => hk.2) (fun _ hk => ⟨hk.1.1.1, ⟨hk.1.1.2.1, ⟨hk.1.1.2.2.1, ⟨hk.1.1.2.2.2.1, ⟨hk.1.1.2.2.2.2.1, ⟨hk.1.1.2.2.2.2.2.1, ⟨hk.1.1.2.2.2.2.2.2.1, ⟨hk.1.1.2.2.2.2.2.2.2, hk.1.2⟩⟩⟩⟩⟩⟩⟩⟩); replace HO352 := zVm hw HO352 (fun k_ => some k_ ≠ (v381 : Value).ownBlock ∧ k_ ≠ gb333 ∧ k_ ≠ gb343 ∧ k_ ≠ gb357 ∧ k_ ≠ gb367 ∧ k_ ≠ gb383 ∧ k_ ≠ gb391 ∧ k_ ≠ gb405 ∧ k_ ≠ gb414) (fun _ hk => hk.2) (fun _ hk => ⟨hk.1.1.1, ⟨hk.1.1.2.1, ⟨hk.1.1.2.2.1, ⟨hk.1.1.2.2.2.1, ⟨hk.1.1.2.2.2.2.1, ⟨hk.1.1.2.2.2.2.2.1, ⟨hk.1.1.2.2.2.2.2.2.1, ⟨hk.1.1.2.2.2.2.2.2.2, hk.1.2⟩⟩⟩⟩⟩⟩⟩⟩); replace HO355 := zVm hw HO355 (fun k_ => some k_ ≠ (v381 : Value).ownBlock ∧ k_ ≠ gb333 ∧ k_ ≠ gb343 ∧ k_ ≠ gb357 ∧ k_ ≠ gb367 ∧ k_ ≠ gb383 ∧ k_ ≠ gb391 ∧ k_ ≠ gb405 ∧ k_ ≠ gb414) (fun _ hk => hk.2) (fun _ hk => ⟨hk.1.1.1, ⟨hk.1.1.2.1, ⟨hk.1.1.2.2.1, ⟨hk.1.1.2.2.2.1, ⟨hk.1.1.2.2.2.2.1, ⟨hk.1.1.2.2.2.2.2.1, ⟨hk.1.1.2.2.2.2.2.2.1, ⟨hk.1.1.2.2.2.2.2.2.2, hk.1.2⟩⟩⟩⟩⟩⟩⟩⟩); replace HO360 := zVm hw HO360 (fun k_ => some k_ ≠ (v381 : Value).ownBlock ∧ k_ ≠ gb333 ∧ k_ ≠ gb343 ∧ k_ ≠ gb357 ∧ k_ ≠ gb367 ∧ k_ ≠ gb383 ∧ k_ ≠ gb391 ∧ k_ ≠ gb405 ∧ k_ ≠ gb414) (fun _ hk => hk.2) (fun _ hk => ⟨hk.1.1.1, ⟨hk.1.1.2.1, ⟨hk.1.1.2.2.1, ⟨hk.1.1.2.2.2.1, ⟨hk.1.1.2.2.2.2.1, ⟨hk.1.1.2.2.2.2.2.1, ⟨hk.1.1.2.2.2.2.2.2.1, ⟨hk.1.1.2.2.2.2.2.2.2, hk.1.2⟩⟩⟩⟩⟩⟩⟩⟩); replace HO363 := zVm hw HO363 (fun k_ => some k_ ≠ (v381 : Value).ownBlock ∧ k_ ≠ gb333 ∧ k_ ≠ gb343 ∧ k_ ≠ gb357 ∧ k_ ≠ gb367 ∧ k_ ≠ gb383 ∧ k_ ≠ gb391 ∧ k_ ≠ gb405 ∧ k_ ≠ gb414) (fun _ hk => hk.2) (fun _ hk => ⟨hk.1.1.1, ⟨hk.1.1.2.1, ⟨hk.1.1.2.2.1, ⟨hk.1.1.2.2.2.1, ⟨hk.1.1.2.2.2.2.1, ⟨hk.1.1.2.2.2.2.2.1, ⟨hk.1.1.2.2.2.2.2.2.1, ⟨hk.1.1.2.2.2.2.2.2.2, hk.1.2⟩⟩⟩⟩⟩⟩⟩⟩); replace HO366 := zVm hw HO366 (fun k_ => some k_ ≠ (v381 : Value).ownBlock ∧ k_ ≠ gb333 ∧ k_ ≠ gb343 ∧ k_ ≠ gb357 ∧ k_ ≠ gb367 ∧ k_ ≠ gb383 ∧ k_ ≠ gb391 ∧ k_ ≠ gb405 ∧ k_ ≠ gb414) (fun _ hk => hk.2) (fun _ hk => ⟨hk.1.1.1, ⟨hk.1.1.2.1, ⟨hk.1.1.2.2.1, ⟨hk.1.1.2.2.2.1, ⟨hk.1.1.2.2.2.2.1, ⟨hk.1.1.2.2.2.2.2.1, ⟨hk.1.1.2.2.2.2.2.2.1, ⟨hk.1.1.2.2.2.2.2.2.2, hk.1.2⟩⟩⟩⟩⟩⟩⟩⟩); replace HO370 := zVm hw HO370 (fun k_ => some k_ ≠ (v381 : Value).ownBlock ∧ k_ ≠ gb333 ∧ k_ ≠ gb343 ∧ k_ ≠ gb357 ∧ k_ ≠ gb367 ∧ k_ ≠ gb383 ∧ k_ ≠ gb391 ∧ k_ ≠ gb405 ∧ k_ ≠ gb414) (fun _ hk => hk.2) (fun _ hk => ⟨hk.1.1.1, ⟨hk.1.1.2.1, ⟨hk.1.1.2.2.1, ⟨hk.1.1.2.2.2.1, ⟨hk.1.1.2.2.2.2.1, ⟨hk.1.1.2.2.2.2.2.1, ⟨hk.1.1.2.2.2.2.2.2.1, ⟨hk.1.1.2.2.2.2.2.2.2, hk.1.2⟩⟩⟩⟩⟩⟩⟩⟩); replace HO373 := zVm hw HO373 (fun k_ => some k_ ≠ (v381 : Value).ownBlock ∧ k_ ≠ gb333 ∧ k_ ≠ gb343 ∧ k_ ≠ gb357 ∧ k_ ≠ gb367 ∧ k_ ≠ gb383 ∧ k_ ≠ gb391 ∧ k_ ≠ gb405 ∧ k_ ≠ gb414) (fun _ hk => hk.2) (fun _ hk => ⟨hk.1.1.1, ⟨hk.1.1.2.1, ⟨hk.1.1.2.2.1, ⟨hk.1.1.2.2.2.1, ⟨hk.1.1.2.2.2.2.1, ⟨hk.1.1.2.2.2.2.2.1, ⟨hk.1.1.2.2.2.2.2.2.1, ⟨hk.1.1.2.2.2.2.2.2.2, hk.1.2⟩⟩⟩⟩⟩⟩⟩⟩); replace HO376 := zVm hw HO376 (fun k_ => some k_ ≠ (v381 : Value).ownBlock ∧ k_ ≠ gb333 ∧ k_ ≠ gb343 ∧ k_ ≠ gb357 ∧ k_ ≠ gb367 ∧ k_ ≠ gb383 ∧ k_ ≠ gb391 ∧ k_ ≠ gb405 ∧ k_ ≠ gb414) (fun _ hk => hk.2) (fun _ hk => ⟨hk.1.1.1, ⟨hk.1.1.2.1, ⟨hk.1.1.2.2.1, ⟨hk.1.1.2.2.2.1, ⟨hk.1.1.2.2.2.2.1, ⟨hk.1.1.2.2.2.2.2.1, ⟨hk.1.1.2.2.2.2.2.2.1, ⟨hk.1.1.2.2.2.2.2.2.2, hk.1.2⟩⟩⟩⟩⟩⟩⟩⟩); replace HO379 := zVm hw HO379 (fun k_ => some k_ ≠ (v381 : Value).ownBlock ∧ k_ ≠ gb333 ∧ k_ ≠ gb343 ∧ k_ ≠ gb357 ∧ k_ ≠ gb367 ∧ k_ ≠ gb383 ∧ k_ ≠ gb391 ∧ k_ ≠ gb405 ∧ k_ ≠ gb414) (fun _ hk => hk.2) (fun _ hk => ⟨hk.1.1.1, ⟨hk.1.1.2.1, ⟨hk.1.1.2.2.1, ⟨hk.1.1.2.2.2.1, ⟨hk.1.1.2.2.2.2.1, ⟨hk.1.1.2.2.2.2.2.1, ⟨hk.1.1.2.2.2.2.2.2.1, ⟨hk.1.1.2.2.2.2.2.2.2, hk.1.2⟩⟩⟩⟩⟩⟩⟩⟩); replace HO382 : Aside0 (Kd.R (Kd.int .i64) 3 w129 w.heap.size (fun _ => True) v381 t380) := ⟨(by rw [hw]; exact (by (with_reducible repeat (first | apply Kd.R_alloc | apply Kd.R_drewN | apply Kd.R_drew)); exact Kd.R_mono (Kd.R_far (p := ⟨gb414, 1, none⟩) (Kd.R_far (p := ⟨gb414, 0, none⟩) (Kd.R_types HO382.out BK414.out (by decide)) (fun _ hk => hk.2) (.slice Ao119 t406.length co119)) (fun _ hk => hk.2) (.slice Ao128 t409.length co128)) (fun _ hk => trivial)))⟩; replace HO386 := zVm hw HO386 (fun k_ => some k_ ≠ (v381 : Value).ownBlock ∧ k_ ≠ gb333 ∧ k_ ≠ gb343 ∧ k_ ≠ gb357 ∧ k_ ≠ gb367 ∧ k_ ≠ gb383 ∧ k_ ≠ gb391 ∧ k_ ≠ gb405 ∧ k_ ≠ gb414) (fun _ hk => hk.2) (fun _ hk => ⟨hk.1.1.1, ⟨hk.1.1.2.1, ⟨hk.1.1.2.2.1, ⟨hk.1.1.2.2.2.1, ⟨hk.1.1.2.2.2.2.1, ⟨hk.1.1.2.2.2.2.2.1, ⟨hk.1.1.2.2.2.2.2.2.1, ⟨hk.1.1.2.2.2.2.2.2.2, hk.1.2⟩⟩⟩⟩⟩⟩⟩⟩); replace HO389 := zVm hw HO389 (fun k_ => some k_ ≠ (v381 : Value).ownBlock ∧ k_ ≠ gb333 ∧ k_ ≠ gb343 ∧ k_ ≠ gb357 ∧ k_ ≠ gb367 ∧ k_ ≠ gb383 ∧ k_ ≠ gb391 ∧ k_ ≠ gb405 ∧ k_ ≠ gb414) (fun _ hk => hk.2) (fun _ hk => ⟨hk.1.1.1, ⟨hk.1.1.2.1, ⟨hk.1.1.2.2.1, ⟨hk.1.1.2.2.2.1, ⟨hk.1.1.2.2.2.2.1, ⟨hk.1.1.2.2.2.2.2.1, ⟨hk.1.1.2.2.2.2.2.2.1, ⟨hk.1.1.2.2.2.2.2.2.2, hk.1.2⟩⟩⟩⟩⟩⟩⟩⟩); replace HO394 := zVm hw HO394 (fun k_ => some k_ ≠ (v381 : Value).ownBlock ∧ k_ ≠ gb333 ∧ k_ ≠ gb343 ∧ k_ ≠ gb357 ∧ k_ ≠ gb367 ∧ k_ ≠ gb383 ∧ k_ ≠ gb391 ∧ k_ ≠ gb405 ∧ k_ ≠ gb414) (fun _ hk => hk.2) (fun _ hk => ⟨hk.1.1.1, ⟨hk.1.1.2.1, ⟨hk.1.1.2.2.1, ⟨hk.1.1.2.2.2.1, ⟨hk.1.1.2.2.2.2.1, ⟨hk.1.1.2.2.2.2.2.1, ⟨hk.1.1.2.2.2.2.2.2.1, ⟨hk.1.1.2.2.2.2.2.2.2, hk.1.2⟩⟩⟩⟩⟩⟩⟩⟩); replace HO397 := zVm hw HO397 (fun k_ => some k_ ≠ (v381 : Value).ownBlock ∧ k_ ≠ gb333 ∧ k_ ≠ gb343 ∧ k_ ≠ gb357 ∧ k_ ≠ gb367 ∧ k_ ≠ gb383 ∧ k_ ≠ gb391 ∧ k_ ≠ gb405 ∧ k_ ≠ gb414) (fun _ hk => hk.2) (fun _ hk => ⟨hk.1.1.1, ⟨hk.1.1.2.1, ⟨hk.1.1.2.2.1, ⟨hk.1.1.2.2.2.1, ⟨hk.1.1.2.2.2.2.1, ⟨hk.1.1.2.2.2.2.2.1, ⟨hk.1.1.2.2.2.2.2.2.1, ⟨hk.1.1.2.2.2.2.2.2.2, hk.1.2⟩⟩⟩⟩⟩⟩⟩⟩); replace HO400 := zVm hw HO400 (fun k_ => some k_ ≠ (v381 : Value).ownBlock ∧ k_ ≠ gb333 ∧ k_ ≠ gb343 ∧ k_ ≠ gb357 ∧ k_ ≠ gb367 ∧ k_ ≠ gb383 ∧ k_ ≠ gb391 ∧ k_ ≠ gb405 ∧ k_ ≠ gb414) (fun _ hk => hk.2) (fun _ hk => ⟨hk.1.1.1, ⟨hk.1.1.2.1, ⟨hk.1.1.2.2.1, ⟨hk.1.1.2.2.2.1, ⟨hk.1.1.2.2.2.2.1, ⟨hk.1.1.2.2.2.2.2.1, ⟨hk.1.1.2.2.2.2.2.2.1, ⟨hk.1.1.2.2.2.2.2.2.2, hk.1.2⟩⟩⟩⟩⟩⟩⟩⟩); replace HO403 := zVm hw HO403 (fun k_ => some k_ ≠ (v381 : Value).ownBlock ∧ k_ ≠ gb333 ∧ k_ ≠ gb343 ∧ k_ ≠ gb357 ∧ k_ ≠ gb367 ∧ k_ ≠ gb383 ∧ k_ ≠ gb391 ∧ k_ ≠ gb405 ∧ k_ ≠ gb414) (fun _ hk => hk.2) (fun _ hk => ⟨hk.1.1.1, ⟨hk.1.1.2.1, ⟨hk.1.1.2.2.1, ⟨hk.1.1.2.2.2.1, ⟨hk.1.1.2.2.2.2.1, ⟨hk.1.1.2.2.2.2.2.1, ⟨hk.1.1.2.2.2.2.2.2.1, ⟨hk.1.1.2.2.2.2.2.2.2, hk.1.2⟩⟩⟩⟩⟩⟩⟩⟩); replace HO408 := zVm hw HO408 (fun k_ => some k_ ≠ (v381 : Value).ownBlock ∧ k_ ≠ gb333 ∧ k_ ≠ gb343 ∧ k_ ≠ gb357 ∧ k_ ≠ gb367 ∧ k_ ≠ gb383 ∧ k_ ≠ gb391 ∧ k_ ≠ gb405 ∧ k_ ≠ gb414) (fun _ hk => hk.2) (fun _ hk => ⟨hk.1.1.1, ⟨hk.1.1.2.1, ⟨hk.1.1.2.2.1, ⟨hk.1.1.2.2.2.1, ⟨hk.1.1.2.2.2.2.1, ⟨hk.1.1.2.2.2.2.2.1, ⟨hk.1.1.2.2.2.2.2.2.1, ⟨hk.1.1.2.2.2.2.2.2.2, hk.1.2⟩⟩⟩⟩⟩⟩⟩⟩); replace HO411 := zVm hw HO411 (fun k_ => some k_ ≠ (v381 : Value).ownBlock ∧ k_ ≠ gb333 ∧ k_ ≠ gb343 ∧ k_ ≠ gb357 ∧ k_ ≠ gb367 ∧ k_ ≠ gb383 ∧ k_ ≠ gb391 ∧ k_ ≠ gb405 ∧ k_ ≠ gb414) (fun _ hk => hk.2) (fun _ hk => ⟨hk.1.1.1, ⟨hk.1.1.2.1, ⟨hk.1.1.2.2.1, ⟨hk.1.1.2.2.2.1, ⟨hk.1.1.2.2.2.2.1, ⟨hk.1.1.2.2.2.2.2.1, ⟨hk.1.1.2.2.2.2.2.2.1, ⟨hk.1.1.2.2.2.2.2.2.2, hk.1.2⟩⟩⟩⟩⟩⟩⟩⟩); replace BK333 := zks hw BK333 NB333_414; replace BK343 := zks hw BK343 NB343_414; replace BK357 := zks hw BK357 NB357_414; replace BK367 := zks hw BK367 NB367_414; replace BK383 := zks hw BK383 NB383_414; replace BK391 := zks hw BK391 NB391_414; replace BK405 := zks hw BK405 NB405_414; replace BK414 : Aside0 (w129.heap[gb414]? = some (.cells #[.slice Ao119 t406.length co119, .slice Ao128 t409.length co128] 24 (0, 0))) := ⟨(by rw [hw]; exact (by (with_reducible repeat (first | refine blk_drewN ?_ _ | refine blk_drew ?_ | refine blk_alloc ?_ _)); refine blk_put (cs := #[.slice Ao119 t406.length co119, .slice none 0 0]) ?_ 1 _ rfl; (with_reducible repeat (first | refine blk_drewN ?_ _ | refine blk_drew ?_ | refine blk_alloc ?_ _)); refine blk_put (cs := #[.slice none 0 0, .slice none 0 0]) ?_ 0 _ rfl; (with_reducible repeat (first | refine blk_drewN ?_ _ | refine blk_drew ?_ | refine blk_alloc ?_ _)); exact BK414.out))⟩; replace HB : Aside0 (Below w.heap.size w w129) := ⟨(by rw [hw]; exact (zc8 HB GE333 GE343 GE357 GE367 GE383 GE391 GE405 GE414))⟩; clear hw; have hcz130_0 : w129.cell? ⟨gb333, 0, none⟩ = some (.slice A0_0 l0_0.length c0_0) := (blk_cell BK333.out 0).trans rfl; have hcz130_1 : w129.cell? ⟨gb333, 1, none⟩ = some (.slice A0_1 l0_1.length c0_1) := (blk_cell BK333.out 1).trans rfl; have hfz130_0 := blk_frozen BK333.out 0; have hfz130_1 := blk_frozen BK333.out 1) | ((with_reducible refine gate_callee (f := 12) rfl ?_); refine goesL_ (some 77) rfl rfl Try.func12 (by kernel_rfl) rfl #[.agg #[.slice A0_0 l0_0.length c0_0, .slice A0_1 l0_1.length c0_1]] rfl zm ?_; (with_reducible refine (handshakerlaw20_ref.calls (fun k_ => k_ < w.heap.size) _ _ l0_0 (fun k_ => k_ < w.heap.size) _ _ l0_1 t415 t418 _ ?side1 ?side2 A16.out).mono ?_); (case side1 => exact Kd.V_mk HC0_0.out (Kd.F_below (Kd.C_F (Kd.heap_int .i64) HR0_0.out) (zc8 HB GE333 GE343 GE357 GE367 GE383 GE391 GE405 GE414))); (case side2 => exact Kd.V_mk HC0_1.out (Kd.F_below (Kd.C_F (Kd.heap_int .i64) HR0_1.out) (zc8 HB GE333 GE343 GE357 GE367 GE383 GE391 GE405 GE414))); rintro e w131 ⟨v416, v419, rfl, ho0, ho1, hb⟩; refine ⟨_, rfl, ?_⟩; replace HO338 := zVb HO338 hb; replace HO341 := zVb HO341 hb; replace HO346 := zVb HO346 hb; replace HO349 := zVb HO349 hb; replace HO352 := zVb HO352 hb; replace HO355 := zVb HO355 hb; replace HO360 := zVb HO360 hb; replace HO363 := zVb HO363 hb; replace HO366 := zVb HO366 hb; replace HO370 := zVb HO370 hb; replace HO373 := zVb HO373 hb; replace HO376 := zVb HO376 hb; replace HO379 := zVb HO379 hb; replace HO386 := zVb HO386 hb; replace HO389 := zVb HO389 hb; replace HO394 := zVb HO394 hb; replace HO397 := zVb HO397 hb; replace HO400 := zVb HO400 hb; replace HO403 := zVb HO403 hb; replace HO408 := zVb HO408 hb; replace HO411 := zVb HO411 hb; have HO417 := am (Kd.V_lower (Kd.V_mono (ok' := fun k_ => some k_ ≠ (v381 : Value).ownBlock ∧ k_ ≠ gb333 ∧ k_ ≠ gb343 ∧ k_ ≠ gb357 ∧ k_ ≠ gb367 ∧ k_ ≠ gb383 ∧ k_ ≠ gb391 ∧ k_ ≠ gb405 ∧ k_ ≠ gb414) ho0 (fun k_ hk_ => ⟨Or.elim hk_ (fun hs_ => Or.elim hs_ (fun hs_ => fun e_ => Nat.not_le.2 hs_ (Kd.R_base HO382.out k_ e_.symm)) (fun hs_ => fun e_ => Nat.not_le.2 hs_ (Kd.R_base HO382.out k_ e_.symm))) (fun hn_ => (Kd.fresh' (Kd.R_lt (zR HO382)) k_ hn_)), Or.elim hk_ (fun hs_ => Or.elim hs_ (znl GW333) (znl GW333)) (fun hn_ => (zfr gb333 BK333 hn_)), Or.elim hk_ (fun hs_ => Or.elim hs_ (znl GW343) (znl GW343)) (fun hn_ => (zfr gb343 BK343 hn_)), Or.elim hk_ (fun hs_ => Or.elim hs_ (znl GW357) (znl GW357)) (fun hn_ => (zfr gb357 BK357 hn_)), Or.elim hk_ (fun hs_ => Or.elim hs_ (znl GW367) (znl GW367)) (fun hn_ => (zfr gb367 BK367 hn_)), Or.elim hk_ (fun hs_ => Or.elim hs_ (znl GW383) (znl GW383)) (fun hn_ => (zfr gb383 BK383 hn_)), Or.elim hk_ (fun hs_ => Or.elim hs_ (znl GW391) (znl GW391)) (fun hn_ => (zfr gb391 BK391 hn_)), Or.elim hk_ (fun hs_ => Or.elim hs_ (znl GW405) (znl GW405)) (fun hn_ => (zfr gb405 BK405 hn_)), Or.elim hk_ (fun hs_ => Or.elim hs_ (znl GW414) (znl GW414)) (fun hn_ => (zfr gb414 BK414 hn_))⟩)) (below_size (zc8 HB GE333 GE343 GE357 GE367 GE383 GE391 GE405 GE414))); have HO420 := am (Kd.V_lower (Kd.V_mono (ok' := fun k_ => some k_ ≠ (v381 : Value).ownBlock ∧ k_ ≠ gb333 ∧ k_ ≠ gb343 ∧ k_ ≠ gb357 ∧ k_ ≠ gb367 ∧ k_ ≠ gb383 ∧ k_ ≠ gb391 ∧ k_ ≠ gb405 ∧ k_ ≠ gb414) ho1 (fun k_ hk_ => ⟨Or.elim hk_ (fun hs_ => Or.elim hs_ (fun hs_ => fun e_ => Nat.not_le.2 hs_ (Kd.R_base HO382.out k_ e_.symm)) (fun hs_ => fun e_ => Nat.not_le.2 hs_ (Kd.R_base HO382.out k_ e_.symm))) (fun hn_ => (Kd.fresh' (Kd.R_lt (zR HO382)) k_ hn_)), Or.elim hk_ (fun hs_ => Or.elim hs_ (znl GW333) (znl GW333)) (fun hn_ => (zfr gb333 BK333 hn_)), Or.elim hk_ (fun hs_ => Or.elim hs_ (znl GW343) (znl GW343)) (fun hn_ => (zfr gb343 BK343 hn_)), Or.elim hk_ (fun hs_ => Or.elim hs_ (znl GW357) (znl GW357)) (fun hn_ => (zfr gb357 BK357 hn_)), Or.elim hk_ (fun hs_ => Or.elim hs_ (znl GW367) (znl GW367)) (fun hn_ => (zfr gb367 BK367 hn_)), Or.elim hk_ (fun hs_ => Or.elim hs_ (znl GW383) (znl GW383)) (fun hn_ => (zfr gb383 BK383 hn_)), Or.elim hk_ (fun hs_ => Or.elim hs_ (znl GW391) (znl GW391)) (fun hn_ => (zfr gb391 BK391 hn_)), Or.elim hk_ (fun hs_ => Or.elim hs_ (znl GW405) (znl GW405)) (fun hn_ => (zfr gb405 BK405 hn_)), Or.elim hk_ (fun hs_ => Or.elim hs_ (znl GW414) (znl GW414)) (fun hn_ => (zfr gb414 BK414 hn_))⟩)) (below_size (zc8 HB GE333 GE343 GE357 GE367 GE383 GE391 GE405 GE414))); replace HO382 := zRb HO382 hb; replace BK333 := zbb BK333 hb; replace BK343 := zbb BK343 hb; replace BK357 := zbb BK357 hb; replace BK367 := zbb BK367 hb; replace BK383 := zbb BK383 hb; replace BK391 := zbb BK391 hb; replace BK405 := zbb BK405 hb; replace BK414 := zbb BK414 hb; replace HB := am (below_step (zc8 HB GE333 GE343 GE357 GE367 GE383 GE391 GE405 GE414) hb); (try clear hb); (try clear hb2); (try clear hk); (try clear hi); (try clear ho0); (try clear ho1); obtain ⟨Ao132, co132, eo132⟩ := Kd.V_slice HO417.out; subst eo132; obtain ⟨Ao133, co133, eo133⟩ := Kd.V_slice HO420.out; subst eo133) | ((with_reducible refine gate_callee (f := 18) rfl ?_); refine goesL_ (some 79) rfl rfl Try.func18 (by kernel_rfl) rfl #[.agg #[.slice Ao132 t415.length co132, .slice Ao133 t418.length co133], .int .i64 a1] rfl zm ?_; (with_reducible refine (handshakerref20_Leave.calls k (fun k_ => (some k_ ≠ (v381 : Value).ownBlock ∧ (k_ ≠ gb333 ∧ (k_ ≠ gb343 ∧ (k_ ≠ gb357 ∧ (k_ ≠ gb367 ∧ (k_ ≠ gb383 ∧ (k_ ≠ gb391 ∧ (k_ ≠ gb405 ∧ k_ ≠ gb414))))))))) _ _ t415 (fun k_ => (some k_ ≠ (v381 : Value).ownBlock ∧ (k_ ≠ gb333 ∧ (k_ ≠ gb343 ∧ (k_ ≠ gb357 ∧ (k_ ≠ gb367 ∧ (k_ ≠ gb383 ∧ (k_ ≠ gb391 ∧ (k_ ≠ gb405 ∧ k_ ≠ gb414))))))))) _ _ t418 a1 t421 t424 t427 t428 _ ?side1 ?side2 A17.out).mono ?_); (case side1 => exact HO417.out); (case side2 => exact HO420.out); rintro e w134 ⟨v422, v425, rfl, ho0, ho1, hb⟩; refine ⟨_, rfl, ?_⟩; replace HO338 := zVb HO338 hb; replace HO341 := zVb HO341 hb; replace HO346 := zVb HO346 hb; replace HO349 := zVb HO349 hb; replace HO352 := zVb HO352 hb; replace HO355 := zVb HO355 hb; replace HO360 := zVb HO360 hb; replace HO363 := zVb HO363 hb; replace HO366 := zVb HO366 hb; replace HO370 := zVb HO370 hb; replace HO373 := zVb HO373 hb; replace HO376 := zVb HO376 hb; replace HO379 := zVb HO379 hb; replace HO386 := zVb HO386 hb; replace HO389 := zVb HO389 hb; replace HO394 := zVb HO394 hb; replace HO397 := zVb HO397 hb; replace HO400 := zVb HO400 hb; replace HO403 := zVb HO403 hb; replace HO408 := zVb HO408 hb; replace HO411 := zVb HO411 hb; replace HO417 := zVb HO417 hb; replace HO420 := zVb HO420 hb; have HO423 := am (Kd.V_lower (Kd.V_mono (ok' := fun k_ => some k_ ≠ (v381 : Value).ownBlock ∧ k_ ≠ gb333 ∧ k_ ≠ gb343 ∧ k_ ≠ gb357 ∧ k_ ≠ gb367 ∧ k_ ≠ gb383 ∧ k_ ≠ gb391 ∧ k_ ≠ gb405 ∧ k_ ≠ gb414) ho0 (fun k_ hk_ => ⟨Or.elim hk_ (fun hs_ => Or.elim hs_ (fun hs_ => hs_.1) (fun hs_ => hs_.1)) (fun hn_ => (Kd.fresh' (Kd.R_lt (zR HO382)) k_ hn_)), Or.elim hk_ (fun hs_ => Or.elim hs_ (fun hs_ => hs_.2.1) (fun hs_ => hs_.2.1)) (fun hn_ => (zfr gb333 BK333 hn_)), Or.elim hk_ (fun hs_ => Or.elim hs_ (fun hs_ => hs_.2.2.1) (fun hs_ => hs_.2.2.1)) (fun hn_ => (zfr gb343 BK343 hn_)), Or.elim hk_ (fun hs_ => Or.elim hs_ (fun hs_ => hs_.2.2.2.1) (fun hs_ => hs_.2.2.2.1)) (fun hn_ => (zfr gb357 BK357 hn_)), Or.elim hk_ (fun hs_ => Or.elim hs_ (fun hs_ => hs_.2.2.2.2.1) (fun hs_ => hs_.2.2.2.2.1)) (fun hn_ => (zfr gb367 BK367 hn_)), Or.elim hk_ (fun hs_ => Or.elim hs_ (fun hs_ => hs_.2.2.2.2.2.1) (fun hs_ => hs_.2.2.2.2.2.1)) (fun hn_ => (zfr gb383 BK383 hn_)), Or.elim hk_ (fun hs_ => Or.elim hs_ (fun hs_ => hs_.2.2.2.2.2.2.1) (fun hs_ => hs_.2.2.2.2.2.2.1)) (fun hn_ => (zfr gb391 BK391 hn_)), Or.elim hk_ (fun hs_ => Or.elim hs_ (fun hs_ => hs_.2.2.2.2.2.2.2.1) (fun hs_ => hs_.2.2.2.2.2.2.2.1)) (fun hn_ => (zfr gb405 BK405 hn_)), Or.elim hk_ (fun hs_ => Or.elim hs_ (fun hs_ => hs_.2.2.2.2.2.2.2.2) (fun hs_ => hs_.2.2.2.2.2.2.2.2)) (fun hn_ => (zfr gb414 BK414 hn_))⟩)) (below_size (zc8 HB GE333 GE343 GE357 GE367 GE383 GE391 GE405 GE414))); have HO426 := am (Kd.V_lower (Kd.V_mono (ok' := fun k_ => some k_ ≠ (v381 : Value).ownBlock ∧ k_ ≠ gb333 ∧ k_ ≠ gb343 ∧ k_ ≠ gb357 ∧ k_ ≠ gb367 ∧ k_ ≠ gb383 ∧ k_ ≠ gb391 ∧ k_ ≠ gb405 ∧ k_ ≠ gb414) ho1 (fun k_ hk_ => ⟨Or.elim hk_ (fun hs_ => Or.elim hs_ (fun hs_ => hs_.1) (fun hs_ => hs_.1)) (fun hn_ => (Kd.fresh' (Kd.R_lt (zR HO382)) k_ hn_)), Or.elim hk_ (fun hs_ => Or.elim hs_ (fun hs_ => hs_.2.1) (fun hs_ => hs_.2.1)) (fun hn_ => (zfr gb333 BK333 hn_)), Or.elim hk_ (fun hs_ => Or.elim hs_ (fun hs_ => hs_.2.2.1) (fun hs_ => hs_.2.2.1)) (fun hn_ => (zfr gb343 BK343 hn_)), Or.elim hk_ (fun hs_ => Or.elim hs_ (fun hs_ => hs_.2.2.2.1) (fun hs_ => hs_.2.2.2.1)) (fun hn_ => (zfr gb357 BK357 hn_)), Or.elim hk_ (fun hs_ => Or.elim hs_ (fun hs_ => hs_.2.2.2.2.1) (fun hs_ => hs_.2.2.2.2.1)) (fun hn_ => (zfr gb367 BK367 hn_)), Or.elim hk_ (fun hs_ => Or.elim hs_ (fun hs_ => hs_.2.2.2.2.2.1) (fun hs_ => hs_.2.2.2.2.2.1)) (fun hn_ => (zfr gb383 BK383 hn_)), Or.elim hk_ (fun hs_ => Or.elim hs_ (fun hs_ => hs_.2.2.2.2.2.2.1) (fun hs_ => hs_.2.2.2.2.2.2.1)) (fun hn_ => (zfr gb391 BK391 hn_)), Or.elim hk_ (fun hs_ => Or.elim hs_ (fun hs_ => hs_.2.2.2.2.2.2.2.1) (fun hs_ => hs_.2.2.2.2.2.2.2.1)) (fun hn_ => (zfr gb405 BK405 hn_)), Or.elim hk_ (fun hs_ => Or.elim hs_ (fun hs_ => hs_.2.2.2.2.2.2.2.2) (fun hs_ => hs_.2.2.2.2.2.2.2.2)) (fun hn_ => (zfr gb414 BK414 hn_))⟩)) (below_size (zc8 HB GE333 GE343 GE357 GE367 GE383 GE391 GE405 GE414))); replace HO382 := zRb HO382 hb; replace BK333 := zbb BK333 hb; replace BK343 := zbb BK343 hb; replace BK357 := zbb BK357 hb; replace BK367 := zbb BK367 hb; replace BK383 := zbb BK383 hb; replace BK391 := zbb BK391 hb; replace BK405 := zbb BK405 hb; replace BK414 := zbb BK414 hb; replace HB := am (below_step (zc8 HB GE333 GE343 GE357 GE367 GE383 GE391 GE405 GE414) hb); (try clear hb); (try clear hb2); (try clear hk); (try clear hi); (try clear ho0); (try clear ho1)) | ((with_reducible refine gate_dst (N := 22) rfl ?_); refine box_event ?hg (N := 22) ?hd (cs := #[.slice none 0 0, .slice none 0 0]) (t := 30) ?hr ?_; (case hd => rfl); (case hg => rfl); (case hr => first | (go_simp; done) | (go_simp; rfl)); intro gb429 hg w135 hbox hb; replace HO338 := zVe HO338 hg hb; replace HO341 := zVe HO341 hg hb; replace HO346 := zVe HO346 hg hb; replace HO349 := zVe HO349 hg hb; replace HO352 := zVe HO352 hg hb; replace HO355 := zVe HO355 hg hb; replace HO360 := zVe HO360 hg hb; replace HO363 := zVe HO363 hg hb; replace HO366 := zVe HO366 hg hb; replace HO370 := zVe HO370 hg hb; replace HO373 := zVe HO373 hg hb; replace HO376 := zVe HO376 hg hb; replace HO379 := zVe HO379 hg hb; replace HO382 := zRb HO382 hb; replace HO386 := zVe HO386 hg hb; replace HO389 := zVe HO389 hg hb; replace HO394 := zVe HO394 hg hb; replace HO397 := zVe HO397 hg hb; replace HO400 := zVe HO400 hg hb; replace HO403 := zVe HO403 hg hb; replace HO408 := zVe HO408 hg hb; replace HO411 := zVe HO411 hg hb; replace HO417 := zVe HO417 hg hb; replace HO420 := zVe HO420 hg hb; replace HO423 := zVe HO423 hg hb; replace HO426 := zVe HO426 hg hb; have BK429 := am (hbox); have GW429 := zsz hg (zc8 HB GE333 GE343 GE357 GE367 GE383 GE391 GE405 GE414); have GE429 := zsz hg (zc8 HB GE333 GE343 GE357 GE367 GE383 GE391 GE405 GE414); replace HB := am (below_step (zc8 HB GE333 GE343 GE357 GE367 GE383 GE391 GE405 GE414) hb); have NB333_429 := znt BK333 hg; have NB429_333 := zng BK333 hg; replace BK333 := zbb BK333 hb; have NB343_429 := znt BK343 hg; have NB429_343 := zng BK343 hg; replace BK343 := zbb BK343 hb; have NB357_429 := znt BK357 hg; have NB429_357 := zng BK357 hg; replace BK357 := zbb BK357 hb; have NB367_429 := znt BK367 hg; have NB429_367 := zng BK367 hg; replace BK367 := zbb BK367 hb; have NB383_429 := znt BK383 hg; have NB429_383 := zng BK383 hg; replace BK383 := zbb BK383 hb; have NB391_429 := znt BK391 hg; have NB429_391 := zng BK391 hg; replace BK391 := zbb BK391 hb; have NB405_429 := znt BK405 hg; have NB429_405 := zng BK405 hg; replace BK405 := zbb BK405 hb; have NB414_429 := znt BK414 hg; have NB429_414 := zng BK414 hg; replace BK414 := zbb BK414 hb; clear hb hbox hg; obtain ⟨Ao136, co136, eo136⟩ := Kd.V_slice HO423.out; subst eo136; have hnb137 := NB429_333.out; have hnc137 := NB333_429.out; have hnb138 := NB429_343.out; have hnc138 := NB343_429.out; have hnb139 := NB429_357.out; have hnc139 := NB357_429.out; have hnb140 := NB429_367.out; have hnc140 := NB367_429.out; have hnb141 := NB429_383.out; have hnc141 := NB383_429.out; have hnb142 := NB429_391.out; have hnc142 := NB391_429.out; have hnb143 := NB429_405.out; have hnc143 := NB405_429.out; have hnb144 := NB429_414.out; have hnc144 := NB414_429.out; have hcz145_0 : w135.cell? ⟨gb429, 0, none⟩ = some (.slice none 0 0) := (blk_cell BK429.out 0).trans rfl; have hcz145_1 : w135.cell? ⟨gb429, 1, none⟩ = some (.slice none 0 0) := (blk_cell BK429.out 1).trans rfl; have hfz145_0 := blk_frozen BK429.out 0; have hfz145_1 := blk_frozen BK429.out 1; obtain ⟨Ao146, co146, eo146⟩ := Kd.V_slice HO426.out; subst eo146))
            have n0_ : Aside0 (Kd.V (Kd.int .i64) 3 ((w135.setCell ⟨gb429, 0, none⟩ (.slice Ao136 t421.length co136)).setCell ⟨gb429, 1, none⟩ (.slice Ao146 t424.length co146)) w.heap.size (fun k_ => some k_ ≠ (v381 : Value).ownBlock ∧ k_ ≠ gb333 ∧ k_ ≠ gb343 ∧ k_ ≠ gb357 ∧ k_ ≠ gb367 ∧ k_ ≠ gb383 ∧ k_ ≠ gb391 ∧ k_ ≠ gb405 ∧ k_ ≠ gb414 ∧ k_ ≠ gb429) (.slice Ao47 t336.length co47) t336) := ⟨by (with_reducible repeat (first | apply Kd.V_alloc | apply Kd.V_drewN | apply Kd.V_drew)); exact Kd.V_mono (Kd.V_far (p := ⟨gb429, 1, none⟩) (Kd.V_far (p := ⟨gb429, 0, none⟩) (Kd.V_mono HO338.out (fun k_ hk => (⟨hk, hk.2⟩ : _ ∧ k_ ≠ gb429))) (fun _ hk => hk.2) (.slice Ao136 t421.length co136)) (fun _ hk => hk.2) (.slice Ao146 t424.length co146)) (fun _ hk => ⟨hk.1.1.1, ⟨hk.1.1.2.1, ⟨hk.1.1.2.2.1, ⟨hk.1.1.2.2.2.1, ⟨hk.1.1.2.2.2.2.1, ⟨hk.1.1.2.2.2.2.2.1, ⟨hk.1.1.2.2.2.2.2.2.1, ⟨hk.1.1.2.2.2.2.2.2.2.1, ⟨hk.1.1.2.2.2.2.2.2.2.2, hk.1.2⟩⟩⟩⟩⟩⟩⟩⟩⟩)⟩
            have n1_ : Aside0 (Kd.V (Kd.int .i64) 3 ((w135.setCell ⟨gb429, 0, none⟩ (.slice Ao136 t421.length co136)).setCell ⟨gb429, 1, none⟩ (.slice Ao146 t424.length co146)) w.heap.size (fun k_ => some k_ ≠ (v381 : Value).ownBlock ∧ k_ ≠ gb333 ∧ k_ ≠ gb343 ∧ k_ ≠ gb357 ∧ k_ ≠ gb367 ∧ k_ ≠ gb383 ∧ k_ ≠ gb391 ∧ k_ ≠ gb405 ∧ k_ ≠ gb414 ∧ k_ ≠ gb429) (.slice Ao50 t339.length co50) t339) := ⟨by (with_reducible repeat (first | apply Kd.V_alloc | apply Kd.V_drewN | apply Kd.V_drew)); exact Kd.V_mono (Kd.V_far (p := ⟨gb429, 1, none⟩) (Kd.V_far (p := ⟨gb429, 0, none⟩) (Kd.V_mono HO341.out (fun k_ hk => (⟨hk, hk.2⟩ : _ ∧ k_ ≠ gb429))) (fun _ hk => hk.2) (.slice Ao136 t421.length co136)) (fun _ hk => hk.2) (.slice Ao146 t424.length co146)) (fun _ hk => ⟨hk.1.1.1, ⟨hk.1.1.2.1, ⟨hk.1.1.2.2.1, ⟨hk.1.1.2.2.2.1, ⟨hk.1.1.2.2.2.2.1, ⟨hk.1.1.2.2.2.2.2.1, ⟨hk.1.1.2.2.2.2.2.2.1, ⟨hk.1.1.2.2.2.2.2.2.2.1, ⟨hk.1.1.2.2.2.2.2.2.2.2, hk.1.2⟩⟩⟩⟩⟩⟩⟩⟩⟩)⟩
            have n2_ : Aside0 (Kd.V (Kd.int .i64) 3 ((w135.setCell ⟨gb429, 0, none⟩ (.slice Ao136 t421.length co136)).setCell ⟨gb429, 1, none⟩ (.slice Ao146 t424.length co146)) w.heap.size (fun k_ => some k_ ≠ (v381 : Value).ownBlock ∧ k_ ≠ gb333 ∧ k_ ≠ gb343 ∧ k_ ≠ gb357 ∧ k_ ≠ gb367 ∧ k_ ≠ gb383 ∧ k_ ≠ gb391 ∧ k_ ≠ gb405 ∧ k_ ≠ gb414 ∧ k_ ≠ gb429) (.slice Ao54 t344.length co54) t344) := ⟨by (with_reducible repeat (first | apply Kd.V_alloc | apply Kd.V_drewN | apply Kd.V_drew)); exact Kd.V_mono (Kd.V_far (p := ⟨gb429, 1, none⟩) (Kd.V_far (p := ⟨gb429, 0, none⟩) (Kd.V_mono HO346.out (fun k_ hk => (⟨hk, hk.2⟩ : _ ∧ k_ ≠ gb429))) (fun _ hk => hk.2) (.slice Ao136 t421.length co136)) (fun _ hk => hk.2) (.slice Ao146 t424.length co146)) (fun _ hk => ⟨hk.1.1.1, ⟨hk.1.1.2.1, ⟨hk.1.1.2.2.1, ⟨hk.1.1.2.2.2.1, ⟨hk.1.1.2.2.2.2.1, ⟨hk.1.1.2.2.2.2.2.1, ⟨hk.1.1.2.2.2.2.2.2.1, ⟨hk.1.1.2.2.2.2.2.2.2.1, ⟨hk.1.1.2.2.2.2.2.2.2.2, hk.1.2⟩⟩⟩⟩⟩⟩⟩⟩⟩)⟩
            have n3_ : Aside0 (Kd.V (Kd.int .i64) 3 ((w135.setCell ⟨gb429, 0, none⟩ (.slice Ao136 t421.length co136)).setCell ⟨gb429, 1, none⟩ (.slice Ao146 t424.length co146)) w.heap.size (fun k_ => some k_ ≠ (v381 : Value).ownBlock ∧ k_ ≠ gb333 ∧ k_ ≠ gb343 ∧ k_ ≠ gb357 ∧ k_ ≠ gb367 ∧ k_ ≠ gb383 ∧ k_ ≠ gb391 ∧ k_ ≠ gb405 ∧ k_ ≠ gb414 ∧ k_ ≠ gb429) (.slice Ao55 t347.length co55) t347) := ⟨by (with_reducible repeat (first | apply Kd.V_alloc | apply Kd.V_drewN | apply Kd.V_drew)); exact Kd.V_mono (Kd.V_far (p := ⟨gb429, 1, none⟩) (Kd.V_far (p := ⟨gb429, 0, none⟩) (Kd.V_mono HO349.out (fun k_ hk => (⟨hk, hk.2⟩ : _ ∧ k_ ≠ gb429))) (fun _ hk => hk.2) (.slice Ao136 t421.length co136)) (fun _ hk => hk.2) (.slice Ao146 t424.length co146)) (fun _ hk => ⟨hk.1.1.1, ⟨hk.1.1.2.1, ⟨hk.1.1.2.2.1, ⟨hk.1.1.2.2.2.1, ⟨hk.1.1.2.2.2.2.1, ⟨hk.1.1.2.2.2.2.2.1, ⟨hk.1.1.2.2.2.2.2.2.1, ⟨hk.1.1.2.2.2.2.2.2.2.1, ⟨hk.1.1.2.2.2.2.2.2.2.2, hk.1.2⟩⟩⟩⟩⟩⟩⟩⟩⟩)⟩
            have n4_ : Aside0 (Kd.V (Kd.int .i64) 3 ((w135.setCell ⟨gb429, 0, none⟩ (.slice Ao136 t421.length co136)).setCell ⟨gb429, 1, none⟩ (.slice Ao146 t424.length co146)) w.heap.size (fun k_ => some k_ ≠ (v381 : Value).ownBlock ∧ k_ ≠ gb333 ∧ k_ ≠ gb343 ∧ k_ ≠ gb357 ∧ k_ ≠ gb367 ∧ k_ ≠ gb383 ∧ k_ ≠ gb391 ∧ k_ ≠ gb405 ∧ k_ ≠ gb414 ∧ k_ ≠ gb429) (.slice Ao58 t350.length co58) t350) := ⟨by (with_reducible repeat (first | apply Kd.V_alloc | apply Kd.V_drewN | apply Kd.V_drew)); exact Kd.V_mono (Kd.V_far (p := ⟨gb429, 1, none⟩) (Kd.V_far (p := ⟨gb429, 0, none⟩) (Kd.V_mono HO352.out (fun k_ hk => (⟨hk, hk.2⟩ : _ ∧ k_ ≠ gb429))) (fun _ hk => hk.2) (.slice Ao136 t421.length co136)) (fun _ hk => hk.2) (.slice Ao146 t424.length co146)) (fun _ hk => ⟨hk.1.1.1, ⟨hk.1.1.2.1, ⟨hk.1.1.2.2.1, ⟨hk.1.1.2.2.2.1, ⟨hk.1.1.2.2.2.2.1, ⟨hk.1.1.2.2.2.2.2.1, ⟨hk.1.1.2.2.2.2.2.2.1, ⟨hk.1.1.2.2.2.2.2.2.2.1, ⟨hk.1.1.2.2.2.2.2.2.2.2, hk.1.2⟩⟩⟩⟩⟩⟩⟩⟩⟩)⟩
            have n5_ : Aside0 (Kd.V (Kd.int .i64) 3 ((w135.setCell ⟨gb429, 0, none⟩ (.slice Ao136 t421.length co136)).setCell ⟨gb429, 1, none⟩ (.slice Ao146 t424.length co146)) w.heap.size (fun k_ => some k_ ≠ (v381 : Value).ownBlock ∧ k_ ≠ gb333 ∧ k_ ≠ gb343 ∧ k_ ≠ gb357 ∧ k_ ≠ gb367 ∧ k_ ≠ gb383 ∧ k_ ≠ gb391 ∧ k_ ≠ gb405 ∧ k_ ≠ gb414 ∧ k_ ≠ gb429) (.slice Ao62 t353.length co62) t353) := ⟨by (with_reducible repeat (first | apply Kd.V_alloc | apply Kd.V_drewN | apply Kd.V_drew)); exact Kd.V_mono (Kd.V_far (p := ⟨gb429, 1, none⟩) (Kd.V_far (p := ⟨gb429, 0, none⟩) (Kd.V_mono HO355.out (fun k_ hk => (⟨hk, hk.2⟩ : _ ∧ k_ ≠ gb429))) (fun _ hk => hk.2) (.slice Ao136 t421.length co136)) (fun _ hk => hk.2) (.slice Ao146 t424.length co146)) (fun _ hk => ⟨hk.1.1.1, ⟨hk.1.1.2.1, ⟨hk.1.1.2.2.1, ⟨hk.1.1.2.2.2.1, ⟨hk.1.1.2.2.2.2.1, ⟨hk.1.1.2.2.2.2.2.1, ⟨hk.1.1.2.2.2.2.2.2.1, ⟨hk.1.1.2.2.2.2.2.2.2.1, ⟨hk.1.1.2.2.2.2.2.2.2.2, hk.1.2⟩⟩⟩⟩⟩⟩⟩⟩⟩)⟩
            have n6_ : Aside0 (Kd.V (Kd.int .i64) 3 ((w135.setCell ⟨gb429, 0, none⟩ (.slice Ao136 t421.length co136)).setCell ⟨gb429, 1, none⟩ (.slice Ao146 t424.length co146)) w.heap.size (fun k_ => some k_ ≠ (v381 : Value).ownBlock ∧ k_ ≠ gb333 ∧ k_ ≠ gb343 ∧ k_ ≠ gb357 ∧ k_ ≠ gb367 ∧ k_ ≠ gb383 ∧ k_ ≠ gb391 ∧ k_ ≠ gb405 ∧ k_ ≠ gb414 ∧ k_ ≠ gb429) (.slice Ao67 t358.length co67) t358) := ⟨by (with_reducible repeat (first | apply Kd.V_alloc | apply Kd.V_drewN | apply Kd.V_drew)); exact Kd.V_mono (Kd.V_far (p := ⟨gb429, 1, none⟩) (Kd.V_far (p := ⟨gb429, 0, none⟩) (Kd.V_mono HO360.out (fun k_ hk => (⟨hk, hk.2⟩ : _ ∧ k_ ≠ gb429))) (fun _ hk => hk.2) (.slice Ao136 t421.length co136)) (fun _ hk => hk.2) (.slice Ao146 t424.length co146)) (fun _ hk => ⟨hk.1.1.1, ⟨hk.1.1.2.1, ⟨hk.1.1.2.2.1, ⟨hk.1.1.2.2.2.1, ⟨hk.1.1.2.2.2.2.1, ⟨hk.1.1.2.2.2.2.2.1, ⟨hk.1.1.2.2.2.2.2.2.1, ⟨hk.1.1.2.2.2.2.2.2.2.1, ⟨hk.1.1.2.2.2.2.2.2.2.2, hk.1.2⟩⟩⟩⟩⟩⟩⟩⟩⟩)⟩
            have n7_ : Aside0 (Kd.V (Kd.int .i64) 3 ((w135.setCell ⟨gb429, 0, none⟩ (.slice Ao136 t421.length co136)).setCell ⟨gb429, 1, none⟩ (.slice Ao146 t424.length co146)) w.heap.size (fun k_ => some k_ ≠ (v381 : Value).ownBlock ∧ k_ ≠ gb333 ∧ k_ ≠ gb343 ∧ k_ ≠ gb357 ∧ k_ ≠ gb367 ∧ k_ ≠ gb383 ∧ k_ ≠ gb391 ∧ k_ ≠ gb405 ∧ k_ ≠ gb414 ∧ k_ ≠ gb429) (.slice Ao72 t361.length co72) t361) := ⟨by (with_reducible repeat (first | apply Kd.V_alloc | apply Kd.V_drewN | apply Kd.V_drew)); exact Kd.V_mono (Kd.V_far (p := ⟨gb429, 1, none⟩) (Kd.V_far (p := ⟨gb429, 0, none⟩) (Kd.V_mono HO363.out (fun k_ hk => (⟨hk, hk.2⟩ : _ ∧ k_ ≠ gb429))) (fun _ hk => hk.2) (.slice Ao136 t421.length co136)) (fun _ hk => hk.2) (.slice Ao146 t424.length co146)) (fun _ hk => ⟨hk.1.1.1, ⟨hk.1.1.2.1, ⟨hk.1.1.2.2.1, ⟨hk.1.1.2.2.2.1, ⟨hk.1.1.2.2.2.2.1, ⟨hk.1.1.2.2.2.2.2.1, ⟨hk.1.1.2.2.2.2.2.2.1, ⟨hk.1.1.2.2.2.2.2.2.2.1, ⟨hk.1.1.2.2.2.2.2.2.2.2, hk.1.2⟩⟩⟩⟩⟩⟩⟩⟩⟩)⟩
            have n8_ : Aside0 (Kd.V (Kd.int .i64) 3 ((w135.setCell ⟨gb429, 0, none⟩ (.slice Ao136 t421.length co136)).setCell ⟨gb429, 1, none⟩ (.slice Ao146 t424.length co146)) w.heap.size (fun k_ => some k_ ≠ (v381 : Value).ownBlock ∧ k_ ≠ gb333 ∧ k_ ≠ gb343 ∧ k_ ≠ gb357 ∧ k_ ≠ gb367 ∧ k_ ≠ gb383 ∧ k_ ≠ gb391 ∧ k_ ≠ gb405 ∧ k_ ≠ gb414 ∧ k_ ≠ gb429) v365 t364) := ⟨by (with_reducible repeat (first | apply Kd.V_alloc | apply Kd.V_drewN | apply Kd.V_drew)); exact Kd.V_mono (Kd.V_far (p := ⟨gb429, 1, none⟩) (Kd.V_far (p := ⟨gb429, 0, none⟩) (Kd.V_mono HO366.out (fun k_ hk => (⟨hk, hk.2⟩ : _ ∧ k_ ≠ gb429))) (fun _ hk => hk.2) (.slice Ao136 t421.length co136)) (fun _ hk => hk.2) (.slice Ao146 t424.length co146)) (fun _ hk => ⟨hk.1.1.1, ⟨hk.1.1.2.1, ⟨hk.1.1.2.2.1, ⟨hk.1.1.2.2.2.1, ⟨hk.1.1.2.2.2.2.1, ⟨hk.1.1.2.2.2.2.2.1, ⟨hk.1.1.2.2.2.2.2.2.1, ⟨hk.1.1.2.2.2.2.2.2.2.1, ⟨hk.1.1.2.2.2.2.2.2.2.2, hk.1.2⟩⟩⟩⟩⟩⟩⟩⟩⟩)⟩
            have n9_ : Aside0 (Kd.V (Kd.int .i64) 3 ((w135.setCell ⟨gb429, 0, none⟩ (.slice Ao136 t421.length co136)).setCell ⟨gb429, 1, none⟩ (.slice Ao146 t424.length co146)) w.heap.size (fun k_ => some k_ ≠ (v381 : Value).ownBlock ∧ k_ ≠ gb333 ∧ k_ ≠ gb343 ∧ k_ ≠ gb357 ∧ k_ ≠ gb367 ∧ k_ ≠ gb383 ∧ k_ ≠ gb391 ∧ k_ ≠ gb405 ∧ k_ ≠ gb414 ∧ k_ ≠ gb429) (.slice Ao76 t368.length co76) t368) := ⟨by (with_reducible repeat (first | apply Kd.V_alloc | apply Kd.V_drewN | apply Kd.V_drew)); exact Kd.V_mono (Kd.V_far (p := ⟨gb429, 1, none⟩) (Kd.V_far (p := ⟨gb429, 0, none⟩) (Kd.V_mono HO370.out (fun k_ hk => (⟨hk, hk.2⟩ : _ ∧ k_ ≠ gb429))) (fun _ hk => hk.2) (.slice Ao136 t421.length co136)) (fun _ hk => hk.2) (.slice Ao146 t424.length co146)) (fun _ hk => ⟨hk.1.1.1, ⟨hk.1.1.2.1, ⟨hk.1.1.2.2.1, ⟨hk.1.1.2.2.2.1, ⟨hk.1.1.2.2.2.2.1, ⟨hk.1.1.2.2.2.2.2.1, ⟨hk.1.1.2.2.2.2.2.2.1, ⟨hk.1.1.2.2.2.2.2.2.2.1, ⟨hk.1.1.2.2.2.2.2.2.2.2, hk.1.2⟩⟩⟩⟩⟩⟩⟩⟩⟩)⟩
            have n10_ : Aside0 (Kd.V (Kd.int .i64) 3 ((w135.setCell ⟨gb429, 0, none⟩ (.slice Ao136 t421.length co136)).setCell ⟨gb429, 1, none⟩ (.slice Ao146 t424.length co146)) w.heap.size (fun k_ => some k_ ≠ (v381 : Value).ownBlock ∧ k_ ≠ gb333 ∧ k_ ≠ gb343 ∧ k_ ≠ gb357 ∧ k_ ≠ gb367 ∧ k_ ≠ gb383 ∧ k_ ≠ gb391 ∧ k_ ≠ gb405 ∧ k_ ≠ gb414 ∧ k_ ≠ gb429) (.slice Ao77 t371.length co77) t371) := ⟨by (with_reducible repeat (first | apply Kd.V_alloc | apply Kd.V_drewN | apply Kd.V_drew)); exact Kd.V_mono (Kd.V_far (p := ⟨gb429, 1, none⟩) (Kd.V_far (p := ⟨gb429, 0, none⟩) (Kd.V_mono HO373.out (fun k_ hk => (⟨hk, hk.2⟩ : _ ∧ k_ ≠ gb429))) (fun _ hk => hk.2) (.slice Ao136 t421.length co136)) (fun _ hk => hk.2) (.slice Ao146 t424.length co146)) (fun _ hk => ⟨hk.1.1.1, ⟨hk.1.1.2.1, ⟨hk.1.1.2.2.1, ⟨hk.1.1.2.2.2.1, ⟨hk.1.1.2.2.2.2.1, ⟨hk.1.1.2.2.2.2.2.1, ⟨hk.1.1.2.2.2.2.2.2.1, ⟨hk.1.1.2.2.2.2.2.2.2.1, ⟨hk.1.1.2.2.2.2.2.2.2.2, hk.1.2⟩⟩⟩⟩⟩⟩⟩⟩⟩)⟩
            have n11_ : Aside0 (Kd.V (Kd.int .i64) 3 ((w135.setCell ⟨gb429, 0, none⟩ (.slice Ao136 t421.length co136)).setCell ⟨gb429, 1, none⟩ (.slice Ao146 t424.length co146)) w.heap.size (fun k_ => some k_ ≠ (v381 : Value).ownBlock ∧ k_ ≠ gb333 ∧ k_ ≠ gb343 ∧ k_ ≠ gb357 ∧ k_ ≠ gb367 ∧ k_ ≠ gb383 ∧ k_ ≠ gb391 ∧ k_ ≠ gb405 ∧ k_ ≠ gb414 ∧ k_ ≠ gb429) (.slice Ao80 t374.length co80) t374) := ⟨by (with_reducible repeat (first | apply Kd.V_alloc | apply Kd.V_drewN | apply Kd.V_drew)); exact Kd.V_mono (Kd.V_far (p := ⟨gb429, 1, none⟩) (Kd.V_far (p := ⟨gb429, 0, none⟩) (Kd.V_mono HO376.out (fun k_ hk => (⟨hk, hk.2⟩ : _ ∧ k_ ≠ gb429))) (fun _ hk => hk.2) (.slice Ao136 t421.length co136)) (fun _ hk => hk.2) (.slice Ao146 t424.length co146)) (fun _ hk => ⟨hk.1.1.1, ⟨hk.1.1.2.1, ⟨hk.1.1.2.2.1, ⟨hk.1.1.2.2.2.1, ⟨hk.1.1.2.2.2.2.1, ⟨hk.1.1.2.2.2.2.2.1, ⟨hk.1.1.2.2.2.2.2.2.1, ⟨hk.1.1.2.2.2.2.2.2.2.1, ⟨hk.1.1.2.2.2.2.2.2.2.2, hk.1.2⟩⟩⟩⟩⟩⟩⟩⟩⟩)⟩
            have n12_ : Aside0 (Kd.V (Kd.int .i64) 3 ((w135.setCell ⟨gb429, 0, none⟩ (.slice Ao136 t421.length co136)).setCell ⟨gb429, 1, none⟩ (.slice Ao146 t424.length co146)) w.heap.size (fun k_ => some k_ ≠ (v381 : Value).ownBlock ∧ k_ ≠ gb333 ∧ k_ ≠ gb343 ∧ k_ ≠ gb357 ∧ k_ ≠ gb367 ∧ k_ ≠ gb383 ∧ k_ ≠ gb391 ∧ k_ ≠ gb405 ∧ k_ ≠ gb414 ∧ k_ ≠ gb429) (.slice Ao86 t377.length co86) t377) := ⟨by (with_reducible repeat (first | apply Kd.V_alloc | apply Kd.V_drewN | apply Kd.V_drew)); exact Kd.V_mono (Kd.V_far (p := ⟨gb429, 1, none⟩) (Kd.V_far (p := ⟨gb429, 0, none⟩) (Kd.V_mono HO379.out (fun k_ hk => (⟨hk, hk.2⟩ : _ ∧ k_ ≠ gb429))) (fun _ hk => hk.2) (.slice Ao136 t421.length co136)) (fun _ hk => hk.2) (.slice Ao146 t424.length co146)) (fun _ hk => ⟨hk.1.1.1, ⟨hk.1.1.2.1, ⟨hk.1.1.2.2.1, ⟨hk.1.1.2.2.2.1, ⟨hk.1.1.2.2.2.2.1, ⟨hk.1.1.2.2.2.2.2.1, ⟨hk.1.1.2.2.2.2.2.2.1, ⟨hk.1.1.2.2.2.2.2.2.2.1, ⟨hk.1.1.2.2.2.2.2.2.2.2, hk.1.2⟩⟩⟩⟩⟩⟩⟩⟩⟩)⟩
            have n13_ : Aside0 (Kd.R (Kd.int .i64) 3 ((w135.setCell ⟨gb429, 0, none⟩ (.slice Ao136 t421.length co136)).setCell ⟨gb429, 1, none⟩ (.slice Ao146 t424.length co146)) w.heap.size (fun _ => True) v381 t380) := ⟨by (with_reducible repeat (first | apply Kd.R_alloc | apply Kd.R_drewN | apply Kd.R_drew)); exact Kd.R_mono (Kd.R_far (p := ⟨gb429, 1, none⟩) (Kd.R_far (p := ⟨gb429, 0, none⟩) (Kd.R_types HO382.out BK429.out (by decide)) (fun _ hk => hk.2) (.slice Ao136 t421.length co136)) (fun _ hk => hk.2) (.slice Ao146 t424.length co146)) (fun _ hk => trivial)⟩
            have n14_ : Aside0 (Kd.V (Kd.int .i64) 3 ((w135.setCell ⟨gb429, 0, none⟩ (.slice Ao136 t421.length co136)).setCell ⟨gb429, 1, none⟩ (.slice Ao146 t424.length co146)) w.heap.size (fun k_ => some k_ ≠ (v381 : Value).ownBlock ∧ k_ ≠ gb333 ∧ k_ ≠ gb343 ∧ k_ ≠ gb357 ∧ k_ ≠ gb367 ∧ k_ ≠ gb383 ∧ k_ ≠ gb391 ∧ k_ ≠ gb405 ∧ k_ ≠ gb414 ∧ k_ ≠ gb429) (.slice Ao91 t384.length co91) t384) := ⟨by (with_reducible repeat (first | apply Kd.V_alloc | apply Kd.V_drewN | apply Kd.V_drew)); exact Kd.V_mono (Kd.V_far (p := ⟨gb429, 1, none⟩) (Kd.V_far (p := ⟨gb429, 0, none⟩) (Kd.V_mono HO386.out (fun k_ hk => (⟨hk, hk.2⟩ : _ ∧ k_ ≠ gb429))) (fun _ hk => hk.2) (.slice Ao136 t421.length co136)) (fun _ hk => hk.2) (.slice Ao146 t424.length co146)) (fun _ hk => ⟨hk.1.1.1, ⟨hk.1.1.2.1, ⟨hk.1.1.2.2.1, ⟨hk.1.1.2.2.2.1, ⟨hk.1.1.2.2.2.2.1, ⟨hk.1.1.2.2.2.2.2.1, ⟨hk.1.1.2.2.2.2.2.2.1, ⟨hk.1.1.2.2.2.2.2.2.2.1, ⟨hk.1.1.2.2.2.2.2.2.2.2, hk.1.2⟩⟩⟩⟩⟩⟩⟩⟩⟩)⟩
            have n15_ : Aside0 (Kd.V (Kd.int .i64) 3 ((w135.setCell ⟨gb429, 0, none⟩ (.slice Ao136 t421.length co136)).setCell ⟨gb429, 1, none⟩ (.slice Ao146 t424.length co146)) w.heap.size (fun k_ => some k_ ≠ (v381 : Value).ownBlock ∧ k_ ≠ gb333 ∧ k_ ≠ gb343 ∧ k_ ≠ gb357 ∧ k_ ≠ gb367 ∧ k_ ≠ gb383 ∧ k_ ≠ gb391 ∧ k_ ≠ gb405 ∧ k_ ≠ gb414 ∧ k_ ≠ gb429) (.slice Ao98 t387.length co98) t387) := ⟨by (with_reducible repeat (first | apply Kd.V_alloc | apply Kd.V_drewN | apply Kd.V_drew)); exact Kd.V_mono (Kd.V_far (p := ⟨gb429, 1, none⟩) (Kd.V_far (p := ⟨gb429, 0, none⟩) (Kd.V_mono HO389.out (fun k_ hk => (⟨hk, hk.2⟩ : _ ∧ k_ ≠ gb429))) (fun _ hk => hk.2) (.slice Ao136 t421.length co136)) (fun _ hk => hk.2) (.slice Ao146 t424.length co146)) (fun _ hk => ⟨hk.1.1.1, ⟨hk.1.1.2.1, ⟨hk.1.1.2.2.1, ⟨hk.1.1.2.2.2.1, ⟨hk.1.1.2.2.2.2.1, ⟨hk.1.1.2.2.2.2.2.1, ⟨hk.1.1.2.2.2.2.2.2.1, ⟨hk.1.1.2.2.2.2.2.2.2.1, ⟨hk.1.1.2.2.2.2.2.2.2.2, hk.1.2⟩⟩⟩⟩⟩⟩⟩⟩⟩)⟩
            have n16_ : Aside0 (Kd.V (Kd.int .i64) 3 ((w135.setCell ⟨gb429, 0, none⟩ (.slice Ao136 t421.length co136)).setCell ⟨gb429, 1, none⟩ (.slice Ao146 t424.length co146)) w.heap.size (fun k_ => some k_ ≠ (v381 : Value).ownBlock ∧ k_ ≠ gb333 ∧ k_ ≠ gb343 ∧ k_ ≠ gb357 ∧ k_ ≠ gb367 ∧ k_ ≠ gb383 ∧ k_ ≠ gb391 ∧ k_ ≠ gb405 ∧ k_ ≠ gb414 ∧ k_ ≠ gb429) (.slice Ao102 t392.length co102) t392) := ⟨by (with_reducible repeat (first | apply Kd.V_alloc | apply Kd.V_drewN | apply Kd.V_drew)); exact Kd.V_mono (Kd.V_far (p := ⟨gb429, 1, none⟩) (Kd.V_far (p := ⟨gb429, 0, none⟩) (Kd.V_mono HO394.out (fun k_ hk => (⟨hk, hk.2⟩ : _ ∧ k_ ≠ gb429))) (fun _ hk => hk.2) (.slice Ao136 t421.length co136)) (fun _ hk => hk.2) (.slice Ao146 t424.length co146)) (fun _ hk => ⟨hk.1.1.1, ⟨hk.1.1.2.1, ⟨hk.1.1.2.2.1, ⟨hk.1.1.2.2.2.1, ⟨hk.1.1.2.2.2.2.1, ⟨hk.1.1.2.2.2.2.2.1, ⟨hk.1.1.2.2.2.2.2.2.1, ⟨hk.1.1.2.2.2.2.2.2.2.1, ⟨hk.1.1.2.2.2.2.2.2.2.2, hk.1.2⟩⟩⟩⟩⟩⟩⟩⟩⟩)⟩
            have n17_ : Aside0 (Kd.V (Kd.int .i64) 3 ((w135.setCell ⟨gb429, 0, none⟩ (.slice Ao136 t421.length co136)).setCell ⟨gb429, 1, none⟩ (.slice Ao146 t424.length co146)) w.heap.size (fun k_ => some k_ ≠ (v381 : Value).ownBlock ∧ k_ ≠ gb333 ∧ k_ ≠ gb343 ∧ k_ ≠ gb357 ∧ k_ ≠ gb367 ∧ k_ ≠ gb383 ∧ k_ ≠ gb391 ∧ k_ ≠ gb405 ∧ k_ ≠ gb414 ∧ k_ ≠ gb429) (.slice Ao103 t395.length co103) t395) := ⟨by (with_reducible repeat (first | apply Kd.V_alloc | apply Kd.V_drewN | apply Kd.V_drew)); exact Kd.V_mono (Kd.V_far (p := ⟨gb429, 1, none⟩) (Kd.V_far (p := ⟨gb429, 0, none⟩) (Kd.V_mono HO397.out (fun k_ hk => (⟨hk, hk.2⟩ : _ ∧ k_ ≠ gb429))) (fun _ hk => hk.2) (.slice Ao136 t421.length co136)) (fun _ hk => hk.2) (.slice Ao146 t424.length co146)) (fun _ hk => ⟨hk.1.1.1, ⟨hk.1.1.2.1, ⟨hk.1.1.2.2.1, ⟨hk.1.1.2.2.2.1, ⟨hk.1.1.2.2.2.2.1, ⟨hk.1.1.2.2.2.2.2.1, ⟨hk.1.1.2.2.2.2.2.2.1, ⟨hk.1.1.2.2.2.2.2.2.2.1, ⟨hk.1.1.2.2.2.2.2.2.2.2, hk.1.2⟩⟩⟩⟩⟩⟩⟩⟩⟩)⟩
            have n18_ : Aside0 (Kd.V (Kd.int .i64) 3 ((w135.setCell ⟨gb429, 0, none⟩ (.slice Ao136 t421.length co136)).setCell ⟨gb429, 1, none⟩ (.slice Ao146 t424.length co146)) w.heap.size (fun k_ => some k_ ≠ (v381 : Value).ownBlock ∧ k_ ≠ gb333 ∧ k_ ≠ gb343 ∧ k_ ≠ gb357 ∧ k_ ≠ gb367 ∧ k_ ≠ gb383 ∧ k_ ≠ gb391 ∧ k_ ≠ gb405 ∧ k_ ≠ gb414 ∧ k_ ≠ gb429) (.slice Ao106 t398.length co106) t398) := ⟨by (with_reducible repeat (first | apply Kd.V_alloc | apply Kd.V_drewN | apply Kd.V_drew)); exact Kd.V_mono (Kd.V_far (p := ⟨gb429, 1, none⟩) (Kd.V_far (p := ⟨gb429, 0, none⟩) (Kd.V_mono HO400.out (fun k_ hk => (⟨hk, hk.2⟩ : _ ∧ k_ ≠ gb429))) (fun _ hk => hk.2) (.slice Ao136 t421.length co136)) (fun _ hk => hk.2) (.slice Ao146 t424.length co146)) (fun _ hk => ⟨hk.1.1.1, ⟨hk.1.1.2.1, ⟨hk.1.1.2.2.1, ⟨hk.1.1.2.2.2.1, ⟨hk.1.1.2.2.2.2.1, ⟨hk.1.1.2.2.2.2.2.1, ⟨hk.1.1.2.2.2.2.2.2.1, ⟨hk.1.1.2.2.2.2.2.2.2.1, ⟨hk.1.1.2.2.2.2.2.2.2.2, hk.1.2⟩⟩⟩⟩⟩⟩⟩⟩⟩)⟩
            have n19_ : Aside0 (Kd.V (Kd.int .i64) 3 ((w135.setCell ⟨gb429, 0, none⟩ (.slice Ao136 t421.length co136)).setCell ⟨gb429, 1, none⟩ (.slice Ao146 t424.length co146)) w.heap.size (fun k_ => some k_ ≠ (v381 : Value).ownBlock ∧ k_ ≠ gb333 ∧ k_ ≠ gb343 ∧ k_ ≠ gb357 ∧ k_ ≠ gb367 ∧ k_ ≠ gb383 ∧ k_ ≠ gb391 ∧ k_ ≠ gb405 ∧ k_ ≠ gb414 ∧ k_ ≠ gb429) (.slice Ao114 t401.length co114) t401) := ⟨by (with_reducible repeat (first | apply Kd.V_alloc | apply Kd.V_drewN | apply Kd.V_drew)); exact Kd.V_mono (Kd.V_far (p := ⟨gb429, 1, none⟩) (Kd.V_far (p := ⟨gb429, 0, none⟩) (Kd.V_mono HO403.out (fun k_ hk => (⟨hk, hk.2⟩ : _ ∧ k_ ≠ gb429))) (fun _ hk => hk.2) (.slice Ao136 t421.length co136)) (fun _ hk => hk.2) (.slice Ao146 t424.length co146)) (fun _ hk => ⟨hk.1.1.1, ⟨hk.1.1.2.1, ⟨hk.1.1.2.2.1, ⟨hk.1.1.2.2.2.1, ⟨hk.1.1.2.2.2.2.1, ⟨hk.1.1.2.2.2.2.2.1, ⟨hk.1.1.2.2.2.2.2.2.1, ⟨hk.1.1.2.2.2.2.2.2.2.1, ⟨hk.1.1.2.2.2.2.2.2.2.2, hk.1.2⟩⟩⟩⟩⟩⟩⟩⟩⟩)⟩
            have n20_ : Aside0 (Kd.V (Kd.int .i64) 3 ((w135.setCell ⟨gb429, 0, none⟩ (.slice Ao136 t421.length co136)).setCell ⟨gb429, 1, none⟩ (.slice Ao146 t424.length co146)) w.heap.size (fun k_ => some k_ ≠ (v381 : Value).ownBlock ∧ k_ ≠ gb333 ∧ k_ ≠ gb343 ∧ k_ ≠ gb357 ∧ k_ ≠ gb367 ∧ k_ ≠ gb383 ∧ k_ ≠ gb391 ∧ k_ ≠ gb405 ∧ k_ ≠ gb414 ∧ k_ ≠ gb429) (.slice Ao119 t406.length co119) t406) := ⟨by (with_reducible repeat (first | apply Kd.V_alloc | apply Kd.V_drewN | apply Kd.V_drew)); exact Kd.V_mono (Kd.V_far (p := ⟨gb429, 1, none⟩) (Kd.V_far (p := ⟨gb429, 0, none⟩) (Kd.V_mono HO408.out (fun k_ hk => (⟨hk, hk.2⟩ : _ ∧ k_ ≠ gb429))) (fun _ hk => hk.2) (.slice Ao136 t421.length co136)) (fun _ hk => hk.2) (.slice Ao146 t424.length co146)) (fun _ hk => ⟨hk.1.1.1, ⟨hk.1.1.2.1, ⟨hk.1.1.2.2.1, ⟨hk.1.1.2.2.2.1, ⟨hk.1.1.2.2.2.2.1, ⟨hk.1.1.2.2.2.2.2.1, ⟨hk.1.1.2.2.2.2.2.2.1, ⟨hk.1.1.2.2.2.2.2.2.2.1, ⟨hk.1.1.2.2.2.2.2.2.2.2, hk.1.2⟩⟩⟩⟩⟩⟩⟩⟩⟩)⟩
            have n21_ : Aside0 (Kd.V (Kd.int .i64) 3 ((w135.setCell ⟨gb429, 0, none⟩ (.slice Ao136 t421.length co136)).setCell ⟨gb429, 1, none⟩ (.slice Ao146 t424.length co146)) w.heap.size (fun k_ => some k_ ≠ (v381 : Value).ownBlock ∧ k_ ≠ gb333 ∧ k_ ≠ gb343 ∧ k_ ≠ gb357 ∧ k_ ≠ gb367 ∧ k_ ≠ gb383 ∧ k_ ≠ gb391 ∧ k_ ≠ gb405 ∧ k_ ≠ gb414 ∧ k_ ≠ gb429) (.slice Ao128 t409.length co128) t409) := ⟨by (with_reducible repeat (first | apply Kd.V_alloc | apply Kd.V_drewN | apply Kd.V_drew)); exact Kd.V_mono (Kd.V_far (p := ⟨gb429, 1, none⟩) (Kd.V_far (p := ⟨gb429, 0, none⟩) (Kd.V_mono HO411.out (fun k_ hk => (⟨hk, hk.2⟩ : _ ∧ k_ ≠ gb429))) (fun _ hk => hk.2) (.slice Ao136 t421.length co136)) (fun _ hk => hk.2) (.slice Ao146 t424.length co146)) (fun _ hk => ⟨hk.1.1.1, ⟨hk.1.1.2.1, ⟨hk.1.1.2.2.1, ⟨hk.1.1.2.2.2.1, ⟨hk.1.1.2.2.2.2.1, ⟨hk.1.1.2.2.2.2.2.1, ⟨hk.1.1.2.2.2.2.2.2.1, ⟨hk.1.1.2.2.2.2.2.2.2.1, ⟨hk.1.1.2.2.2.2.2.2.2.2, hk.1.2⟩⟩⟩⟩⟩⟩⟩⟩⟩)⟩
            have n22_ : Aside0 (Kd.V (Kd.int .i64) 3 ((w135.setCell ⟨gb429, 0, none⟩ (.slice Ao136 t421.length co136)).setCell ⟨gb429, 1, none⟩ (.slice Ao146 t424.length co146)) w.heap.size (fun k_ => some k_ ≠ (v381 : Value).ownBlock ∧ k_ ≠ gb333 ∧ k_ ≠ gb343 ∧ k_ ≠ gb357 ∧ k_ ≠ gb367 ∧ k_ ≠ gb383 ∧ k_ ≠ gb391 ∧ k_ ≠ gb405 ∧ k_ ≠ gb414 ∧ k_ ≠ gb429) (.slice Ao132 t415.length co132) t415) := ⟨by (with_reducible repeat (first | apply Kd.V_alloc | apply Kd.V_drewN | apply Kd.V_drew)); exact Kd.V_mono (Kd.V_far (p := ⟨gb429, 1, none⟩) (Kd.V_far (p := ⟨gb429, 0, none⟩) (Kd.V_mono HO417.out (fun k_ hk => (⟨hk, hk.2⟩ : _ ∧ k_ ≠ gb429))) (fun _ hk => hk.2) (.slice Ao136 t421.length co136)) (fun _ hk => hk.2) (.slice Ao146 t424.length co146)) (fun _ hk => ⟨hk.1.1.1, ⟨hk.1.1.2.1, ⟨hk.1.1.2.2.1, ⟨hk.1.1.2.2.2.1, ⟨hk.1.1.2.2.2.2.1, ⟨hk.1.1.2.2.2.2.2.1, ⟨hk.1.1.2.2.2.2.2.2.1, ⟨hk.1.1.2.2.2.2.2.2.2.1, ⟨hk.1.1.2.2.2.2.2.2.2.2, hk.1.2⟩⟩⟩⟩⟩⟩⟩⟩⟩)⟩
            have n23_ : Aside0 (Kd.V (Kd.int .i64) 3 ((w135.setCell ⟨gb429, 0, none⟩ (.slice Ao136 t421.length co136)).setCell ⟨gb429, 1, none⟩ (.slice Ao146 t424.length co146)) w.heap.size (fun k_ => some k_ ≠ (v381 : Value).ownBlock ∧ k_ ≠ gb333 ∧ k_ ≠ gb343 ∧ k_ ≠ gb357 ∧ k_ ≠ gb367 ∧ k_ ≠ gb383 ∧ k_ ≠ gb391 ∧ k_ ≠ gb405 ∧ k_ ≠ gb414 ∧ k_ ≠ gb429) (.slice Ao133 t418.length co133) t418) := ⟨by (with_reducible repeat (first | apply Kd.V_alloc | apply Kd.V_drewN | apply Kd.V_drew)); exact Kd.V_mono (Kd.V_far (p := ⟨gb429, 1, none⟩) (Kd.V_far (p := ⟨gb429, 0, none⟩) (Kd.V_mono HO420.out (fun k_ hk => (⟨hk, hk.2⟩ : _ ∧ k_ ≠ gb429))) (fun _ hk => hk.2) (.slice Ao136 t421.length co136)) (fun _ hk => hk.2) (.slice Ao146 t424.length co146)) (fun _ hk => ⟨hk.1.1.1, ⟨hk.1.1.2.1, ⟨hk.1.1.2.2.1, ⟨hk.1.1.2.2.2.1, ⟨hk.1.1.2.2.2.2.1, ⟨hk.1.1.2.2.2.2.2.1, ⟨hk.1.1.2.2.2.2.2.2.1, ⟨hk.1.1.2.2.2.2.2.2.2.1, ⟨hk.1.1.2.2.2.2.2.2.2.2, hk.1.2⟩⟩⟩⟩⟩⟩⟩⟩⟩)⟩
            have n24_ : Aside0 (Kd.V (Kd.int .i64) 3 ((w135.setCell ⟨gb429, 0, none⟩ (.slice Ao136 t421.length co136)).setCell ⟨gb429, 1, none⟩ (.slice Ao146 t424.length co146)) w.heap.size (fun k_ => some k_ ≠ (v381 : Value).ownBlock ∧ k_ ≠ gb333 ∧ k_ ≠ gb343 ∧ k_ ≠ gb357 ∧ k_ ≠ gb367 ∧ k_ ≠ gb383 ∧ k_ ≠ gb391 ∧ k_ ≠ gb405 ∧ k_ ≠ gb414 ∧ k_ ≠ gb429) (.slice Ao136 t421.length co136) t421) := ⟨by (with_reducible repeat (first | apply Kd.V_alloc | apply Kd.V_drewN | apply Kd.V_drew)); exact Kd.V_mono (Kd.V_far (p := ⟨gb429, 1, none⟩) (Kd.V_far (p := ⟨gb429, 0, none⟩) (Kd.V_mono HO423.out (fun k_ hk => (⟨hk, hk.2⟩ : _ ∧ k_ ≠ gb429))) (fun _ hk => hk.2) (.slice Ao136 t421.length co136)) (fun _ hk => hk.2) (.slice Ao146 t424.length co146)) (fun _ hk => ⟨hk.1.1.1, ⟨hk.1.1.2.1, ⟨hk.1.1.2.2.1, ⟨hk.1.1.2.2.2.1, ⟨hk.1.1.2.2.2.2.1, ⟨hk.1.1.2.2.2.2.2.1, ⟨hk.1.1.2.2.2.2.2.2.1, ⟨hk.1.1.2.2.2.2.2.2.2.1, ⟨hk.1.1.2.2.2.2.2.2.2.2, hk.1.2⟩⟩⟩⟩⟩⟩⟩⟩⟩)⟩
            have n25_ : Aside0 (Kd.V (Kd.int .i64) 3 ((w135.setCell ⟨gb429, 0, none⟩ (.slice Ao136 t421.length co136)).setCell ⟨gb429, 1, none⟩ (.slice Ao146 t424.length co146)) w.heap.size (fun k_ => some k_ ≠ (v381 : Value).ownBlock ∧ k_ ≠ gb333 ∧ k_ ≠ gb343 ∧ k_ ≠ gb357 ∧ k_ ≠ gb367 ∧ k_ ≠ gb383 ∧ k_ ≠ gb391 ∧ k_ ≠ gb405 ∧ k_ ≠ gb414 ∧ k_ ≠ gb429) (.slice Ao146 t424.length co146) t424) := ⟨by (with_reducible repeat (first | apply Kd.V_alloc | apply Kd.V_drewN | apply Kd.V_drew)); exact Kd.V_mono (Kd.V_far (p := ⟨gb429, 1, none⟩) (Kd.V_far (p := ⟨gb429, 0, none⟩) (Kd.V_mono HO426.out (fun k_ hk => (⟨hk, hk.2⟩ : _ ∧ k_ ≠ gb429))) (fun _ hk => hk.2) (.slice Ao136 t421.length co136)) (fun _ hk => hk.2) (.slice Ao146 t424.length co146)) (fun _ hk => ⟨hk.1.1.1, ⟨hk.1.1.2.1, ⟨hk.1.1.2.2.1, ⟨hk.1.1.2.2.2.1, ⟨hk.1.1.2.2.2.2.1, ⟨hk.1.1.2.2.2.2.2.1, ⟨hk.1.1.2.2.2.2.2.2.1, ⟨hk.1.1.2.2.2.2.2.2.2.1, ⟨hk.1.1.2.2.2.2.2.2.2.2, hk.1.2⟩⟩⟩⟩⟩⟩⟩⟩⟩)⟩
            have n26_ : Aside0 (((w135.setCell ⟨gb429, 0, none⟩ (.slice Ao136 t421.length co136)).setCell ⟨gb429, 1, none⟩ (.slice Ao146 t424.length co146)).heap[gb333]? = some (.cells #[.slice A0_0 l0_0.length c0_0, .slice A0_1 l0_1.length c0_1] 24 (0, 0))) := ⟨by (with_reducible repeat (first | refine blk_drewN ?_ _ | refine blk_drew ?_ | refine blk_alloc ?_ _)); refine blk_far ?_ NB333_429.out _; (with_reducible repeat (first | refine blk_drewN ?_ _ | refine blk_drew ?_ | refine blk_alloc ?_ _)); refine blk_far ?_ NB333_429.out _; (with_reducible repeat (first | refine blk_drewN ?_ _ | refine blk_drew ?_ | refine blk_alloc ?_ _)); exact BK333.out⟩
            have n27_ : Aside0 (((w135.setCell ⟨gb429, 0, none⟩ (.slice Ao136 t421.length co136)).setCell ⟨gb429, 1, none⟩ (.slice Ao146 t424.length co146)).heap[gb343]? = some (.cells #[.slice Ao47 t336.length co47, .slice Ao50 t339.length co50] 24 (0, 0))) := ⟨by (with_reducible repeat (first | refine blk_drewN ?_ _ | refine blk_drew ?_ | refine blk_alloc ?_ _)); refine blk_far ?_ NB343_429.out _; (with_reducible repeat (first | refine blk_drewN ?_ _ | refine blk_drew ?_ | refine blk_alloc ?_ _)); refine blk_far ?_ NB343_429.out _; (with_reducible repeat (first | refine blk_drewN ?_ _ | refine blk_drew ?_ | refine blk_alloc ?_ _)); exact BK343.out⟩
            have n28_ : Aside0 (((w135.setCell ⟨gb429, 0, none⟩ (.slice Ao136 t421.length co136)).setCell ⟨gb429, 1, none⟩ (.slice Ao146 t424.length co146)).heap[gb357]? = some (.cells #[.slice Ao58 t350.length co58, .slice Ao62 t353.length co62] 30 (0, 0))) := ⟨by (with_reducible repeat (first | refine blk_drewN ?_ _ | refine blk_drew ?_ | refine blk_alloc ?_ _)); refine blk_far ?_ NB357_429.out _; (with_reducible repeat (first | refine blk_drewN ?_ _ | refine blk_drew ?_ | refine blk_alloc ?_ _)); refine blk_far ?_ NB357_429.out _; (with_reducible repeat (first | refine blk_drewN ?_ _ | refine blk_drew ?_ | refine blk_alloc ?_ _)); exact BK357.out⟩
            have n29_ : Aside0 (((w135.setCell ⟨gb429, 0, none⟩ (.slice Ao136 t421.length co136)).setCell ⟨gb429, 1, none⟩ (.slice Ao146 t424.length co146)).heap[gb367]? = some (.cells #[.slice Ao67 t358.length co67, .slice Ao72 t361.length co72] 24 (0, 0))) := ⟨by (with_reducible repeat (first | refine blk_drewN ?_ _ | refine blk_drew ?_ | refine blk_alloc ?_ _)); refine blk_far ?_ NB367_429.out _; (with_reducible repeat (first | refine blk_drewN ?_ _ | refine blk_drew ?_ | refine blk_alloc ?_ _)); refine blk_far ?_ NB367_429.out _; (with_reducible repeat (first | refine blk_drewN ?_ _ | refine blk_drew ?_ | refine blk_alloc ?_ _)); exact BK367.out⟩
            have n30_ : Aside0 (((w135.setCell ⟨gb429, 0, none⟩ (.slice Ao136 t421.length co136)).setCell ⟨gb429, 1, none⟩ (.slice Ao146 t424.length co146)).heap[gb383]? = some (.cells #[.slice Ao80 t374.length co80, .slice Ao86 t377.length co86] 30 (0, 0))) := ⟨by (with_reducible repeat (first | refine blk_drewN ?_ _ | refine blk_drew ?_ | refine blk_alloc ?_ _)); refine blk_far ?_ NB383_429.out _; (with_reducible repeat (first | refine blk_drewN ?_ _ | refine blk_drew ?_ | refine blk_alloc ?_ _)); refine blk_far ?_ NB383_429.out _; (with_reducible repeat (first | refine blk_drewN ?_ _ | refine blk_drew ?_ | refine blk_alloc ?_ _)); exact BK383.out⟩
            have n31_ : Aside0 (((w135.setCell ⟨gb429, 0, none⟩ (.slice Ao136 t421.length co136)).setCell ⟨gb429, 1, none⟩ (.slice Ao146 t424.length co146)).heap[gb391]? = some (.cells #[.slice Ao91 t384.length co91, .slice Ao98 t387.length co98] 24 (0, 0))) := ⟨by (with_reducible repeat (first | refine blk_drewN ?_ _ | refine blk_drew ?_ | refine blk_alloc ?_ _)); refine blk_far ?_ NB391_429.out _; (with_reducible repeat (first | refine blk_drewN ?_ _ | refine blk_drew ?_ | refine blk_alloc ?_ _)); refine blk_far ?_ NB391_429.out _; (with_reducible repeat (first | refine blk_drewN ?_ _ | refine blk_drew ?_ | refine blk_alloc ?_ _)); exact BK391.out⟩
            have n32_ : Aside0 (((w135.setCell ⟨gb429, 0, none⟩ (.slice Ao136 t421.length co136)).setCell ⟨gb429, 1, none⟩ (.slice Ao146 t424.length co146)).heap[gb405]? = some (.cells #[.slice Ao106 t398.length co106, .slice Ao114 t401.length co114] 30 (0, 0))) := ⟨by (with_reducible repeat (first | refine blk_drewN ?_ _ | refine blk_drew ?_ | refine blk_alloc ?_ _)); refine blk_far ?_ NB405_429.out _; (with_reducible repeat (first | refine blk_drewN ?_ _ | refine blk_drew ?_ | refine blk_alloc ?_ _)); refine blk_far ?_ NB405_429.out _; (with_reducible repeat (first | refine blk_drewN ?_ _ | refine blk_drew ?_ | refine blk_alloc ?_ _)); exact BK405.out⟩
            have n33_ : Aside0 (((w135.setCell ⟨gb429, 0, none⟩ (.slice Ao136 t421.length co136)).setCell ⟨gb429, 1, none⟩ (.slice Ao146 t424.length co146)).heap[gb414]? = some (.cells #[.slice Ao119 t406.length co119, .slice Ao128 t409.length co128] 24 (0, 0))) := ⟨by (with_reducible repeat (first | refine blk_drewN ?_ _ | refine blk_drew ?_ | refine blk_alloc ?_ _)); refine blk_far ?_ NB414_429.out _; (with_reducible repeat (first | refine blk_drewN ?_ _ | refine blk_drew ?_ | refine blk_alloc ?_ _)); refine blk_far ?_ NB414_429.out _; (with_reducible repeat (first | refine blk_drewN ?_ _ | refine blk_drew ?_ | refine blk_alloc ?_ _)); exact BK414.out⟩
            have n34_ : Aside0 (((w135.setCell ⟨gb429, 0, none⟩ (.slice Ao136 t421.length co136)).setCell ⟨gb429, 1, none⟩ (.slice Ao146 t424.length co146)).heap[gb429]? = some (.cells #[.slice Ao136 t421.length co136, .slice Ao146 t424.length co146] 30 (0, 0))) := ⟨by (with_reducible repeat (first | refine blk_drewN ?_ _ | refine blk_drew ?_ | refine blk_alloc ?_ _)); refine blk_put (cs := #[.slice Ao136 t421.length co136, .slice none 0 0]) ?_ 1 _ rfl; (with_reducible repeat (first | refine blk_drewN ?_ _ | refine blk_drew ?_ | refine blk_alloc ?_ _)); refine blk_put (cs := #[.slice none 0 0, .slice none 0 0]) ?_ 0 _ rfl; (with_reducible repeat (first | refine blk_drewN ?_ _ | refine blk_drew ?_ | refine blk_alloc ?_ _)); exact BK429.out⟩
            have n35_ : Aside0 (Below w.heap.size w ((w135.setCell ⟨gb429, 0, none⟩ (.slice Ao136 t421.length co136)).setCell ⟨gb429, 1, none⟩ (.slice Ao146 t424.length co146))) := ⟨by repeat (first | (with_reducible first | exact HB.out | apply below_alloc | apply pw_below_drewN | apply below_drew1 | refine below_set ?_ GE333.out | refine below_set ?_ GE343.out | refine below_set ?_ GE357.out | refine below_set ?_ GE367.out | refine below_set ?_ GE383.out | refine below_set ?_ GE391.out | refine below_set ?_ GE405.out | refine below_set ?_ GE414.out | refine below_set ?_ GE429.out) | exact HB.out)⟩
            (try clear HO338)
            (try clear HO341)
            (try clear HO346)
            (try clear HO349)
            (try clear HO352)
            (try clear HO355)
            (try clear HO360)
            (try clear HO363)
            (try clear HO366)
            (try clear HO370)
            (try clear HO373)
            (try clear HO376)
            (try clear HO379)
            (try clear HO382)
            (try clear HO386)
            (try clear HO389)
            (try clear HO394)
            (try clear HO397)
            (try clear HO400)
            (try clear HO403)
            (try clear HO408)
            (try clear HO411)
            (try clear HO417)
            (try clear HO420)
            (try clear HO423)
            (try clear HO426)
            (try clear BK333)
            (try clear BK343)
            (try clear BK357)
            (try clear BK367)
            (try clear BK383)
            (try clear BK391)
            (try clear BK405)
            (try clear BK414)
            (try clear BK429)
            (try clear HB)
            generalize ((w135.setCell ⟨gb429, 0, none⟩ (.slice Ao136 t421.length co136)).setCell ⟨gb429, 1, none⟩ (.slice Ao146 t424.length co146)) = w147 at n0_ n1_ n2_ n3_ n4_ n5_ n6_ n7_ n8_ n9_ n10_ n11_ n12_ n13_ n14_ n15_ n16_ n17_ n18_ n19_ n20_ n21_ n22_ n23_ n24_ n25_ n26_ n27_ n28_ n29_ n30_ n31_ n32_ n33_ n34_ n35_ ⊢
            have HO338 := n0_
            have HO341 := n1_
            have HO346 := n2_
            have HO349 := n3_
            have HO352 := n4_
            have HO355 := n5_
            have HO360 := n6_
            have HO363 := n7_
            have HO366 := n8_
            have HO370 := n9_
            have HO373 := n10_
            have HO376 := n11_
            have HO379 := n12_
            have HO382 := n13_
            have HO386 := n14_
            have HO389 := n15_
            have HO394 := n16_
            have HO397 := n17_
            have HO400 := n18_
            have HO403 := n19_
            have HO408 := n20_
            have HO411 := n21_
            have HO417 := n22_
            have HO420 := n23_
            have HO423 := n24_
            have HO426 := n25_
            have BK333 := n26_
            have BK343 := n27_
            have BK357 := n28_
            have BK367 := n29_
            have BK383 := n30_
            have BK391 := n31_
            have BK405 := n32_
            have BK414 := n33_
            have BK429 := n34_
            have HB := n35_
            clear n0_ n1_ n2_ n3_ n4_ n5_ n6_ n7_ n8_ n9_ n10_ n11_ n12_ n13_ n14_ n15_ n16_ n17_ n18_ n19_ n20_ n21_ n22_ n23_ n24_ n25_ n26_ n27_ n28_ n29_ n30_ n31_ n32_ n33_ n34_ n35_
            replace HO338 := am (Kd.V_drew HO338.out)
            replace HO341 := am (Kd.V_drew HO341.out)
            replace HO346 := am (Kd.V_drew HO346.out)
            replace HO349 := am (Kd.V_drew HO349.out)
            replace HO352 := am (Kd.V_drew HO352.out)
            replace HO355 := am (Kd.V_drew HO355.out)
            replace HO360 := am (Kd.V_drew HO360.out)
            replace HO363 := am (Kd.V_drew HO363.out)
            replace HO366 := am (Kd.V_drew HO366.out)
            replace HO370 := am (Kd.V_drew HO370.out)
            replace HO373 := am (Kd.V_drew HO373.out)
            replace HO376 := am (Kd.V_drew HO376.out)
            replace HO379 := am (Kd.V_drew HO379.out)
            replace HO382 := am (Kd.R_drew HO382.out)
            replace HO386 := am (Kd.V_drew HO386.out)
            replace HO389 := am (Kd.V_drew HO389.out)
            replace HO394 := am (Kd.V_drew HO394.out)
            replace HO397 := am (Kd.V_drew HO397.out)
            replace HO400 := am (Kd.V_drew HO400.out)
            replace HO403 := am (Kd.V_drew HO403.out)
            replace HO408 := am (Kd.V_drew HO408.out)
            replace HO411 := am (Kd.V_drew HO411.out)
            replace HO417 := am (Kd.V_drew HO417.out)
            replace HO420 := am (Kd.V_drew HO420.out)
            replace HO423 := am (Kd.V_drew HO423.out)
            replace HO426 := am (Kd.V_drew HO426.out)
            replace BK333 := am (blk_drew BK333.out)
            replace BK343 := am (blk_drew BK343.out)
            replace BK357 := am (blk_drew BK357.out)
            replace BK367 := am (blk_drew BK367.out)
            replace BK383 := am (blk_drew BK383.out)
            replace BK391 := am (blk_drew BK391.out)
            replace BK405 := am (blk_drew BK405.out)
            replace BK414 := am (blk_drew BK414.out)
            replace BK429 := am (blk_drew BK429.out)
            replace HB := am (below_drew1 HB.out)
            refine start_ (n := 59) (S := fun w' => w'.cell? ⟨gb333, 0, none⟩ = some (.slice A0_0 l0_0.length c0_0) ∧ w'.cell? ⟨gb333, 1, none⟩ = some (.slice A0_1 l0_1.length c0_1) ∧ w'.cell? ⟨gb343, 0, none⟩ = some (.slice Ao47 t336.length co47) ∧ w'.cell? ⟨gb343, 1, none⟩ = some (.slice Ao50 t339.length co50) ∧ w'.cell? ⟨gb357, 0, none⟩ = some (.slice Ao58 t350.length co58) ∧ w'.cell? ⟨gb357, 1, none⟩ = some (.slice Ao62 t353.length co62) ∧ w'.cell? ⟨gb367, 0, none⟩ = some (.slice Ao67 t358.length co67) ∧ w'.cell? ⟨gb367, 1, none⟩ = some (.slice Ao72 t361.length co72) ∧ w'.cell? ⟨gb383, 0, none⟩ = some (.slice Ao80 t374.length co80) ∧ w'.cell? ⟨gb383, 1, none⟩ = some (.slice Ao86 t377.length co86) ∧ w'.cell? ⟨gb391, 0, none⟩ = some (.slice Ao91 t384.length co91) ∧ w'.cell? ⟨gb391, 1, none⟩ = some (.slice Ao98 t387.length co98) ∧ w'.cell? ⟨gb405, 0, none⟩ = some (.slice Ao106 t398.length co106) ∧ w'.cell? ⟨gb405, 1, none⟩ = some (.slice Ao114 t401.length co114) ∧ w'.cell? ⟨gb414, 0, none⟩ = some (.slice Ao119 t406.length co119) ∧ w'.cell? ⟨gb414, 1, none⟩ = some (.slice Ao128 t409.length co128) ∧ w'.cell? ⟨gb429, 0, none⟩ = some (.slice Ao136 t421.length co136) ∧ w'.cell? ⟨gb429, 1, none⟩ = some (.slice Ao146 t424.length co146)) (ds := []) #[false, false, false, false, false, false, false, false, false, false, false, false, false, false, false, false, false, false, false, false, false, false, false, false, false, false, false, false, false, false, false, false, false, false, false, false, false, false, false, false, false, false, false, false, false, false, false, false, false, false, false, false, false, false, false, false, false, false, false] (by kernel_rfl) rfl rfl ⟨(blk_cell BK333.out 0).trans rfl, (blk_cell BK333.out 1).trans rfl, (blk_cell BK343.out 0).trans rfl, (blk_cell BK343.out 1).trans rfl, (blk_cell BK357.out 0).trans rfl, (blk_cell BK357.out 1).trans rfl, (blk_cell BK367.out 0).trans rfl, (blk_cell BK367.out 1).trans rfl, (blk_cell BK383.out 0).trans rfl, (blk_cell BK383.out 1).trans rfl, (blk_cell BK391.out 0).trans rfl, (blk_cell BK391.out 1).trans rfl, (blk_cell BK405.out 0).trans rfl, (blk_cell BK405.out 1).trans rfl, (blk_cell BK414.out 0).trans rfl, (blk_cell BK414.out 1).trans rfl, (blk_cell BK429.out 0).trans rfl, (blk_cell BK429.out 1).trans rfl⟩ (fun hHeld => ?_); refine with_tabW handshakerlaw20_CondTells.tab11 handshakerlaw20_CondTells.bits11 (fun HT_ HW_ => ?_)
            generalize w147.drew = w148 at HO338 HO341 HO346 HO349 HO352 HO355 HO360 HO363 HO366 HO370 HO373 HO376 HO379 HO382 HO386 HO389 HO394 HO397 HO400 HO403 HO408 HO411 HO417 HO420 HO423 HO426 BK333 BK343 BK357 BK367 BK383 BK391 BK405 BK414 BK429 HB hHeld ⊢
            refine take_ (i := 0) (N := some 83) (v := ?_) (a' := ?_) #[true, false, false, false, false, false, false, false, false, false, false, false, false, false, false, false, false, false, false, false, false, false, false, false, false, false, false, false, false, false, false, false, false, false, false, false, false, false, false, false, false, false, false, false, false, false, false, false, false, false, false, false, false, false, false, false, false, false, false] rfl rfl (take_ofW HT_.out HW_.out (by kernel_rfl)) (fun _ _ _ h => h) (Or.inl ⟨by rfl, ?_⟩) hHeld ?_ ?_
            rotate_left
            ·rintro w' ⟨s0, s1, s2, s3, s4, s5, s6, s7, s8, s9, s10, s11, s12, s13, s14, s15, s16, s17⟩
             go_simp
             with_reducible rfl
            rotate_left
            ·simp only [Act.put, List.setIfInBounds_toArray, List.set_cons_zero, List.set_cons_succ, i64_w, i32_w]
             rfl
            refine take_ (i := 2) (N := some 85) (v := ?_) (a' := ?_) #[true, false, true, false, false, false, false, false, false, false, false, false, false, false, false, false, false, false, false, false, false, false, false, false, false, false, false, false, false, false, false, false, false, false, false, false, false, false, false, false, false, false, false, false, false, false, false, false, false, false, false, false, false, false, false, false, false, false, false] rfl rfl (take_ofW HT_.out HW_.out (by kernel_rfl)) (fun _ _ _ h => h) (Or.inl ⟨by rfl, ?_⟩) hHeld ?_ ?_
            rotate_left
            ·rintro w' ⟨s0, s1, s2, s3, s4, s5, s6, s7, s8, s9, s10, s11, s12, s13, s14, s15, s16, s17⟩
             go_simp
             with_reducible rfl
            rotate_left
            ·simp only [Act.put, List.setIfInBounds_toArray, List.set_cons_zero, List.set_cons_succ, i64_w, i32_w]
             rfl
            refine one_ (i := 1) (N := some 84) #[true, true, true, false, false, false, false, false, false, false, false, false, false, false, false, false, false, false, false, false, false, false, false, false, false, false, false, false, false, false, false, false, false, false, false, false, false, false, false, false, false, false, false, false, false, false, false, false, false, false, false, false, false, false, false, false, false, false, false] rfl rfl (one_of HT_.out (by kernel_rfl)) (by decide) (fun K hK => ?_)
            refine goes_ Try.func19 (by kernel_rfl) rfl #[.agg #[.slice A0_0 l0_0.length c0_0, .slice A0_1 l0_1.length c0_1]] (by rfl) rfl rfl zm ?_
            with_reducible refine (cond_Right.calls k (fun k_ => k_ < w.heap.size) _ _ l0_0 (fun k_ => k_ < w.heap.size) _ _ l0_1 t430 _ ?side1 ?side2 A18.out).mono ?_
            (case side1 => exact Kd.V_mk HC0_0.out (Kd.F_below (Kd.C_F (Kd.heap_int .i64) HR0_0.out) (by repeat (first | (with_reducible first | exact HB.out | apply below_alloc | apply pw_below_drewN | apply below_drew1 | refine below_set ?_ GE333.out | refine below_set ?_ GE343.out | refine below_set ?_ GE357.out | refine below_set ?_ GE367.out | refine below_set ?_ GE383.out | refine below_set ?_ GE391.out | refine below_set ?_ GE405.out | refine below_set ?_ GE414.out | refine below_set ?_ GE429.out) | exact HB.out))))
            (case side2 => exact Kd.V_mk HC0_1.out (Kd.F_below (Kd.C_F (Kd.heap_int .i64) HR0_1.out) (by repeat (first | (with_reducible first | exact HB.out | apply below_alloc | apply pw_below_drewN | apply below_drew1 | refine below_set ?_ GE333.out | refine below_set ?_ GE343.out | refine below_set ?_ GE357.out | refine below_set ?_ GE367.out | refine below_set ?_ GE383.out | refine below_set ?_ GE391.out | refine below_set ?_ GE405.out | refine below_set ?_ GE414.out | refine below_set ?_ GE429.out) | exact HB.out))))
            rintro e w149 ⟨rfl, hb⟩
            refine ⟨_, rfl, ?_⟩
            replace HO338 := zVb HO338 hb
            replace HO341 := zVb HO341 hb
            replace HO346 := zVb HO346 hb
            replace HO349 := zVb HO349 hb
            replace HO352 := zVb HO352 hb
            replace HO355 := zVb HO355 hb
            replace HO360 := zVb HO360 hb
            replace HO363 := zVb HO363 hb
            replace HO366 := zVb HO366 hb
            replace HO370 := zVb HO370 hb
            replace HO373 := zVb HO373 hb
            replace HO376 := zVb HO376 hb
            replace HO379 := zVb HO379 hb
            replace HO382 := zRb HO382 hb
            replace HO386 := zVb HO386 hb
            replace HO389 := zVb HO389 hb
            replace HO394 := zVb HO394 hb
            replace HO397 := zVb HO397 hb
            replace HO400 := zVb HO400 hb
            replace HO403 := zVb HO403 hb
            replace HO408 := zVb HO408 hb
            replace HO411 := zVb HO411 hb
            replace HO417 := zVb HO417 hb
            replace HO420 := zVb HO420 hb
            replace HO423 := zVb HO423 hb
            replace HO426 := zVb HO426 hb
            replace BK333 := zbb BK333 hb
            replace BK343 := zbb BK343 hb
            replace BK357 := zbb BK357 hb
            replace BK367 := zbb BK367 hb
            replace BK383 := zbb BK383 hb
            replace BK391 := zbb BK391 hb
            replace BK405 := zbb BK405 hb
            replace BK414 := zbb BK414 hb
            replace BK429 := zbb BK429 hb
            replace HB := am (below_step (by repeat (first | (with_reducible first | exact HB.out | apply below_alloc | apply pw_below_drewN | apply below_drew1 | refine below_set ?_ GE333.out | refine below_set ?_ GE343.out | refine below_set ?_ GE357.out | refine below_set ?_ GE367.out | refine below_set ?_ GE383.out | refine below_set ?_ GE391.out | refine below_set ?_ GE405.out | refine below_set ?_ GE414.out | refine below_set ?_ GE429.out) | exact HB.out)) hb)
            (try clear hb)
            (try clear hb2)
            (try clear hk)
            (try clear hi)
            refine hK.out _ _ ⟨(blk_cell BK333.out 0).trans rfl, (blk_cell BK333.out 1).trans rfl, (blk_cell BK343.out 0).trans rfl, (blk_cell BK343.out 1).trans rfl, (blk_cell BK357.out 0).trans rfl, (blk_cell BK357.out 1).trans rfl, (blk_cell BK367.out 0).trans rfl, (blk_cell BK367.out 1).trans rfl, (blk_cell BK383.out 0).trans rfl, (blk_cell BK383.out 1).trans rfl, (blk_cell BK391.out 0).trans rfl, (blk_cell BK391.out 1).trans rfl, (blk_cell BK405.out 0).trans rfl, (blk_cell BK405.out 1).trans rfl, (blk_cell BK414.out 0).trans rfl, (blk_cell BK414.out 1).trans rfl, (blk_cell BK429.out 0).trans rfl, (blk_cell BK429.out 1).trans rfl⟩ (fun hHeld => ?_)
            clear hK K
            refine norm_ (a' := ?_) ?_ ?_
            rotate_left
            ·show Act.put _ (some 84) _ = _
             simp only [Act.put, List.setIfInBounds_toArray, List.set_cons_zero, List.set_cons_succ, i64_w, i32_w]
             rfl
            refine one_ (i := 3) (N := some 86) #[true, true, true, true, false, false, false, false, false, false, false, false, false, false, false, false, false, false, false, false, false, false, false, false, false, false, false, false, false, false, false, false, false, false, false, false, false, false, false, false, false, false, false, false, false, false, false, false, false, false, false, false, false, false, false, false, false, false, false] rfl rfl (one_of HT_.out (by kernel_rfl)) (by decide) (fun K hK => ?_)
            refine goes_ Try.func12 (by kernel_rfl) rfl #[.agg #[.slice A0_0 l0_0.length c0_0, .slice A0_1 l0_1.length c0_1]] (by rfl) rfl rfl zm ?_
            with_reducible refine (handshakerlaw20_ref.calls (fun k_ => k_ < w.heap.size) _ _ l0_0 (fun k_ => k_ < w.heap.size) _ _ l0_1 t431 t434 _ ?side1 ?side2 A19.out).mono ?_
            (case side1 => exact Kd.V_mk HC0_0.out (Kd.F_below (Kd.C_F (Kd.heap_int .i64) HR0_0.out) (by repeat (first | (with_reducible first | exact HB.out | apply below_alloc | apply pw_below_drewN | apply below_drew1 | refine below_set ?_ GE333.out | refine below_set ?_ GE343.out | refine below_set ?_ GE357.out | refine below_set ?_ GE367.out | refine below_set ?_ GE383.out | refine below_set ?_ GE391.out | refine below_set ?_ GE405.out | refine below_set ?_ GE414.out | refine below_set ?_ GE429.out) | exact HB.out))))
            (case side2 => exact Kd.V_mk HC0_1.out (Kd.F_below (Kd.C_F (Kd.heap_int .i64) HR0_1.out) (by repeat (first | (with_reducible first | exact HB.out | apply below_alloc | apply pw_below_drewN | apply below_drew1 | refine below_set ?_ GE333.out | refine below_set ?_ GE343.out | refine below_set ?_ GE357.out | refine below_set ?_ GE367.out | refine below_set ?_ GE383.out | refine below_set ?_ GE391.out | refine below_set ?_ GE405.out | refine below_set ?_ GE414.out | refine below_set ?_ GE429.out) | exact HB.out))))
            rintro e w150 ⟨v432, v435, rfl, ho0, ho1, hb⟩
            refine ⟨_, rfl, ?_⟩
            replace HO338 := zVb HO338 hb
            replace HO341 := zVb HO341 hb
            replace HO346 := zVb HO346 hb
            replace HO349 := zVb HO349 hb
            replace HO352 := zVb HO352 hb
            replace HO355 := zVb HO355 hb
            replace HO360 := zVb HO360 hb
            replace HO363 := zVb HO363 hb
            replace HO366 := zVb HO366 hb
            replace HO370 := zVb HO370 hb
            replace HO373 := zVb HO373 hb
            replace HO376 := zVb HO376 hb
            replace HO379 := zVb HO379 hb
            replace HO386 := zVb HO386 hb
            replace HO389 := zVb HO389 hb
            replace HO394 := zVb HO394 hb
            replace HO397 := zVb HO397 hb
            replace HO400 := zVb HO400 hb
            replace HO403 := zVb HO403 hb
            replace HO408 := zVb HO408 hb
            replace HO411 := zVb HO411 hb
            replace HO417 := zVb HO417 hb
            replace HO420 := zVb HO420 hb
            replace HO423 := zVb HO423 hb
            replace HO426 := zVb HO426 hb
            have HO433 := am (Kd.V_lower (Kd.V_mono (ok' := fun k_ => some k_ ≠ (v381 : Value).ownBlock ∧ k_ ≠ gb333 ∧ k_ ≠ gb343 ∧ k_ ≠ gb357 ∧ k_ ≠ gb367 ∧ k_ ≠ gb383 ∧ k_ ≠ gb391 ∧ k_ ≠ gb405 ∧ k_ ≠ gb414 ∧ k_ ≠ gb429) ho0 (fun k_ hk_ => ⟨Or.elim hk_ (fun hs_ => Or.elim hs_ (fun hs_ => fun e_ => Nat.not_le.2 hs_ (Kd.R_base HO382.out k_ e_.symm)) (fun hs_ => fun e_ => Nat.not_le.2 hs_ (Kd.R_base HO382.out k_ e_.symm))) (fun hn_ => (Kd.fresh' (Kd.R_lt (zR HO382)) k_ hn_)), Or.elim hk_ (fun hs_ => Or.elim hs_ (znl GW333) (znl GW333)) (fun hn_ => (zfr gb333 BK333 hn_)), Or.elim hk_ (fun hs_ => Or.elim hs_ (znl GW343) (znl GW343)) (fun hn_ => (zfr gb343 BK343 hn_)), Or.elim hk_ (fun hs_ => Or.elim hs_ (znl GW357) (znl GW357)) (fun hn_ => (zfr gb357 BK357 hn_)), Or.elim hk_ (fun hs_ => Or.elim hs_ (znl GW367) (znl GW367)) (fun hn_ => (zfr gb367 BK367 hn_)), Or.elim hk_ (fun hs_ => Or.elim hs_ (znl GW383) (znl GW383)) (fun hn_ => (zfr gb383 BK383 hn_)), Or.elim hk_ (fun hs_ => Or.elim hs_ (znl GW391) (znl GW391)) (fun hn_ => (zfr gb391 BK391 hn_)), Or.elim hk_ (fun hs_ => Or.elim hs_ (znl GW405) (znl GW405)) (fun hn_ => (zfr gb405 BK405 hn_)), Or.elim hk_ (fun hs_ => Or.elim hs_ (znl GW414) (znl GW414)) (fun hn_ => (zfr gb414 BK414 hn_)), Or.elim hk_ (fun hs_ => Or.elim hs_ (znl GW429) (znl GW429)) (fun hn_ => (zfr gb429 BK429 hn_))⟩)) (below_size (by repeat (first | (with_reducible first | exact HB.out | apply below_alloc | apply pw_below_drewN | apply below_drew1 | refine below_set ?_ GE333.out | refine below_set ?_ GE343.out | refine below_set ?_ GE357.out | refine below_set ?_ GE367.out | refine below_set ?_ GE383.out | refine below_set ?_ GE391.out | refine below_set ?_ GE405.out | refine below_set ?_ GE414.out | refine below_set ?_ GE429.out) | exact HB.out))))
            have HO436 := am (Kd.V_lower (Kd.V_mono (ok' := fun k_ => some k_ ≠ (v381 : Value).ownBlock ∧ k_ ≠ gb333 ∧ k_ ≠ gb343 ∧ k_ ≠ gb357 ∧ k_ ≠ gb367 ∧ k_ ≠ gb383 ∧ k_ ≠ gb391 ∧ k_ ≠ gb405 ∧ k_ ≠ gb414 ∧ k_ ≠ gb429) ho1 (fun k_ hk_ => ⟨Or.elim hk_ (fun hs_ => Or.elim hs_ (fun hs_ => fun e_ => Nat.not_le.2 hs_ (Kd.R_base HO382.out k_ e_.symm)) (fun hs_ => fun e_ => Nat.not_le.2 hs_ (Kd.R_base HO382.out k_ e_.symm))) (fun hn_ => (Kd.fresh' (Kd.R_lt (zR HO382)) k_ hn_)), Or.elim hk_ (fun hs_ => Or.elim hs_ (znl GW333) (znl GW333)) (fun hn_ => (zfr gb333 BK333 hn_)), Or.elim hk_ (fun hs_ => Or.elim hs_ (znl GW343) (znl GW343)) (fun hn_ => (zfr gb343 BK343 hn_)), Or.elim hk_ (fun hs_ => Or.elim hs_ (znl GW357) (znl GW357)) (fun hn_ => (zfr gb357 BK357 hn_)), Or.elim hk_ (fun hs_ => Or.elim hs_ (znl GW367) (znl GW367)) (fun hn_ => (zfr gb367 BK367 hn_)), Or.elim hk_ (fun hs_ => Or.elim hs_ (znl GW383) (znl GW383)) (fun hn_ => (zfr gb383 BK383 hn_)), Or.elim hk_ (fun hs_ => Or.elim hs_ (znl GW391) (znl GW391)) (fun hn_ => (zfr gb391 BK391 hn_)), Or.elim hk_ (fun hs_ => Or.elim hs_ (znl GW405) (znl GW405)) (fun hn_ => (zfr gb405 BK405 hn_)), Or.elim hk_ (fun hs_ => Or.elim hs_ (znl GW414) (znl GW414)) (fun hn_ => (zfr gb414 BK414 hn_)), Or.elim hk_ (fun hs_ => Or.elim hs_ (znl GW429) (znl GW429)) (fun hn_ => (zfr gb429 BK429 hn_))⟩)) (below_size (by repeat (first | (with_reducible first | exact HB.out | apply below_alloc | apply pw_below_drewN | apply below_drew1 | refine below_set ?_ GE333.out | refine below_set ?_ GE343.out | refine below_set ?_ GE357.out | refine below_set ?_ GE367.out | refine below_set ?_ GE383.out | refine below_set ?_ GE391.out | refine below_set ?_ GE405.out | refine below_set ?_ GE414.out | refine below_set ?_ GE429.out) | exact HB.out))))
            replace HO382 := zRb HO382 hb
            replace BK333 := zbb BK333 hb
            replace BK343 := zbb BK343 hb
            replace BK357 := zbb BK357 hb
            replace BK367 := zbb BK367 hb
            replace BK383 := zbb BK383 hb
            replace BK391 := zbb BK391 hb
            replace BK405 := zbb BK405 hb
            replace BK414 := zbb BK414 hb
            replace BK429 := zbb BK429 hb
            replace HB := am (below_step (by repeat (first | (with_reducible first | exact HB.out | apply below_alloc | apply pw_below_drewN | apply below_drew1 | refine below_set ?_ GE333.out | refine below_set ?_ GE343.out | refine below_set ?_ GE357.out | refine below_set ?_ GE367.out | refine below_set ?_ GE383.out | refine below_set ?_ GE391.out | refine below_set ?_ GE405.out | refine below_set ?_ GE414.out | refine below_set ?_ GE429.out) | exact HB.out)) hb)
            (try clear hb)
            (try clear hb2)
            (try clear hk)
            (try clear hi)
            (try clear ho0)
            (try clear ho1)
            obtain ⟨Ao151, co151, eo151⟩ := Kd.V_slice HO433.out
            (first | subst eo151 | (injection eo151 with f1_ f2_ f3_; have f4_ := f1_.symm; have f5_ := f3_.symm; clear f1_ f2_ f3_; subst f4_; subst f5_))
            obtain ⟨Ao152, co152, eo152⟩ := Kd.V_slice HO436.out
            (first | subst eo152 | (injection eo152 with f1_ f2_ f3_; have f4_ := f1_.symm; have f5_ := f3_.symm; clear f1_ f2_ f3_; subst f4_; subst f5_))
            refine hK.out _ _ ⟨(blk_cell BK333.out 0).trans rfl, (blk_cell BK333.out 1).trans rfl, (blk_cell BK343.out 0).trans rfl, (blk_cell BK343.out 1).trans rfl, (blk_cell BK357.out 0).trans rfl, (blk_cell BK357.out 1).trans rfl, (blk_cell BK367.out 0).trans rfl, (blk_cell BK367.out 1).trans rfl, (blk_cell BK383.out 0).trans rfl, (blk_cell BK383.out 1).trans rfl, (blk_cell BK391.out 0).trans rfl, (blk_cell BK391.out 1).trans rfl, (blk_cell BK405.out 0).trans rfl, (blk_cell BK405.out 1).trans rfl, (blk_cell BK414.out 0).trans rfl, (blk_cell BK414.out 1).trans rfl, (blk_cell BK429.out 0).trans rfl, (blk_cell BK429.out 1).trans rfl⟩ (fun hHeld => ?_)
            clear hK K
            refine norm_ (a' := ?_) ?_ ?_
            rotate_left
            ·show Act.put _ (some 86) _ = _
             simp only [Act.put, List.setIfInBounds_toArray, List.set_cons_zero, List.set_cons_succ, i64_w, i32_w]
             rfl
            refine one_ (i := 4) (N := some 87) #[true, true, true, true, true, false, false, false, false, false, false, false, false, false, false, false, false, false, false, false, false, false, false, false, false, false, false, false, false, false, false, false, false, false, false, false, false, false, false, false, false, false, false, false, false, false, false, false, false, false, false, false, false, false, false, false, false, false, false] rfl rfl (one_of HT_.out (by kernel_rfl)) (by decide) (fun K hK => ?_)
            refine goes_ Try.func20 (by kernel_rfl) rfl #[.agg #[.slice Ao151 t431.length co151, .slice Ao152 t434.length co152]] (by rfl) rfl rfl zm ?_
            with_reducible refine (handshakerref20_Right.calls _ _ t431 _ _ t434 t437 _ ?side1 ?side2 ?side3 ?side4 A20.out).mono ?_
            (case side1 => repeat (first | exact (Kd.V_reads' HO433.out).2.2 | (with_reducible refine Kd.C_alloc ?_ _) | (with_reducible refine Kd.C_drewN ?_ _) | (with_reducible refine Kd.C_drew ?_)))
            (case side2 => exact (Kd.V_reads' HO433.out).2.1)
            (case side3 => repeat (first | exact (Kd.V_reads' HO436.out).2.2 | (with_reducible refine Kd.C_alloc ?_ _) | (with_reducible refine Kd.C_drewN ?_ _) | (with_reducible refine Kd.C_drew ?_)))
            (case side4 => exact (Kd.V_reads' HO436.out).2.1)
            rintro e w153 ⟨rfl, hb⟩
            refine ⟨_, rfl, ?_⟩
            replace HO338 := zVb HO338 hb
            replace HO341 := zVb HO341 hb
            replace HO346 := zVb HO346 hb
            replace HO349 := zVb HO349 hb
            replace HO352 := zVb HO352 hb
            replace HO355 := zVb HO355 hb
            replace HO360 := zVb HO360 hb
            replace HO363 := zVb HO363 hb
            replace HO366 := zVb HO366 hb
            replace HO370 := zVb HO370 hb
            replace HO373 := zVb HO373 hb
            replace HO376 := zVb HO376 hb
            replace HO379 := zVb HO379 hb
            replace HO382 := zRb HO382 hb
            replace HO386 := zVb HO386 hb
            replace HO389 := zVb HO389 hb
            replace HO394 := zVb HO394 hb
            replace HO397 := zVb HO397 hb
            replace HO400 := zVb HO400 hb
            replace HO403 := zVb HO403 hb
            replace HO408 := zVb HO408 hb
            replace HO411 := zVb HO411 hb
            replace HO417 := zVb HO417 hb
            replace HO420 := zVb HO420 hb
            replace HO423 := zVb HO423 hb
            replace HO426 := zVb HO426 hb
            replace HO433 := zVb HO433 hb
            replace HO436 := zVb HO436 hb
            replace BK333 := zbb BK333 hb
            replace BK343 := zbb BK343 hb
            replace BK357 := zbb BK357 hb
            replace BK367 := zbb BK367 hb
            replace BK383 := zbb BK383 hb
            replace BK391 := zbb BK391 hb
            replace BK405 := zbb BK405 hb
            replace BK414 := zbb BK414 hb
            replace BK429 := zbb BK429 hb
            replace HB := am (below_step (by repeat (first | (with_reducible first | exact HB.out | apply below_alloc | apply pw_below_drewN | apply below_drew1 | refine below_set ?_ GE333.out | refine below_set ?_ GE343.out | refine below_set ?_ GE357.out | refine below_set ?_ GE367.out | refine below_set ?_ GE383.out | refine below_set ?_ GE391.out | refine below_set ?_ GE405.out | refine below_set ?_ GE414.out | refine below_set ?_ GE429.out) | exact HB.out)) hb)
            (try clear hb)
            (try clear hb2)
            (try clear hk)
            (try clear hi)
            refine hK.out _ _ ⟨(blk_cell BK333.out 0).trans rfl, (blk_cell BK333.out 1).trans rfl, (blk_cell BK343.out 0).trans rfl, (blk_cell BK343.out 1).trans rfl, (blk_cell BK357.out 0).trans rfl, (blk_cell BK357.out 1).trans rfl, (blk_cell BK367.out 0).trans rfl, (blk_cell BK367.out 1).trans rfl, (blk_cell BK383.out 0).trans rfl, (blk_cell BK383.out 1).trans rfl, (blk_cell BK391.out 0).trans rfl, (blk_cell BK391.out 1).trans rfl, (blk_cell BK405.out 0).trans rfl, (blk_cell BK405.out 1).trans rfl, (blk_cell BK414.out 0).trans rfl, (blk_cell BK414.out 1).trans rfl, (blk_cell BK429.out 0).trans rfl, (blk_cell BK429.out 1).trans rfl⟩ (fun hHeld => ?_)
            clear hK K
            refine norm_ (a' := ?_) ?_ ?_
            rotate_left
            ·show Act.put _ (some 87) _ = _
             simp only [Act.put, List.setIfInBounds_toArray, List.set_cons_zero, List.set_cons_succ, i64_w, i32_w]
             rfl
            refine pure_ (i := 5) (N := some 88) (v := ?_) (a' := ?_) #[true, true, true, true, true, true, false, false, false, false, false, false, false, false, false, false, false, false, false, false, false, false, false, false, false, false, false, false, false, false, false, false, false, false, false, false, false, false, false, false, false, false, false, false, false, false, false, false, false, false, false, false, false, false, false, false, false, false, false] rfl rfl (any_of HT_.out (by kernel_rfl)) (fun _ _ _ h => h) (Or.inl ⟨by rfl, ?_⟩) ?_ ?_
            rotate_left
            ·intro w'
             go_simp
             with_reducible rfl
            rotate_left
            ·simp only [Act.put, List.setIfInBounds_toArray, List.set_cons_zero, List.set_cons_succ, i64_w, i32_w]
             rfl
            refine pure_ (i := 6) (N := some 89) (v := ?_) (a' := ?_) #[true, true, true, true, true, true, true, false, false, false, false, false, false, false, false, false, false, false, false, false, false, false, false, false, false, false, false, false, false, false, false, false, false, false, false, false, false, false, false, false, false, false, false, false, false, false, false, false, false, false, false, false, false, false, false, false, false, false, false] rfl rfl (any_of HT_.out (by kernel_rfl)) (fun _ _ _ h => h) (Or.inl ⟨by rfl, ?_⟩) ?_ ?_
            rotate_left
            ·intro w'
             go_simp
             with_reducible rfl
            rotate_left
            ·simp only [Act.put, List.setIfInBounds_toArray, List.set_cons_zero, List.set_cons_succ, i64_w, i32_w]
             rfl
            refine take_ (i := 7) (N := some 90) (v := ?_) (a' := ?_) #[true, true, true, true, true, true, true, true, false, false, false, false, false, false, false, false, false, false, false, false, false, false, false, false, false, false, false, false, false, false, false, false, false, false, false, false, false, false, false, false, false, false, false, false, false, false, false, false, false, false, false, false, false, false, false, false, false, false, false] rfl rfl (take_ofW HT_.out HW_.out (by kernel_rfl)) (fun _ _ _ h => h) (Or.inl ⟨by rfl, ?_⟩) hHeld ?_ ?_
            rotate_left
            ·rintro w' ⟨s0, s1, s2, s3, s4, s5, s6, s7, s8, s9, s10, s11, s12, s13, s14, s15, s16, s17⟩
             go_simp
             with_reducible rfl
            rotate_left
            ·simp only [Act.put, List.setIfInBounds_toArray, List.set_cons_zero, List.set_cons_succ, i64_w, i32_w]
             rfl
            refine take_ (i := 9) (N := some 92) (v := ?_) (a' := ?_) #[true, true, true, true, true, true, true, true, false, true, false, false, false, false, false, false, false, false, false, false, false, false, false, false, false, false, false, false, false, false, false, false, false, false, false, false, false, false, false, false, false, false, false, false, false, false, false, false, false, false, false, false, false, false, false, false, false, false, false] rfl rfl (take_ofW HT_.out HW_.out (by kernel_rfl)) (fun _ _ _ h => h) (Or.inl ⟨by rfl, ?_⟩) hHeld ?_ ?_
            rotate_left
            ·rintro w' ⟨s0, s1, s2, s3, s4, s5, s6, s7, s8, s9, s10, s11, s12, s13, s14, s15, s16, s17⟩
             go_simp
             with_reducible rfl
            rotate_left
            ·simp only [Act.put, List.setIfInBounds_toArray, List.set_cons_zero, List.set_cons_succ, i64_w, i32_w]
             rfl
            refine one_ (i := 8) (N := some 91) #[true, true, true, true, true, true, true, true, true, true, false, false, false, false, false, false, false, false, false, false, false, false, false, false, false, false, false, false, false, false, false, false, false, false, false, false, false, false, false, false, false, false, false, false, false, false, false, false, false, false, false, false, false, false, false, false, false, false, false] rfl rfl (one_of HT_.out (by kernel_rfl)) (by decide) (fun K hK => ?_)
            refine goes_ Try.func12 (by kernel_rfl) rfl #[.agg #[.slice Ao47 t336.length co47, .slice Ao50 t339.length co50]] (by rfl) rfl rfl zm ?_
            with_reducible refine (handshakerlaw20_ref.calls (fun k_ => (some k_ ≠ (v381 : Value).ownBlock ∧ (k_ ≠ gb333 ∧ (k_ ≠ gb343 ∧ (k_ ≠ gb357 ∧ (k_ ≠ gb367 ∧ (k_ ≠ gb383 ∧ (k_ ≠ gb391 ∧ (k_ ≠ gb405 ∧ (k_ ≠ gb414 ∧ k_ ≠ gb429)))))))))) _ _ t336 (fun k_ => (some k_ ≠ (v381 : Value).ownBlock ∧ (k_ ≠ gb333 ∧ (k_ ≠ gb343 ∧ (k_ ≠ gb357 ∧ (k_ ≠ gb367 ∧ (k_ ≠ gb383 ∧ (k_ ≠ gb391 ∧ (k_ ≠ gb405 ∧ (k_ ≠ gb414 ∧ k_ ≠ gb429)))))))))) _ _ t339 t438 t441 _ ?side1 ?side2 A22.out).mono ?_
            (case side1 => exact HO338.out)
            (case side2 => exact HO341.out)
            rintro e w154 ⟨v439, v442, rfl, ho0, ho1, hb⟩
            refine ⟨_, rfl, ?_⟩
            replace HO338 := zVb HO338 hb
            replace HO341 := zVb HO341 hb
            replace HO346 := zVb HO346 hb
            replace HO349 := zVb HO349 hb
            replace HO352 := zVb HO352 hb
            replace HO355 := zVb HO355 hb
            replace HO360 := zVb HO360 hb
            replace HO363 := zVb HO363 hb
            replace HO366 := zVb HO366 hb
            replace HO370 := zVb HO370 hb
            replace HO373 := zVb HO373 hb
            replace HO376 := zVb HO376 hb
            replace HO379 := zVb HO379 hb
            replace HO386 := zVb HO386 hb
            replace HO389 := zVb HO389 hb
            replace HO394 := zVb HO394 hb
            replace HO397 := zVb HO397 hb
            replace HO400 := zVb HO400 hb
            replace HO403 := zVb HO403 hb
            replace HO408 := zVb HO408 hb
            replace HO411 := zVb HO411 hb
            replace HO417 := zVb HO417 hb
            replace HO420 := zVb HO420 hb
            replace HO423 := zVb HO423 hb
            replace HO426 := zVb HO426 hb
            replace HO433 := zVb HO433 hb
            replace HO436 := zVb HO436 hb
            have HO440 := am (Kd.V_lower (Kd.V_mono (ok' := fun k_ => some k_ ≠ (v381 : Value).ownBlock ∧ k_ ≠ gb333 ∧ k_ ≠ gb343 ∧ k_ ≠ gb357 ∧ k_ ≠ gb367 ∧ k_ ≠ gb383 ∧ k_ ≠ gb391 ∧ k_ ≠ gb405 ∧ k_ ≠ gb414 ∧ k_ ≠ gb429) ho0 (fun k_ hk_ => ⟨Or.elim hk_ (fun hs_ => Or.elim hs_ (fun hs_ => hs_.1) (fun hs_ => hs_.1)) (fun hn_ => (Kd.fresh' (Kd.R_lt (zR HO382)) k_ hn_)), Or.elim hk_ (fun hs_ => Or.elim hs_ (fun hs_ => hs_.2.1) (fun hs_ => hs_.2.1)) (fun hn_ => (zfr gb333 BK333 hn_)), Or.elim hk_ (fun hs_ => Or.elim hs_ (fun hs_ => hs_.2.2.1) (fun hs_ => hs_.2.2.1)) (fun hn_ => (zfr gb343 BK343 hn_)), Or.elim hk_ (fun hs_ => Or.elim hs_ (fun hs_ => hs_.2.2.2.1) (fun hs_ => hs_.2.2.2.1)) (fun hn_ => (zfr gb357 BK357 hn_)), Or.elim hk_ (fun hs_ => Or.elim hs_ (fun hs_ => hs_.2.2.2.2.1) (fun hs_ => hs_.2.2.2.2.1)) (fun hn_ => (zfr gb367 BK367 hn_)), Or.elim hk_ (fun hs_ => Or.elim hs_ (fun hs_ => hs_.2.2.2.2.2.1) (fun hs_ => hs_.2.2.2.2.2.1)) (fun hn_ => (zfr gb383 BK383 hn_)), Or.elim hk_ (fun hs_ => Or.elim hs_ (fun hs_ => hs_.2.2.2.2.2.2.1) (fun hs_ => hs_.2.2.2.2.2.2.1)) (fun hn_ => (zfr gb391 BK391 hn_)), Or.elim hk_ (fun hs_ => Or.elim hs_ (fun hs_ => hs_.2.2.2.2.2.2.2.1) (fun hs_ => hs_.2.2.2.2.2.2.2.1)) (fun hn_ => (zfr gb405 BK405 hn_)), Or.elim hk_ (fun hs_ => Or.elim hs_ (fun hs_ => hs_.2.2.2.2.2.2.2.2.1) (fun hs_ => hs_.2.2.2.2.2.2.2.2.1)) (fun hn_ => (zfr gb414 BK414 hn_)), Or.elim hk_ (fun hs_ => Or.elim hs_ (fun hs_ => hs_.2.2.2.2.2.2.2.2.2) (fun hs_ => hs_.2.2.2.2.2.2.2.2.2)) (fun hn_ => (zfr gb429 BK429 hn_))⟩)) (below_size (by repeat (first | (with_reducible first | exact HB.out | apply below_alloc | apply pw_below_drewN | apply below_drew1 | refine below_set ?_ GE333.out | refine below_set ?_ GE343.out | refine below_set ?_ GE357.out | refine below_set ?_ GE367.out | refine below_set ?_ GE383.out | refine below_set ?_ GE391.out | refine below_set ?_ GE405.out | refine below_set ?_ GE414.out | refine below_set ?_ GE429.out) | exact HB.out))))
            have HO443 := am (Kd.V_lower (Kd.V_mono (ok' := fun k_ => some k_ ≠ (v381 : Value).ownBlock ∧ k_ ≠ gb333 ∧ k_ ≠ gb343 ∧ k_ ≠ gb357 ∧ k_ ≠ gb367 ∧ k_ ≠ gb383 ∧ k_ ≠ gb391 ∧ k_ ≠ gb405 ∧ k_ ≠ gb414 ∧ k_ ≠ gb429) ho1 (fun k_ hk_ => ⟨Or.elim hk_ (fun hs_ => Or.elim hs_ (fun hs_ => hs_.1) (fun hs_ => hs_.1)) (fun hn_ => (Kd.fresh' (Kd.R_lt (zR HO382)) k_ hn_)), Or.elim hk_ (fun hs_ => Or.elim hs_ (fun hs_ => hs_.2.1) (fun hs_ => hs_.2.1)) (fun hn_ => (zfr gb333 BK333 hn_)), Or.elim hk_ (fun hs_ => Or.elim hs_ (fun hs_ => hs_.2.2.1) (fun hs_ => hs_.2.2.1)) (fun hn_ => (zfr gb343 BK343 hn_)), Or.elim hk_ (fun hs_ => Or.elim hs_ (fun hs_ => hs_.2.2.2.1) (fun hs_ => hs_.2.2.2.1)) (fun hn_ => (zfr gb357 BK357 hn_)), Or.elim hk_ (fun hs_ => Or.elim hs_ (fun hs_ => hs_.2.2.2.2.1) (fun hs_ => hs_.2.2.2.2.1)) (fun hn_ => (zfr gb367 BK367 hn_)), Or.elim hk_ (fun hs_ => Or.elim hs_ (fun hs_ => hs_.2.2.2.2.2.1) (fun hs_ => hs_.2.2.2.2.2.1)) (fun hn_ => (zfr gb383 BK383 hn_)), Or.elim hk_ (fun hs_ => Or.elim hs_ (fun hs_ => hs_.2.2.2.2.2.2.1) (fun hs_ => hs_.2.2.2.2.2.2.1)) (fun hn_ => (zfr gb391 BK391 hn_)), Or.elim hk_ (fun hs_ => Or.elim hs_ (fun hs_ => hs_.2.2.2.2.2.2.2.1) (fun hs_ => hs_.2.2.2.2.2.2.2.1)) (fun hn_ => (zfr gb405 BK405 hn_)), Or.elim hk_ (fun hs_ => Or.elim hs_ (fun hs_ => hs_.2.2.2.2.2.2.2.2.1) (fun hs_ => hs_.2.2.2.2.2.2.2.2.1)) (fun hn_ => (zfr gb414 BK414 hn_)), Or.elim hk_ (fun hs_ => Or.elim hs_ (fun hs_ => hs_.2.2.2.2.2.2.2.2.2) (fun hs_ => hs_.2.2.2.2.2.2.2.2.2)) (fun hn_ => (zfr gb429 BK429 hn_))⟩)) (below_size (by repeat (first | (with_reducible first | exact HB.out | apply below_alloc | apply pw_below_drewN | apply below_drew1 | refine below_set ?_ GE333.out | refine below_set ?_ GE343.out | refine below_set ?_ GE357.out | refine below_set ?_ GE367.out | refine below_set ?_ GE383.out | refine below_set ?_ GE391.out | refine below_set ?_ GE405.out | refine below_set ?_ GE414.out | refine below_set ?_ GE429.out) | exact HB.out))))
            replace HO382 := zRb HO382 hb
            replace BK333 := zbb BK333 hb
            replace BK343 := zbb BK343 hb
            replace BK357 := zbb BK357 hb
            replace BK367 := zbb BK367 hb
            replace BK383 := zbb BK383 hb
            replace BK391 := zbb BK391 hb
            replace BK405 := zbb BK405 hb
            replace BK414 := zbb BK414 hb
            replace BK429 := zbb BK429 hb
            replace HB := am (below_step (by repeat (first | (with_reducible first | exact HB.out | apply below_alloc | apply pw_below_drewN | apply below_drew1 | refine below_set ?_ GE333.out | refine below_set ?_ GE343.out | refine below_set ?_ GE357.out | refine below_set ?_ GE367.out | refine below_set ?_ GE383.out | refine below_set ?_ GE391.out | refine below_set ?_ GE405.out | refine below_set ?_ GE414.out | refine below_set ?_ GE429.out) | exact HB.out)) hb)
            (try clear hb)
            (try clear hb2)
            (try clear hk)
            (try clear hi)
            (try clear ho0)
            (try clear ho1)
            obtain ⟨Ao155, co155, eo155⟩ := Kd.V_slice HO440.out
            (first | subst eo155 | (injection eo155 with f1_ f2_ f3_; have f4_ := f1_.symm; have f5_ := f3_.symm; clear f1_ f2_ f3_; subst f4_; subst f5_))
            obtain ⟨Ao156, co156, eo156⟩ := Kd.V_slice HO443.out
            (first | subst eo156 | (injection eo156 with f1_ f2_ f3_; have f4_ := f1_.symm; have f5_ := f3_.symm; clear f1_ f2_ f3_; subst f4_; subst f5_))
            refine hK.out _ _ ⟨(blk_cell BK333.out 0).trans rfl, (blk_cell BK333.out 1).trans rfl, (blk_cell BK343.out 0).trans rfl, (blk_cell BK343.out 1).trans rfl, (blk_cell BK357.out 0).trans rfl, (blk_cell BK357.out 1).trans rfl, (blk_cell BK367.out 0).trans rfl, (blk_cell BK367.out 1).trans rfl, (blk_cell BK383.out 0).trans rfl, (blk_cell BK383.out 1).trans rfl, (blk_cell BK391.out 0).trans rfl, (blk_cell BK391.out 1).trans rfl, (blk_cell BK405.out 0).trans rfl, (blk_cell BK405.out 1).trans rfl, (blk_cell BK414.out 0).trans rfl, (blk_cell BK414.out 1).trans rfl, (blk_cell BK429.out 0).trans rfl, (blk_cell BK429.out 1).trans rfl⟩ (fun hHeld => ?_)
            clear hK K
            refine norm_ (a' := ?_) ?_ ?_
            rotate_left
            ·show Act.put _ (some 91) _ = _
             simp only [Act.put, List.setIfInBounds_toArray, List.set_cons_zero, List.set_cons_succ, i64_w, i32_w]
             rfl
            refine one_ (i := 10) (N := some 93) #[true, true, true, true, true, true, true, true, true, true, true, false, false, false, false, false, false, false, false, false, false, false, false, false, false, false, false, false, false, false, false, false, false, false, false, false, false, false, false, false, false, false, false, false, false, false, false, false, false, false, false, false, false, false, false, false, false, false, false] rfl rfl (one_of HT_.out (by kernel_rfl)) (by decide) (fun K hK => ?_)
            refine goes_ Try.func21 (by kernel_rfl) rfl #[.agg #[.slice Ao155 t438.length co155, .slice Ao156 t441.length co156], .agg #[.slice Ao58 t350.length co58, .slice Ao62 t353.length co62]] (by rfl) rfl rfl zm ?_
            with_reducible refine (handshakerref20_Same.calls k _ _ t438 _ _ t441 _ _ t350 _ _ t353 true _ ?side1 ?side2 ?side3 ?side4 ?side5 ?side6 ?side7 ?side8 A23.out).mono ?_
            (case side1 => repeat (first | exact (Kd.V_reads' HO440.out).2.2 | (with_reducible refine Kd.C_alloc ?_ _) | (with_reducible refine Kd.C_drewN ?_ _) | (with_reducible refine Kd.C_drew ?_)))
            (case side2 => exact (Kd.V_reads' HO440.out).2.1)
            (case side3 => repeat (first | exact (Kd.V_reads' HO443.out).2.2 | (with_reducible refine Kd.C_alloc ?_ _) | (with_reducible refine Kd.C_drewN ?_ _) | (with_reducible refine Kd.C_drew ?_)))
            (case side4 => exact (Kd.V_reads' HO443.out).2.1)
            (case side5 => repeat (first | exact (Kd.V_reads' HO352.out).2.2 | (with_reducible refine Kd.C_alloc ?_ _) | (with_reducible refine Kd.C_drewN ?_ _) | (with_reducible refine Kd.C_drew ?_)))
            (case side6 => exact (Kd.V_reads' HO352.out).2.1)
            (case side7 => repeat (first | exact (Kd.V_reads' HO355.out).2.2 | (with_reducible refine Kd.C_alloc ?_ _) | (with_reducible refine Kd.C_drewN ?_ _) | (with_reducible refine Kd.C_drew ?_)))
            (case side8 => exact (Kd.V_reads' HO355.out).2.1)
            rintro e w157 ⟨rfl, hb⟩
            refine ⟨_, rfl, ?_⟩
            replace HO338 := zVb HO338 hb
            replace HO341 := zVb HO341 hb
            replace HO346 := zVb HO346 hb
            replace HO349 := zVb HO349 hb
            replace HO352 := zVb HO352 hb
            replace HO355 := zVb HO355 hb
            replace HO360 := zVb HO360 hb
            replace HO363 := zVb HO363 hb
            replace HO366 := zVb HO366 hb
            replace HO370 := zVb HO370 hb
            replace HO373 := zVb HO373 hb
            replace HO376 := zVb HO376 hb
            replace HO379 := zVb HO379 hb
            replace HO382 := zRb HO382 hb
            replace HO386 := zVb HO386 hb
            replace HO389 := zVb HO389 hb
            replace HO394 := zVb HO394 hb
            replace HO397 := zVb HO397 hb
            replace HO400 := zVb HO400 hb
            replace HO403 := zVb HO403 hb
            replace HO408 := zVb HO408 hb
            replace HO411 := zVb HO411 hb
            replace HO417 := zVb HO417 hb
            replace HO420 := zVb HO420 hb
            replace HO423 := zVb HO423 hb
            replace HO426 := zVb HO426 hb
            replace HO433 := zVb HO433 hb
            replace HO436 := zVb HO436 hb
            replace HO440 := zVb HO440 hb
            replace HO443 := zVb HO443 hb
            replace BK333 := zbb BK333 hb
            replace BK343 := zbb BK343 hb
            replace BK357 := zbb BK357 hb
            replace BK367 := zbb BK367 hb
            replace BK383 := zbb BK383 hb
            replace BK391 := zbb BK391 hb
            replace BK405 := zbb BK405 hb
            replace BK414 := zbb BK414 hb
            replace BK429 := zbb BK429 hb
            replace HB := am (below_step (by repeat (first | (with_reducible first | exact HB.out | apply below_alloc | apply pw_below_drewN | apply below_drew1 | refine below_set ?_ GE333.out | refine below_set ?_ GE343.out | refine below_set ?_ GE357.out | refine below_set ?_ GE367.out | refine below_set ?_ GE383.out | refine below_set ?_ GE391.out | refine below_set ?_ GE405.out | refine below_set ?_ GE414.out | refine below_set ?_ GE429.out) | exact HB.out)) hb)
            (try clear hb)
            (try clear hb2)
            (try clear hk)
            (try clear hi)
            refine hK.out _ _ ⟨(blk_cell BK333.out 0).trans rfl, (blk_cell BK333.out 1).trans rfl, (blk_cell BK343.out 0).trans rfl, (blk_cell BK343.out 1).trans rfl, (blk_cell BK357.out 0).trans rfl, (blk_cell BK357.out 1).trans rfl, (blk_cell BK367.out 0).trans rfl, (blk_cell BK367.out 1).trans rfl, (blk_cell BK383.out 0).trans rfl, (blk_cell BK383.out 1).trans rfl, (blk_cell BK391.out 0).trans rfl, (blk_cell BK391.out 1).trans rfl, (blk_cell BK405.out 0).trans rfl, (blk_cell BK405.out 1).trans rfl, (blk_cell BK414.out 0).trans rfl, (blk_cell BK414.out 1).trans rfl, (blk_cell BK429.out 0).trans rfl, (blk_cell BK429.out 1).trans rfl⟩ (fun hHeld => ?_)
            clear hK K
            refine norm_ (a' := ?_) ?_ ?_
            rotate_left
            ·show Act.put _ (some 93) _ = _
             simp only [Act.put, List.setIfInBounds_toArray, List.set_cons_zero, List.set_cons_succ, i64_w, i32_w]
             rfl
            refine pure_ (i := 11) (N := some 94) (v := ?_) (a' := ?_) #[true, true, true, true, true, true, true, true, true, true, true, true, false, false, false, false, false, false, false, false, false, false, false, false, false, false, false, false, false, false, false, false, false, false, false, false, false, false, false, false, false, false, false, false, false, false, false, false, false, false, false, false, false, false, false, false, false, false, false] rfl rfl (any_of HT_.out (by kernel_rfl)) (fun _ _ _ h => h) (Or.inl ⟨by rfl, ?_⟩) ?_ ?_
            rotate_left
            ·intro w'
             go_simp
             with_reducible rfl
            rotate_left
            ·simp only [Act.put, List.setIfInBounds_toArray, List.set_cons_zero, List.set_cons_succ, i64_w, i32_w]
             rfl
            refine pure_ (i := 12) (N := some 95) (v := ?_) (a' := ?_) #[true, true, true, true, true, true, true, true, true, true, true, true, true, false, false, false, false, false, false, false, false, false, false, false, false, false, false, false, false, false, false, false, false, false, false, false, false, false, false, false, false, false, false, false, false, false, false, false, false, false, false, false, false, false, false, false, false, false, false] rfl rfl (any_of HT_.out (by kernel_rfl)) (fun _ _ _ h => h) (Or.inl ⟨by rfl, ?_⟩) ?_ ?_
            rotate_left
            ·intro w'
             go_simp
             with_reducible rfl
            rotate_left
            ·simp only [Act.put, List.setIfInBounds_toArray, List.set_cons_zero, List.set_cons_succ, i64_w, i32_w]
             rfl
            refine pure_ (i := 13) (N := some 96) (v := ?_) (a' := ?_) #[true, true, true, true, true, true, true, true, true, true, true, true, true, true, false, false, false, false, false, false, false, false, false, false, false, false, false, false, false, false, false, false, false, false, false, false, false, false, false, false, false, false, false, false, false, false, false, false, false, false, false, false, false, false, false, false, false, false, false] rfl rfl (any_of HT_.out (by kernel_rfl)) (fun _ _ _ h => h) (Or.inl ⟨by rfl, ?_⟩) ?_ ?_
            rotate_left
            ·intro w'
             go_simp
             with_reducible rfl
            rotate_left
            ·simp only [Act.put, List.setIfInBounds_toArray, List.set_cons_zero, List.set_cons_succ, i64_w, i32_w]
             rfl
            refine pure_ (i := 14) (N := some 97) (v := ?_) (a' := ?_) #[true, true, true, true, true, true, true, true, true, true, true, true, true, true, true, false, false, false, false, false, false, false, false, false, false, false, false, false, false, false, false, false, false, false, false, false, false, false, false, false, false, false, false, false, false, false, false, false, false, false, false, false, false, false, false, false, false, false, false] rfl rfl (any_of HT_.out (by kernel_rfl)) (fun _ _ _ h => h) (Or.inl ⟨by rfl, ?_⟩) ?_ ?_
            rotate_left
            ·intro w'
             go_simp
             with_reducible rfl
            rotate_left
            ·simp only [Act.put, List.setIfInBounds_toArray, List.set_cons_zero, List.set_cons_succ, i64_w, i32_w]
             rfl
            refine pure_ (i := 15) (N := some 98) (v := ?_) (a' := ?_) #[true, true, true, true, true, true, true, true, true, true, true, true, true, true, true, true, false, false, false, false, false, false, false, false, false, false, false, false, false, false, false, false, false, false, false, false, false, false, false, false, false, false, false, false, false, false, false, false, false, false, false, false, false, false, false, false, false, false, false] rfl rfl (any_of HT_.out (by kernel_rfl)) (fun _ _ _ h => h) (Or.inl ⟨by rfl, ?_⟩) ?_ ?_
            rotate_left
            ·intro w'
             go_simp
             with_reducible rfl
            rotate_left
            ·simp only [Act.put, List.setIfInBounds_toArray, List.set_cons_zero, List.set_cons_succ, i64_w, i32_w]
             rfl
            refine pure_ (i := 16) (N := some 99) (v := ?_) (a' := ?_) #[true, true, true, true, true, true, true, true, true, true, true, true, true, true, true, true, true, false, false, false, false, false, false, false, false, false, false, false, false, false, false, false, false, false, false, false, false, false, false, false, false, false, false, false, false, false, false, false, false, false, false, false, false, false, false, false, false, false, false] rfl rfl (any_of HT_.out (by kernel_rfl)) (fun _ _ _ h => h) (Or.inl ⟨by rfl, ?_⟩) ?_ ?_
            rotate_left
            ·intro w'
             go_simp
             with_reducible rfl
            rotate_left
            ·simp only [Act.put, List.setIfInBounds_toArray, List.set_cons_zero, List.set_cons_succ, i64_w, i32_w]
             rfl
            refine pure_ (i := 17) (N := some 100) (v := ?_) (a' := ?_) #[true, true, true, true, true, true, true, true, true, true, true, true, true, true, true, true, true, true, false, false, false, false, false, false, false, false, false, false, false, false, false, false, false, false, false, false, false, false, false, false, false, false, false, false, false, false, false, false, false, false, false, false, false, false, false, false, false, false, false] rfl rfl (any_of HT_.out (by kernel_rfl)) (fun _ _ _ h => h) (Or.inl ⟨by rfl, ?_⟩) ?_ ?_
            rotate_left
            ·intro w'
             go_simp
             with_reducible rfl
            rotate_left
            ·simp only [Act.put, List.setIfInBounds_toArray, List.set_cons_zero, List.set_cons_succ, i64_w, i32_w]
             rfl
            refine take_ (i := 18) (N := some 101) (v := ?_) (a' := ?_) #[true, true, true, true, true, true, true, true, true, true, true, true, true, true, true, true, true, true, true, false, false, false, false, false, false, false, false, false, false, false, false, false, false, false, false, false, false, false, false, false, false, false, false, false, false, false, false, false, false, false, false, false, false, false, false, false, false, false, false] rfl rfl (take_ofW HT_.out HW_.out (by kernel_rfl)) (fun _ _ _ h => h) (Or.inl ⟨by rfl, ?_⟩) hHeld ?_ ?_
            rotate_left
            ·rintro w' ⟨s0, s1, s2, s3, s4, s5, s6, s7, s8, s9, s10, s11, s12, s13, s14, s15, s16, s17⟩
             go_simp
             with_reducible rfl
            rotate_left
            ·simp only [Act.put, List.setIfInBounds_toArray, List.set_cons_zero, List.set_cons_succ, i64_w, i32_w]
             rfl
            refine take_ (i := 20) (N := some 103) (v := ?_) (a' := ?_) #[true, true, true, true, true, true, true, true, true, true, true, true, true, true, true, true, true, true, true, false, true, false, false, false, false, false, false, false, false, false, false, false, false, false, false, false, false, false, false, false, false, false, false, false, false, false, false, false, false, false, false, false, false, false, false, false, false, false, false] rfl rfl (take_ofW HT_.out HW_.out (by kernel_rfl)) (fun _ _ _ h => h) (Or.inl ⟨by rfl, ?_⟩) hHeld ?_ ?_
            rotate_left
            ·rintro w' ⟨s0, s1, s2, s3, s4, s5, s6, s7, s8, s9, s10, s11, s12, s13, s14, s15, s16, s17⟩
             go_simp
             with_reducible rfl
            rotate_left
            ·simp only [Act.put, List.setIfInBounds_toArray, List.set_cons_zero, List.set_cons_succ, i64_w, i32_w]
             rfl
            refine one_ (i := 19) (N := some 102) #[true, true, true, true, true, true, true, true, true, true, true, true, true, true, true, true, true, true, true, true, true, false, false, false, false, false, false, false, false, false, false, false, false, false, false, false, false, false, false, false, false, false, false, false, false, false, false, false, false, false, false, false, false, false, false, false, false, false, false] rfl rfl (one_of HT_.out (by kernel_rfl)) (by decide) (fun K hK => ?_)
            refine goes_ Try.func12 (by kernel_rfl) rfl #[.agg #[.slice Ao67 t358.length co67, .slice Ao72 t361.length co72]] (by rfl) rfl rfl zm ?_
            with_reducible refine (handshakerlaw20_ref.calls (fun k_ => (some k_ ≠ (v381 : Value).ownBlock ∧ (k_ ≠ gb333 ∧ (k_ ≠ gb343 ∧ (k_ ≠ gb357 ∧ (k_ ≠ gb367 ∧ (k_ ≠ gb383 ∧ (k_ ≠ gb391 ∧ (k_ ≠ gb405 ∧ (k_ ≠ gb414 ∧ k_ ≠ gb429)))))))))) _ _ t358 (fun k_ => (some k_ ≠ (v381 : Value).ownBlock ∧ (k_ ≠ gb333 ∧ (k_ ≠ gb343 ∧ (k_ ≠ gb357 ∧ (k_ ≠ gb367 ∧ (k_ ≠ gb383 ∧ (k_ ≠ gb391 ∧ (k_ ≠ gb405 ∧ (k_ ≠ gb414 ∧ k_ ≠ gb429)))))))))) _ _ t361 t445 t448 _ ?side1 ?side2 A26.out).mono ?_
            (case side1 => exact HO360.out)
            (case side2 => exact HO363.out)
            rintro e w158 ⟨v446, v449, rfl, ho0, ho1, hb⟩
            refine ⟨_, rfl, ?_⟩
            replace HO338 := zVb HO338 hb
            replace HO341 := zVb HO341 hb
            replace HO346 := zVb HO346 hb
            replace HO349 := zVb HO349 hb
            replace HO352 := zVb HO352 hb
            replace HO355 := zVb HO355 hb
            replace HO360 := zVb HO360 hb
            replace HO363 := zVb HO363 hb
            replace HO366 := zVb HO366 hb
            replace HO370 := zVb HO370 hb
            replace HO373 := zVb HO373 hb
            replace HO376 := zVb HO376 hb
            replace HO379 := zVb HO379 hb
            replace HO386 := zVb HO386 hb
            replace HO389 := zVb HO389 hb
            replace HO394 := zVb HO394 hb
            replace HO397 := zVb HO397 hb
            replace HO400 := zVb HO400 hb
            replace HO403 := zVb HO403 hb
            replace HO408 := zVb HO408 hb
            replace HO411 := zVb HO411 hb
            replace HO417 := zVb HO417 hb
            replace HO420 := zVb HO420 hb
            replace HO423 := zVb HO423 hb
            replace HO426 := zVb HO426 hb
            replace HO433 := zVb HO433 hb
            replace HO436 := zVb HO436 hb
            replace HO440 := zVb HO440 hb
            replace HO443 := zVb HO443 hb
            have HO447 := am (Kd.V_lower (Kd.V_mono (ok' := fun k_ => some k_ ≠ (v381 : Value).ownBlock ∧ k_ ≠ gb333 ∧ k_ ≠ gb343 ∧ k_ ≠ gb357 ∧ k_ ≠ gb367 ∧ k_ ≠ gb383 ∧ k_ ≠ gb391 ∧ k_ ≠ gb405 ∧ k_ ≠ gb414 ∧ k_ ≠ gb429) ho0 (fun k_ hk_ => ⟨Or.elim hk_ (fun hs_ => Or.elim hs_ (fun hs_ => hs_.1) (fun hs_ => hs_.1)) (fun hn_ => (Kd.fresh' (Kd.R_lt (zR HO382)) k_ hn_)), Or.elim hk_ (fun hs_ => Or.elim hs_ (fun hs_ => hs_.2.1) (fun hs_ => hs_.2.1)) (fun hn_ => (zfr gb333 BK333 hn_)), Or.elim hk_ (fun hs_ => Or.elim hs_ (fun hs_ => hs_.2.2.1) (fun hs_ => hs_.2.2.1)) (fun hn_ => (zfr gb343 BK343 hn_)), Or.elim hk_ (fun hs_ => Or.elim hs_ (fun hs_ => hs_.2.2.2.1) (fun hs_ => hs_.2.2.2.1)) (fun hn_ => (zfr gb357 BK357 hn_)), Or.elim hk_ (fun hs_ => Or.elim hs_ (fun hs_ => hs_.2.2.2.2.1) (fun hs_ => hs_.2.2.2.2.1)) (fun hn_ => (zfr gb367 BK367 hn_)), Or.elim hk_ (fun hs_ => Or.elim hs_ (fun hs_ => hs_.2.2.2.2.2.1) (fun hs_ => hs_.2.2.2.2.2.1)) (fun hn_ => (zfr gb383 BK383 hn_)), Or.elim hk_ (fun hs_ => Or.elim hs_ (fun hs_ => hs_.2.2.2.2.2.2.1) (fun hs_ => hs_.2.2.2.2.2.2.1)) (fun hn_ => (zfr gb391 BK391 hn_)), Or.elim hk_ (fun hs_ => Or.elim hs_ (fun hs_ => hs_.2.2.2.2.2.2.2.1) (fun hs_ => hs_.2.2.2.2.2.2.2.1)) (fun hn_ => (zfr gb405 BK405 hn_)), Or.elim hk_ (fun hs_ => Or.elim hs_ (fun hs_ => hs_.2.2.2.2.2.2.2.2.1) (fun hs_ => hs_.2.2.2.2.2.2.2.2.1)) (fun hn_ => (zfr gb414 BK414 hn_)), Or.elim hk_ (fun hs_ => Or.elim hs_ (fun hs_ => hs_.2.2.2.2.2.2.2.2.2) (fun hs_ => hs_.2.2.2.2.2.2.2.2.2)) (fun hn_ => (zfr gb429 BK429 hn_))⟩)) (below_size (by repeat (first | (with_reducible first | exact HB.out | apply below_alloc | apply pw_below_drewN | apply below_drew1 | refine below_set ?_ GE333.out | refine below_set ?_ GE343.out | refine below_set ?_ GE357.out | refine below_set ?_ GE367.out | refine below_set ?_ GE383.out | refine below_set ?_ GE391.out | refine below_set ?_ GE405.out | refine below_set ?_ GE414.out | refine below_set ?_ GE429.out) | exact HB.out))))
            have HO450 := am (Kd.V_lower (Kd.V_mono (ok' := fun k_ => some k_ ≠ (v381 : Value).ownBlock ∧ k_ ≠ gb333 ∧ k_ ≠ gb343 ∧ k_ ≠ gb357 ∧ k_ ≠ gb367 ∧ k_ ≠ gb383 ∧ k_ ≠ gb391 ∧ k_ ≠ gb405 ∧ k_ ≠ gb414 ∧ k_ ≠ gb429) ho1 (fun k_ hk_ => ⟨Or.elim hk_ (fun hs_ => Or.elim hs_ (fun hs_ => hs_.1) (fun hs_ => hs_.1)) (fun hn_ => (Kd.fresh' (Kd.R_lt (zR HO382)) k_ hn_)), Or.elim hk_ (fun hs_ => Or.elim hs_ (fun hs_ => hs_.2.1) (fun hs_ => hs_.2.1)) (fun hn_ => (zfr gb333 BK333 hn_)), Or.elim hk_ (fun hs_ => Or.elim hs_ (fun hs_ => hs_.2.2.1) (fun hs_ => hs_.2.2.1)) (fun hn_ => (zfr gb343 BK343 hn_)), Or.elim hk_ (fun hs_ => Or.elim hs_ (fun hs_ => hs_.2.2.2.1) (fun hs_ => hs_.2.2.2.1)) (fun hn_ => (zfr gb357 BK357 hn_)), Or.elim hk_ (fun hs_ => Or.elim hs_ (fun hs_ => hs_.2.2.2.2.1) (fun hs_ => hs_.2.2.2.2.1)) (fun hn_ => (zfr gb367 BK367 hn_)), Or.elim hk_ (fun hs_ => Or.elim hs_ (fun hs_ => hs_.2.2.2.2.2.1) (fun hs_ => hs_.2.2.2.2.2.1)) (fun hn_ => (zfr gb383 BK383 hn_)), Or.elim hk_ (fun hs_ => Or.elim hs_ (fun hs_ => hs_.2.2.2.2.2.2.1) (fun hs_ => hs_.2.2.2.2.2.2.1)) (fun hn_ => (zfr gb391 BK391 hn_)), Or.elim hk_ (fun hs_ => Or.elim hs_ (fun hs_ => hs_.2.2.2.2.2.2.2.1) (fun hs_ => hs_.2.2.2.2.2.2.2.1)) (fun hn_ => (zfr gb405 BK405 hn_)), Or.elim hk_ (fun hs_ => Or.elim hs_ (fun hs_ => hs_.2.2.2.2.2.2.2.2.1) (fun hs_ => hs_.2.2.2.2.2.2.2.2.1)) (fun hn_ => (zfr gb414 BK414 hn_)), Or.elim hk_ (fun hs_ => Or.elim hs_ (fun hs_ => hs_.2.2.2.2.2.2.2.2.2) (fun hs_ => hs_.2.2.2.2.2.2.2.2.2)) (fun hn_ => (zfr gb429 BK429 hn_))⟩)) (below_size (by repeat (first | (with_reducible first | exact HB.out | apply below_alloc | apply pw_below_drewN | apply below_drew1 | refine below_set ?_ GE333.out | refine below_set ?_ GE343.out | refine below_set ?_ GE357.out | refine below_set ?_ GE367.out | refine below_set ?_ GE383.out | refine below_set ?_ GE391.out | refine below_set ?_ GE405.out | refine below_set ?_ GE414.out | refine below_set ?_ GE429.out) | exact HB.out))))
            replace HO382 := zRb HO382 hb
            replace BK333 := zbb BK333 hb
            replace BK343 := zbb BK343 hb
            replace BK357 := zbb BK357 hb
            replace BK367 := zbb BK367 hb
            replace BK383 := zbb BK383 hb
            replace BK391 := zbb BK391 hb
            replace BK405 := zbb BK405 hb
            replace BK414 := zbb BK414 hb
            replace BK429 := zbb BK429 hb
            replace HB := am (below_step (by repeat (first | (with_reducible first | exact HB.out | apply below_alloc | apply pw_below_drewN | apply below_drew1 | refine below_set ?_ GE333.out | refine below_set ?_ GE343.out | refine below_set ?_ GE357.out | refine below_set ?_ GE367.out | refine below_set ?_ GE383.out | refine below_set ?_ GE391.out | refine below_set ?_ GE405.out | refine below_set ?_ GE414.out | refine below_set ?_ GE429.out) | exact HB.out)) hb)
            (try clear hb)
            (try clear hb2)
            (try clear hk)
            (try clear hi)
            (try clear ho0)
            (try clear ho1)
            obtain ⟨Ao159, co159, eo159⟩ := Kd.V_slice HO447.out
            (first | subst eo159 | (injection eo159 with f1_ f2_ f3_; have f4_ := f1_.symm; have f5_ := f3_.symm; clear f1_ f2_ f3_; subst f4_; subst f5_))
            obtain ⟨Ao160, co160, eo160⟩ := Kd.V_slice HO450.out
            (first | subst eo160 | (injection eo160 with f1_ f2_ f3_; have f4_ := f1_.symm; have f5_ := f3_.symm; clear f1_ f2_ f3_; subst f4_; subst f5_))
            refine hK.out _ _ ⟨(blk_cell BK333.out 0).trans rfl, (blk_cell BK333.out 1).trans rfl, (blk_cell BK343.out 0).trans rfl, (blk_cell BK343.out 1).trans rfl, (blk_cell BK357.out 0).trans rfl, (blk_cell BK357.out 1).trans rfl, (blk_cell BK367.out 0).trans rfl, (blk_cell BK367.out 1).trans rfl, (blk_cell BK383.out 0).trans rfl, (blk_cell BK383.out 1).trans rfl, (blk_cell BK391.out 0).trans rfl, (blk_cell BK391.out 1).trans rfl, (blk_cell BK405.out 0).trans rfl, (blk_cell BK405.out 1).trans rfl, (blk_cell BK414.out 0).trans rfl, (blk_cell BK414.out 1).trans rfl, (blk_cell BK429.out 0).trans rfl, (blk_cell BK429.out 1).trans rfl⟩ (fun hHeld => ?_)
            clear hK K
            refine norm_ (a' := ?_) ?_ ?_
            rotate_left
            ·show Act.put _ (some 102) _ = _
             simp only [Act.put, List.setIfInBounds_toArray, List.set_cons_zero, List.set_cons_succ, i64_w, i32_w]
             rfl
            refine one_ (i := 21) (N := some 104) #[true, true, true, true, true, true, true, true, true, true, true, true, true, true, true, true, true, true, true, true, true, true, false, false, false, false, false, false, false, false, false, false, false, false, false, false, false, false, false, false, false, false, false, false, false, false, false, false, false, false, false, false, false, false, false, false, false, false, false] rfl rfl (one_of HT_.out (by kernel_rfl)) (by decide) (fun K hK => ?_)
            refine goes_ Try.func21 (by kernel_rfl) rfl #[.agg #[.slice Ao159 t445.length co159, .slice Ao160 t448.length co160], .agg #[.slice Ao80 t374.length co80, .slice Ao86 t377.length co86]] (by rfl) rfl rfl zm ?_
            with_reducible refine (handshakerref20_Same.calls k _ _ t445 _ _ t448 _ _ t374 _ _ t377 true _ ?side1 ?side2 ?side3 ?side4 ?side5 ?side6 ?side7 ?side8 A27.out).mono ?_
            (case side1 => repeat (first | exact (Kd.V_reads' HO447.out).2.2 | (with_reducible refine Kd.C_alloc ?_ _) | (with_reducible refine Kd.C_drewN ?_ _) | (with_reducible refine Kd.C_drew ?_)))
            (case side2 => exact (Kd.V_reads' HO447.out).2.1)
            (case side3 => repeat (first | exact (Kd.V_reads' HO450.out).2.2 | (with_reducible refine Kd.C_alloc ?_ _) | (with_reducible refine Kd.C_drewN ?_ _) | (with_reducible refine Kd.C_drew ?_)))
            (case side4 => exact (Kd.V_reads' HO450.out).2.1)
            (case side5 => repeat (first | exact (Kd.V_reads' HO376.out).2.2 | (with_reducible refine Kd.C_alloc ?_ _) | (with_reducible refine Kd.C_drewN ?_ _) | (with_reducible refine Kd.C_drew ?_)))
            (case side6 => exact (Kd.V_reads' HO376.out).2.1)
            (case side7 => repeat (first | exact (Kd.V_reads' HO379.out).2.2 | (with_reducible refine Kd.C_alloc ?_ _) | (with_reducible refine Kd.C_drewN ?_ _) | (with_reducible refine Kd.C_drew ?_)))
            (case side8 => exact (Kd.V_reads' HO379.out).2.1)
            rintro e w161 ⟨rfl, hb⟩
            refine ⟨_, rfl, ?_⟩
            replace HO338 := zVb HO338 hb
            replace HO341 := zVb HO341 hb
            replace HO346 := zVb HO346 hb
            replace HO349 := zVb HO349 hb
            replace HO352 := zVb HO352 hb
            replace HO355 := zVb HO355 hb
            replace HO360 := zVb HO360 hb
            replace HO363 := zVb HO363 hb
            replace HO366 := zVb HO366 hb
            replace HO370 := zVb HO370 hb
            replace HO373 := zVb HO373 hb
            replace HO376 := zVb HO376 hb
            replace HO379 := zVb HO379 hb
            replace HO382 := zRb HO382 hb
            replace HO386 := zVb HO386 hb
            replace HO389 := zVb HO389 hb
            replace HO394 := zVb HO394 hb
            replace HO397 := zVb HO397 hb
            replace HO400 := zVb HO400 hb
            replace HO403 := zVb HO403 hb
            replace HO408 := zVb HO408 hb
            replace HO411 := zVb HO411 hb
            replace HO417 := zVb HO417 hb
            replace HO420 := zVb HO420 hb
            replace HO423 := zVb HO423 hb
            replace HO426 := zVb HO426 hb
            replace HO433 := zVb HO433 hb
            replace HO436 := zVb HO436 hb
            replace HO440 := zVb HO440 hb
            replace HO443 := zVb HO443 hb
            replace HO447 := zVb HO447 hb
            replace HO450 := zVb HO450 hb
            replace BK333 := zbb BK333 hb
            replace BK343 := zbb BK343 hb
            replace BK357 := zbb BK357 hb
            replace BK367 := zbb BK367 hb
            replace BK383 := zbb BK383 hb
            replace BK391 := zbb BK391 hb
            replace BK405 := zbb BK405 hb
            replace BK414 := zbb BK414 hb
            replace BK429 := zbb BK429 hb
            replace HB := am (below_step (by repeat (first | (with_reducible first | exact HB.out | apply below_alloc | apply pw_below_drewN | apply below_drew1 | refine below_set ?_ GE333.out | refine below_set ?_ GE343.out | refine below_set ?_ GE357.out | refine below_set ?_ GE367.out | refine below_set ?_ GE383.out | refine below_set ?_ GE391.out | refine below_set ?_ GE405.out | refine below_set ?_ GE414.out | refine below_set ?_ GE429.out) | exact HB.out)) hb)
            (try clear hb)
            (try clear hb2)
            (try clear hk)
            (try clear hi)
            obtain ⟨Ao162, co162, eo162⟩ := Kd.V_slice HO366.out
            (first | subst eo162 | (injection eo162 with f1_ f2_ f3_; have f4_ := f1_.symm; have f5_ := f3_.symm; clear f1_ f2_ f3_; subst f4_; subst f5_))
            obtain ⟨Ao163, co163, eo163⟩ := Kd.R_slice HO382.out
            (first | subst eo163 | (injection eo163 with f1_ f2_ f3_; have f4_ := f1_.symm; have f5_ := f3_.symm; clear f1_ f2_ f3_; subst f4_; subst f5_))
            refine hK.out _ _ ⟨(blk_cell BK333.out 0).trans rfl, (blk_cell BK333.out 1).trans rfl, (blk_cell BK343.out 0).trans rfl, (blk_cell BK343.out 1).trans rfl, (blk_cell BK357.out 0).trans rfl, (blk_cell BK357.out 1).trans rfl, (blk_cell BK367.out 0).trans rfl, (blk_cell BK367.out 1).trans rfl, (blk_cell BK383.out 0).trans rfl, (blk_cell BK383.out 1).trans rfl, (blk_cell BK391.out 0).trans rfl, (blk_cell BK391.out 1).trans rfl, (blk_cell BK405.out 0).trans rfl, (blk_cell BK405.out 1).trans rfl, (blk_cell BK414.out 0).trans rfl, (blk_cell BK414.out 1).trans rfl, (blk_cell BK429.out 0).trans rfl, (blk_cell BK429.out 1).trans rfl⟩ (fun hHeld => ?_)
            clear hK K
            refine norm_ (a' := ?_) ?_ ?_
            rotate_left
            ·show Act.put _ (some 104) _ = _
             simp only [Act.put, List.setIfInBounds_toArray, List.set_cons_zero, List.set_cons_succ, i64_w, i32_w]
             rfl
            refine pure_ (i := 22) (N := some 105) (v := ?_) (a' := ?_) #[true, true, true, true, true, true, true, true, true, true, true, true, true, true, true, true, true, true, true, true, true, true, true, false, false, false, false, false, false, false, false, false, false, false, false, false, false, false, false, false, false, false, false, false, false, false, false, false, false, false, false, false, false, false, false, false, false, false, false] rfl rfl (any_of HT_.out (by kernel_rfl)) (fun _ _ _ h => h) (Or.inl ⟨by rfl, ?_⟩) ?_ ?_
            rotate_left
            ·intro w'
             go_simp
             with_reducible rfl
            rotate_left
            ·simp only [Act.put, List.setIfInBounds_toArray, List.set_cons_zero, List.set_cons_succ, i64_w, i32_w]
             rfl
            refine pure_ (i := 23) (N := some 106) (v := ?_) (a' := ?_) #[true, true, true, true, true, true, true, true, true, true, true, true, true, true, true, true, true, true, true, true, true, true, true, true, false, false, false, false, false, false, false, false, false, false, false, false, false, false, false, false, false, false, false, false, false, false, false, false, false, false, false, false, false, false, false, false, false, false, false] rfl rfl (any_of HT_.out (by kernel_rfl)) (fun _ _ _ h => h) (Or.inl ⟨by rfl, ?_⟩) ?_ ?_
            rotate_left
            ·intro w'
             go_simp
             with_reducible rfl
            rotate_left
            ·simp only [Act.put, List.setIfInBounds_toArray, List.set_cons_zero, List.set_cons_succ, i64_w, i32_w]
             rfl
            refine pure_ (i := 24) (N := some 107) (v := ?_) (a' := ?_) #[true, true, true, true, true, true, true, true, true, true, true, true, true, true, true, true, true, true, true, true, true, true, true, true, true, false, false, false, false, false, false, false, false, false, false, false, false, false, false, false, false, false, false, false, false, false, false, false, false, false, false, false, false, false, false, false, false, false, false] rfl rfl (any_of HT_.out (by kernel_rfl)) (fun _ _ _ h => h) (Or.inl ⟨by rfl, ?_⟩) ?_ ?_
            rotate_left
            ·intro w'
             go_simp
             with_reducible rfl
            rotate_left
            ·simp only [Act.put, List.setIfInBounds_toArray, List.set_cons_zero, List.set_cons_succ, i64_w, i32_w]
             rfl
            refine pure_ (i := 25) (N := some 108) (v := ?_) (a' := ?_) #[true, true, true, true, true, true, true, true, true, true, true, true, true, true, true, true, true, true, true, true, true, true, true, true, true, true, false, false, false, false, false, false, false, false, false, false, false, false, false, false, false, false, false, false, false, false, false, false, false, false, false, false, false, false, false, false, false, false, false] rfl rfl (any_of HT_.out (by kernel_rfl)) (fun _ _ _ h => h) (Or.inl ⟨by rfl, ?_⟩) ?_ ?_
            rotate_left
            ·intro w'
             go_simp
             with_reducible rfl
            rotate_left
            ·simp only [Act.put, List.setIfInBounds_toArray, List.set_cons_zero, List.set_cons_succ, i64_w, i32_w]
             rfl
            refine one_ (i := 26) (N := some 109) #[true, true, true, true, true, true, true, true, true, true, true, true, true, true, true, true, true, true, true, true, true, true, true, true, true, true, true, false, false, false, false, false, false, false, false, false, false, false, false, false, false, false, false, false, false, false, false, false, false, false, false, false, false, false, false, false, false, false, false] rfl rfl (one_of HT_.out (by kernel_rfl)) (by decide) (fun K hK => ?_)
            refine goes_ Try.func22 (by kernel_rfl) rfl #[.slice Ao162 t364.length co162, .slice Ao163 t380.length co163] (by rfl) rfl rfl zm ?_
            with_reducible refine (handshakerref03_Numbers.calls k _ _ t364 _ _ t380 true _ ?side1 ?side2 ?side3 ?side4 A29.out).mono ?_
            (case side1 => repeat (first | exact (Kd.V_reads' HO366.out).2.2 | (with_reducible refine Kd.C_alloc ?_ _) | (with_reducible refine Kd.C_drewN ?_ _) | (with_reducible refine Kd.C_drew ?_)))
            (case side2 => exact (Kd.V_reads' HO366.out).2.1)
            (case side3 => repeat (first | exact (Kd.R_reads' HO382.out).2.2 | (with_reducible refine Kd.C_alloc ?_ _) | (with_reducible refine Kd.C_drewN ?_ _) | (with_reducible refine Kd.C_drew ?_)))
            (case side4 => exact (Kd.R_reads' HO382.out).2.1)
            rintro e w' ⟨rfl, ⟨nd, rfl⟩⟩
            refine ⟨_, rfl, ?_⟩
            refine hK.out _ _ ⟨(blk_cell BK333.out 0).trans rfl, (blk_cell BK333.out 1).trans rfl, (blk_cell BK343.out 0).trans rfl, (blk_cell BK343.out 1).trans rfl, (blk_cell BK357.out 0).trans rfl, (blk_cell BK357.out 1).trans rfl, (blk_cell BK367.out 0).trans rfl, (blk_cell BK367.out 1).trans rfl, (blk_cell BK383.out 0).trans rfl, (blk_cell BK383.out 1).trans rfl, (blk_cell BK391.out 0).trans rfl, (blk_cell BK391.out 1).trans rfl, (blk_cell BK405.out 0).trans rfl, (blk_cell BK405.out 1).trans rfl, (blk_cell BK414.out 0).trans rfl, (blk_cell BK414.out 1).trans rfl, (blk_cell BK429.out 0).trans rfl, (blk_cell BK429.out 1).trans rfl⟩ (fun hHeld => ?_)
            clear hK K
            refine norm_ (a' := ?_) ?_ ?_
            rotate_left
            ·show Act.put _ (some 109) _ = _
             simp only [Act.put, List.setIfInBounds_toArray, List.set_cons_zero, List.set_cons_succ, i64_w, i32_w]
             rfl
            refine pure_ (i := 27) (N := some 110) (v := ?_) (a' := ?_) #[true, true, true, true, true, true, true, true, true, true, true, true, true, true, true, true, true, true, true, true, true, true, true, true, true, true, true, true, false, false, false, false, false, false, false, false, false, false, false, false, false, false, false, false, false, false, false, false, false, false, false, false, false, false, false, false, false, false, false] rfl rfl (any_of HT_.out (by kernel_rfl)) (fun _ _ _ h => h) (Or.inl ⟨by rfl, ?_⟩) ?_ ?_
            rotate_left
            ·intro w'
             go_simp
             with_reducible rfl
            rotate_left
            ·simp only [Act.put, List.setIfInBounds_toArray, List.set_cons_zero, List.set_cons_succ, i64_w, i32_w]
             rfl
            refine pure_ (i := 28) (N := some 111) (v := ?_) (a' := ?_) #[true, true, true, true, true, true, true, true, true, true, true, true, true, true, true, true, true, true, true, true, true, true, true, true, true, true, true, true, true, false, false, false, false, false, false, false, false, false, false, false, false, false, false, false, false, false, false, false, false, false, false, false, false, false, false, false, false, false, false] rfl rfl (any_of HT_.out (by kernel_rfl)) (fun _ _ _ h => h) (Or.inl ⟨by rfl, ?_⟩) ?_ ?_
            rotate_left
            ·intro w'
             go_simp
             with_reducible rfl
            rotate_left
            ·simp only [Act.put, List.setIfInBounds_toArray, List.set_cons_zero, List.set_cons_succ, i64_w, i32_w]
             rfl
            refine take_ (i := 29) (N := some 112) (v := ?_) (a' := ?_) #[true, true, true, true, true, true, true, true, true, true, true, true, true, true, true, true, true, true, true, true, true, true, true, true, true, true, true, true, true, true, false, false, false, false, false, false, false, false, false, false, false, false, false, false, false, false, false, false, false, false, false, false, false, false, false, false, false, false, false] rfl rfl (take_ofW HT_.out HW_.out (by kernel_rfl)) (fun _ _ _ h => h) (Or.inl ⟨by rfl, ?_⟩) hHeld ?_ ?_
            rotate_left
            ·rintro w' ⟨s0, s1, s2, s3, s4, s5, s6, s7, s8, s9, s10, s11, s12, s13, s14, s15, s16, s17⟩
             go_simp
             with_reducible rfl
            rotate_left
            ·simp only [Act.put, List.setIfInBounds_toArray, List.set_cons_zero, List.set_cons_succ, i64_w, i32_w]
             rfl
            refine take_ (i := 31) (N := some 114) (v := ?_) (a' := ?_) #[true, true, true, true, true, true, true, true, true, true, true, true, true, true, true, true, true, true, true, true, true, true, true, true, true, true, true, true, true, true, false, true, false, false, false, false, false, false, false, false, false, false, false, false, false, false, false, false, false, false, false, false, false, false, false, false, false, false, false] rfl rfl (take_ofW HT_.out HW_.out (by kernel_rfl)) (fun _ _ _ h => h) (Or.inl ⟨by rfl, ?_⟩) hHeld ?_ ?_
            rotate_left
            ·rintro w' ⟨s0, s1, s2, s3, s4, s5, s6, s7, s8, s9, s10, s11, s12, s13, s14, s15, s16, s17⟩
             go_simp
             with_reducible rfl
            rotate_left
            ·simp only [Act.put, List.setIfInBounds_toArray, List.set_cons_zero, List.set_cons_succ, i64_w, i32_w]
             rfl
            refine one_ (i := 30) (N := some 113) #[true, true, true, true, true, true, true, true, true, true, true, true, true, true, true, true, true, true, true, true, true, true, true, true, true, true, true, true, true, true, true, true, false, false, false, false, false, false, false, false, false, false, false, false, false, false, false, false, false, false, false, false, false, false, false, false, false, false, false] rfl rfl (one_of HT_.out (by kernel_rfl)) (by decide) (fun K hK => ?_)
            refine goes_ Try.func12 (by kernel_rfl) rfl #[.agg #[.slice Ao91 t384.length co91, .slice Ao98 t387.length co98]] (by rfl) rfl rfl zm ?_
            with_reducible refine (handshakerlaw20_ref.calls (fun k_ => (some k_ ≠ (.slice Ao163 t380.length co163 : Value).ownBlock ∧ (k_ ≠ gb333 ∧ (k_ ≠ gb343 ∧ (k_ ≠ gb357 ∧ (k_ ≠ gb367 ∧ (k_ ≠ gb383 ∧ (k_ ≠ gb391 ∧ (k_ ≠ gb405 ∧ (k_ ≠ gb414 ∧ k_ ≠ gb429)))))))))) _ _ t384 (fun k_ => (some k_ ≠ (.slice Ao163 t380.length co163 : Value).ownBlock ∧ (k_ ≠ gb333 ∧ (k_ ≠ gb343 ∧ (k_ ≠ gb357 ∧ (k_ ≠ gb367 ∧ (k_ ≠ gb383 ∧ (k_ ≠ gb391 ∧ (k_ ≠ gb405 ∧ (k_ ≠ gb414 ∧ k_ ≠ gb429)))))))))) _ _ t387 t453 t456 _ ?side1 ?side2 A31.out).mono ?_
            (case side1 => exact HO386.out)
            (case side2 => exact HO389.out)
            rintro e w164 ⟨v454, v457, rfl, ho0, ho1, hb⟩
            refine ⟨_, rfl, ?_⟩
            replace HO338 := zVb HO338 hb
            replace HO341 := zVb HO341 hb
            replace HO346 := zVb HO346 hb
            replace HO349 := zVb HO349 hb
            replace HO352 := zVb HO352 hb
            replace HO355 := zVb HO355 hb
            replace HO360 := zVb HO360 hb
            replace HO363 := zVb HO363 hb
            replace HO366 := zVb HO366 hb
            replace HO370 := zVb HO370 hb
            replace HO373 := zVb HO373 hb
            replace HO376 := zVb HO376 hb
            replace HO379 := zVb HO379 hb
            replace HO386 := zVb HO386 hb
            replace HO389 := zVb HO389 hb
            replace HO394 := zVb HO394 hb
            replace HO397 := zVb HO397 hb
            replace HO400 := zVb HO400 hb
            replace HO403 := zVb HO403 hb
            replace HO408 := zVb HO408 hb
            replace HO411 := zVb HO411 hb
            replace HO417 := zVb HO417 hb
            replace HO420 := zVb HO420 hb
            replace HO423 := zVb HO423 hb
            replace HO426 := zVb HO426 hb
            replace HO433 := zVb HO433 hb
            replace HO436 := zVb HO436 hb
            replace HO440 := zVb HO440 hb
            replace HO443 := zVb HO443 hb
            replace HO447 := zVb HO447 hb
            replace HO450 := zVb HO450 hb
            have HO455 := am (Kd.V_lower (Kd.V_mono (ok' := fun k_ => some k_ ≠ (.slice Ao163 t380.length co163 : Value).ownBlock ∧ k_ ≠ gb333 ∧ k_ ≠ gb343 ∧ k_ ≠ gb357 ∧ k_ ≠ gb367 ∧ k_ ≠ gb383 ∧ k_ ≠ gb391 ∧ k_ ≠ gb405 ∧ k_ ≠ gb414 ∧ k_ ≠ gb429) ho0 (fun k_ hk_ => ⟨Or.elim hk_ (fun hs_ => Or.elim hs_ (fun hs_ => hs_.1) (fun hs_ => hs_.1)) (fun hn_ => (Kd.fresh' (Kd.R_lt (zR HO382)) k_ hn_)), Or.elim hk_ (fun hs_ => Or.elim hs_ (fun hs_ => hs_.2.1) (fun hs_ => hs_.2.1)) (fun hn_ => (zfr gb333 BK333 hn_)), Or.elim hk_ (fun hs_ => Or.elim hs_ (fun hs_ => hs_.2.2.1) (fun hs_ => hs_.2.2.1)) (fun hn_ => (zfr gb343 BK343 hn_)), Or.elim hk_ (fun hs_ => Or.elim hs_ (fun hs_ => hs_.2.2.2.1) (fun hs_ => hs_.2.2.2.1)) (fun hn_ => (zfr gb357 BK357 hn_)), Or.elim hk_ (fun hs_ => Or.elim hs_ (fun hs_ => hs_.2.2.2.2.1) (fun hs_ => hs_.2.2.2.2.1)) (fun hn_ => (zfr gb367 BK367 hn_)), Or.elim hk_ (fun hs_ => Or.elim hs_ (fun hs_ => hs_.2.2.2.2.2.1) (fun hs_ => hs_.2.2.2.2.2.1)) (fun hn_ => (zfr gb383 BK383 hn_)), Or.elim hk_ (fun hs_ => Or.elim hs_ (fun hs_ => hs_.2.2.2.2.2.2.1) (fun hs_ => hs_.2.2.2.2.2.2.1)) (fun hn_ => (zfr gb391 BK391 hn_)), Or.elim hk_ (fun hs_ => Or.elim hs_ (fun hs_ => hs_.2.2.2.2.2.2.2.1) (fun hs_ => hs_.2.2.2.2.2.2.2.1)) (fun hn_ => (zfr gb405 BK405 hn_)), Or.elim hk_ (fun hs_ => Or.elim hs_ (fun hs_ => hs_.2.2.2.2.2.2.2.2.1) (fun hs_ => hs_.2.2.2.2.2.2.2.2.1)) (fun hn_ => (zfr gb414 BK414 hn_)), Or.elim hk_ (fun hs_ => Or.elim hs_ (fun hs_ => hs_.2.2.2.2.2.2.2.2.2) (fun hs_ => hs_.2.2.2.2.2.2.2.2.2)) (fun hn_ => (zfr gb429 BK429 hn_))⟩)) (below_size (by repeat (first | (with_reducible first | exact HB.out | apply below_alloc | apply pw_below_drewN | apply below_drew1 | refine below_set ?_ GE333.out | refine below_set ?_ GE343.out | refine below_set ?_ GE357.out | refine below_set ?_ GE367.out | refine below_set ?_ GE383.out | refine below_set ?_ GE391.out | refine below_set ?_ GE405.out | refine below_set ?_ GE414.out | refine below_set ?_ GE429.out) | exact HB.out))))
            have HO458 := am (Kd.V_lower (Kd.V_mono (ok' := fun k_ => some k_ ≠ (.slice Ao163 t380.length co163 : Value).ownBlock ∧ k_ ≠ gb333 ∧ k_ ≠ gb343 ∧ k_ ≠ gb357 ∧ k_ ≠ gb367 ∧ k_ ≠ gb383 ∧ k_ ≠ gb391 ∧ k_ ≠ gb405 ∧ k_ ≠ gb414 ∧ k_ ≠ gb429) ho1 (fun k_ hk_ => ⟨Or.elim hk_ (fun hs_ => Or.elim hs_ (fun hs_ => hs_.1) (fun hs_ => hs_.1)) (fun hn_ => (Kd.fresh' (Kd.R_lt (zR HO382)) k_ hn_)), Or.elim hk_ (fun hs_ => Or.elim hs_ (fun hs_ => hs_.2.1) (fun hs_ => hs_.2.1)) (fun hn_ => (zfr gb333 BK333 hn_)), Or.elim hk_ (fun hs_ => Or.elim hs_ (fun hs_ => hs_.2.2.1) (fun hs_ => hs_.2.2.1)) (fun hn_ => (zfr gb343 BK343 hn_)), Or.elim hk_ (fun hs_ => Or.elim hs_ (fun hs_ => hs_.2.2.2.1) (fun hs_ => hs_.2.2.2.1)) (fun hn_ => (zfr gb357 BK357 hn_)), Or.elim hk_ (fun hs_ => Or.elim hs_ (fun hs_ => hs_.2.2.2.2.1) (fun hs_ => hs_.2.2.2.2.1)) (fun hn_ => (zfr gb367 BK367 hn_)), Or.elim hk_ (fun hs_ => Or.elim hs_ (fun hs_ => hs_.2.2.2.2.2.1) (fun hs_ => hs_.2.2.2.2.2.1)) (fun hn_ => (zfr gb383 BK383 hn_)), Or.elim hk_ (fun hs_ => Or.elim hs_ (fun hs_ => hs_.2.2.2.2.2.2.1) (fun hs_ => hs_.2.2.2.2.2.2.1)) (fun hn_ => (zfr gb391 BK391 hn_)), Or.elim hk_ (fun hs_ => Or.elim hs_ (fun hs_ => hs_.2.2.2.2.2.2.2.1) (fun hs_ => hs_.2.2.2.2.2.2.2.1)) (fun hn_ => (zfr gb405 BK405 hn_)), Or.elim hk_ (fun hs_ => Or.elim hs_ (fun hs_ => hs_.2.2.2.2.2.2.2.2.1) (fun hs_ => hs_.2.2.2.2.2.2.2.2.1)) (fun hn_ => (zfr gb414 BK414 hn_)), Or.elim hk_ (fun hs_ => Or.elim hs_ (fun hs_ => hs_.2.2.2.2.2.2.2.2.2) (fun hs_ => hs_.2.2.2.2.2.2.2.2.2)) (fun hn_ => (zfr gb429 BK429 hn_))⟩)) (below_size (by repeat (first | (with_reducible first | exact HB.out | apply below_alloc | apply pw_below_drewN | apply below_drew1 | refine below_set ?_ GE333.out | refine below_set ?_ GE343.out | refine below_set ?_ GE357.out | refine below_set ?_ GE367.out | refine below_set ?_ GE383.out | refine below_set ?_ GE391.out | refine below_set ?_ GE405.out | refine below_set ?_ GE414.out | refine below_set ?_ GE429.out) | exact HB.out))))
            replace HO382 := zRb HO382 hb
            replace BK333 := zbb BK333 hb
            replace BK343 := zbb BK343 hb
            replace BK357 := zbb BK357 hb
            replace BK367 := zbb BK367 hb
            replace BK383 := zbb BK383 hb
            replace BK391 := zbb BK391 hb
            replace BK405 := zbb BK405 hb
            replace BK414 := zbb BK414 hb
            replace BK429 := zbb BK429 hb
            replace HB := am (below_step (by repeat (first | (with_reducible first | exact HB.out | apply below_alloc | apply pw_below_drewN | apply below_drew1 | refine below_set ?_ GE333.out | refine below_set ?_ GE343.out | refine below_set ?_ GE357.out | refine below_set ?_ GE367.out | refine below_set ?_ GE383.out | refine below_set ?_ GE391.out | refine below_set ?_ GE405.out | refine below_set ?_ GE414.out | refine below_set ?_ GE429.out) | exact HB.out)) hb)
            (try clear hb)
            (try clear hb2)
            (try clear hk)
            (try clear hi)
            (try clear ho0)
            (try clear ho1)
            obtain ⟨Ao165, co165, eo165⟩ := Kd.V_slice HO455.out
            (first | subst eo165 | (injection eo165 with f1_ f2_ f3_; have f4_ := f1_.symm; have f5_ := f3_.symm; clear f1_ f2_ f3_; subst f4_; subst f5_))
            obtain ⟨Ao166, co166, eo166⟩ := Kd.V_slice HO458.out
            (first | subst eo166 | (injection eo166 with f1_ f2_ f3_; have f4_ := f1_.symm; have f5_ := f3_.symm; clear f1_ f2_ f3_; subst f4_; subst f5_))
            refine hK.out _ _ ⟨(blk_cell BK333.out 0).trans rfl, (blk_cell BK333.out 1).trans rfl, (blk_cell BK343.out 0).trans rfl, (blk_cell BK343.out 1).trans rfl, (blk_cell BK357.out 0).trans rfl, (blk_cell BK357.out 1).trans rfl, (blk_cell BK367.out 0).trans rfl, (blk_cell BK367.out 1).trans rfl, (blk_cell BK383.out 0).trans rfl, (blk_cell BK383.out 1).trans rfl, (blk_cell BK391.out 0).trans rfl, (blk_cell BK391.out 1).trans rfl, (blk_cell BK405.out 0).trans rfl, (blk_cell BK405.out 1).trans rfl, (blk_cell BK414.out 0).trans rfl, (blk_cell BK414.out 1).trans rfl, (blk_cell BK429.out 0).trans rfl, (blk_cell BK429.out 1).trans rfl⟩ (fun hHeld => ?_)
            clear hK K
            refine norm_ (a' := ?_) ?_ ?_
            rotate_left
            ·show Act.put _ (some 113) _ = _
             simp only [Act.put, List.setIfInBounds_toArray, List.set_cons_zero, List.set_cons_succ, i64_w, i32_w]
             rfl
            refine one_ (i := 32) (N := some 115) #[true, true, true, true, true, true, true, true, true, true, true, true, true, true, true, true, true, true, true, true, true, true, true, true, true, true, true, true, true, true, true, true, true, false, false, false, false, false, false, false, false, false, false, false, false, false, false, false, false, false, false, false, false, false, false, false, false, false, false] rfl rfl (one_of HT_.out (by kernel_rfl)) (by decide) (fun K hK => ?_)
            refine goes_ Try.func21 (by kernel_rfl) rfl #[.agg #[.slice Ao165 t453.length co165, .slice Ao166 t456.length co166], .agg #[.slice Ao106 t398.length co106, .slice Ao114 t401.length co114]] (by rfl) rfl rfl zm ?_
            with_reducible refine (handshakerref20_Same.calls k _ _ t453 _ _ t456 _ _ t398 _ _ t401 true _ ?side1 ?side2 ?side3 ?side4 ?side5 ?side6 ?side7 ?side8 A32.out).mono ?_
            (case side1 => repeat (first | exact (Kd.V_reads' HO455.out).2.2 | (with_reducible refine Kd.C_alloc ?_ _) | (with_reducible refine Kd.C_drewN ?_ _) | (with_reducible refine Kd.C_drew ?_)))
            (case side2 => exact (Kd.V_reads' HO455.out).2.1)
            (case side3 => repeat (first | exact (Kd.V_reads' HO458.out).2.2 | (with_reducible refine Kd.C_alloc ?_ _) | (with_reducible refine Kd.C_drewN ?_ _) | (with_reducible refine Kd.C_drew ?_)))
            (case side4 => exact (Kd.V_reads' HO458.out).2.1)
            (case side5 => repeat (first | exact (Kd.V_reads' HO400.out).2.2 | (with_reducible refine Kd.C_alloc ?_ _) | (with_reducible refine Kd.C_drewN ?_ _) | (with_reducible refine Kd.C_drew ?_)))
            (case side6 => exact (Kd.V_reads' HO400.out).2.1)
            (case side7 => repeat (first | exact (Kd.V_reads' HO403.out).2.2 | (with_reducible refine Kd.C_alloc ?_ _) | (with_reducible refine Kd.C_drewN ?_ _) | (with_reducible refine Kd.C_drew ?_)))
            (case side8 => exact (Kd.V_reads' HO403.out).2.1)
            rintro e w167 ⟨rfl, hb⟩
            refine ⟨_, rfl, ?_⟩
            replace HO338 := zVb HO338 hb
            replace HO341 := zVb HO341 hb
            replace HO346 := zVb HO346 hb
            replace HO349 := zVb HO349 hb
            replace HO352 := zVb HO352 hb
            replace HO355 := zVb HO355 hb
            replace HO360 := zVb HO360 hb
            replace HO363 := zVb HO363 hb
            replace HO366 := zVb HO366 hb
            replace HO370 := zVb HO370 hb
            replace HO373 := zVb HO373 hb
            replace HO376 := zVb HO376 hb
            replace HO379 := zVb HO379 hb
            replace HO382 := zRb HO382 hb
            replace HO386 := zVb HO386 hb
            replace HO389 := zVb HO389 hb
            replace HO394 := zVb HO394 hb
            replace HO397 := zVb HO397 hb
            replace HO400 := zVb HO400 hb
            replace HO403 := zVb HO403 hb
            replace HO408 := zVb HO408 hb
            replace HO411 := zVb HO411 hb
            replace HO417 := zVb HO417 hb
            replace HO420 := zVb HO420 hb
            replace HO423 := zVb HO423 hb
            replace HO426 := zVb HO426 hb
            replace HO433 := zVb HO433 hb
            replace HO436 := zVb HO436 hb
            replace HO440 := zVb HO440 hb
            replace HO443 := zVb HO443 hb
            replace HO447 := zVb HO447 hb
            replace HO450 := zVb HO450 hb
            replace HO455 := zVb HO455 hb
            replace HO458 := zVb HO458 hb
            replace BK333 := zbb BK333 hb
            replace BK343 := zbb BK343 hb
            replace BK357 := zbb BK357 hb
            replace BK367 := zbb BK367 hb
            replace BK383 := zbb BK383 hb
            replace BK391 := zbb BK391 hb
            replace BK405 := zbb BK405 hb
            replace BK414 := zbb BK414 hb
            replace BK429 := zbb BK429 hb
            replace HB := am (below_step (by repeat (first | (with_reducible first | exact HB.out | apply below_alloc | apply pw_below_drewN | apply below_drew1 | refine below_set ?_ GE333.out | refine below_set ?_ GE343.out | refine below_set ?_ GE357.out | refine below_set ?_ GE367.out | refine below_set ?_ GE383.out | refine below_set ?_ GE391.out | refine below_set ?_ GE405.out | refine below_set ?_ GE414.out | refine below_set ?_ GE429.out) | exact HB.out)) hb)
            (try clear hb)
            (try clear hb2)
            (try clear hk)
            (try clear hi)
            refine hK.out _ _ ⟨(blk_cell BK333.out 0).trans rfl, (blk_cell BK333.out 1).trans rfl, (blk_cell BK343.out 0).trans rfl, (blk_cell BK343.out 1).trans rfl, (blk_cell BK357.out 0).trans rfl, (blk_cell BK357.out 1).trans rfl, (blk_cell BK367.out 0).trans rfl, (blk_cell BK367.out 1).trans rfl, (blk_cell BK383.out 0).trans rfl, (blk_cell BK383.out 1).trans rfl, (blk_cell BK391.out 0).trans rfl, (blk_cell BK391.out 1).trans rfl, (blk_cell BK405.out 0).trans rfl, (blk_cell BK405.out 1).trans rfl, (blk_cell BK414.out 0).trans rfl, (blk_cell BK414.out 1).trans rfl, (blk_cell BK429.out 0).trans rfl, (blk_cell BK429.out 1).trans rfl⟩ (fun hHeld => ?_)
            clear hK K
            refine norm_ (a' := ?_) ?_ ?_
            rotate_left
            ·show Act.put _ (some 115) _ = _
             simp only [Act.put, List.setIfInBounds_toArray, List.set_cons_zero, List.set_cons_succ, i64_w, i32_w]
             rfl
            refine pure_ (i := 33) (N := some 116) (v := ?_) (a' := ?_) #[true, true, true, true, true, true, true, true, true, true, true, true, true, true, true, true, true, true, true, true, true, true, true, true, true, true, true, true, true, true, true, true, true, true, false, false, false, false, false, false, false, false, false, false, false, false, false, false, false, false, false, false, false, false, false, false, false, false, false] rfl rfl (any_of HT_.out (by kernel_rfl)) (fun _ _ _ h => h) (Or.inl ⟨by rfl, ?_⟩) ?_ ?_
            rotate_left
            ·intro w'
             go_simp
             with_reducible rfl
            rotate_left
            ·simp only [Act.put, List.setIfInBounds_toArray, List.set_cons_zero, List.set_cons_succ, i64_w, i32_w]
             rfl
            refine pure_ (i := 34) (N := some 117) (v := ?_) (a' := ?_) #[true, true, true, true, true, true, true, true, true, true, true, true, true, true, true, true, true, true, true, true, true, true, true, true, true, true, true, true, true, true, true, true, true, true, true, false, false, false, false, false, false, false, false, false, false, false, false, false, false, false, false, false, false, false, false, false, false, false, false] rfl rfl (any_of HT_.out (by kernel_rfl)) (fun _ _ _ h => h) (Or.inl ⟨by rfl, ?_⟩) ?_ ?_
            rotate_left
            ·intro w'
             go_simp
             with_reducible rfl
            rotate_left
            ·simp only [Act.put, List.setIfInBounds_toArray, List.set_cons_zero, List.set_cons_succ, i64_w, i32_w]
             rfl
            refine pure_ (i := 35) (N := some 118) (v := ?_) (a' := ?_) #[true, true, true, true, true, true, true, true, true, true, true, true, true, true, true, true, true, true, true, true, true, true, true, true, true, true, true, true, true, true, true, true, true, true, true, true, false, false, false, false, false, false, false, false, false, false, false, false, false, false, false, false, false, false, false, false, false, false, false] rfl rfl (any_of HT_.out (by kernel_rfl)) (fun _ _ _ h => h) (Or.inl ⟨by rfl, ?_⟩) ?_ ?_
            rotate_left
            ·intro w'
             go_simp
             with_reducible rfl
            rotate_left
            ·simp only [Act.put, List.setIfInBounds_toArray, List.set_cons_zero, List.set_cons_succ, i64_w, i32_w]
             rfl
            refine pure_ (i := 36) (N := some 119) (v := ?_) (a' := ?_) #[true, true, true, true, true, true, true, true, true, true, true, true, true, true, true, true, true, true, true, true, true, true, true, true, true, true, true, true, true, true, true, true, true, true, true, true, true, false, false, false, false, false, false, false, false, false, false, false, false, false, false, false, false, false, false, false, false, false, false] rfl rfl (any_of HT_.out (by kernel_rfl)) (fun _ _ _ h => h) (Or.inl ⟨by rfl, ?_⟩) ?_ ?_
            rotate_left
            ·intro w'
             go_simp
             with_reducible rfl
            rotate_left
            ·simp only [Act.put, List.setIfInBounds_toArray, List.set_cons_zero, List.set_cons_succ, i64_w, i32_w]
             rfl
            refine pure_ (i := 37) (N := some 120) (v := ?_) (a' := ?_) #[true, true, true, true, true, true, true, true, true, true, true, true, true, true, true, true, true, true, true, true, true, true, true, true, true, true, true, true, true, true, true, true, true, true, true, true, true, true, false, false, false, false, false, false, false, false, false, false, false, false, false, false, false, false, false, false, false, false, false] rfl rfl (any_of HT_.out (by kernel_rfl)) (fun _ _ _ h => h) (Or.inl ⟨by rfl, ?_⟩) ?_ ?_
            rotate_left
            ·intro w'
             go_simp
             with_reducible rfl
            rotate_left
            ·simp only [Act.put, List.setIfInBounds_toArray, List.set_cons_zero, List.set_cons_succ, i64_w, i32_w]
             rfl
            refine pure_ (i := 38) (N := some 121) (v := ?_) (a' := ?_) #[true, true, true, true, true, true, true, true, true, true, true, true, true, true, true, true, true, true, true, true, true, true, true, true, true, true, true, true, true, true, true, true, true, true, true, true, true, true, true, false, false, false, false, false, false, false, false, false, false, false, false, false, false, false, false, false, false, false, false] rfl rfl (any_of HT_.out (by kernel_rfl)) (fun _ _ _ h => h) (Or.inl ⟨by rfl, ?_⟩) ?_ ?_
            rotate_left
            ·intro w'
             go_simp
             with_reducible rfl
            rotate_left
            ·simp only [Act.put, List.setIfInBounds_toArray, List.set_cons_zero, List.set_cons_succ, i64_w, i32_w]
             rfl
            refine pure_ (i := 39) (N := some 122) (v := ?_) (a' := ?_) #[true, true, true, true, true, true, true, true, true, true, true, true, true, true, true, true, true, true, true, true, true, true, true, true, true, true, true, true, true, true, true, true, true, true, true, true, true, true, true, true, false, false, false, false, false, false, false, false, false, false, false, false, false, false, false, false, false, false, false] rfl rfl (any_of HT_.out (by kernel_rfl)) (fun _ _ _ h => h) (Or.inl ⟨by rfl, ?_⟩) ?_ ?_
            rotate_left
            ·intro w'
             go_simp
             with_reducible rfl
            rotate_left
            ·simp only [Act.put, List.setIfInBounds_toArray, List.set_cons_zero, List.set_cons_succ, i64_w, i32_w]
             rfl
            refine take_ (i := 40) (N := some 123) (v := ?_) (a' := ?_) #[true, true, true, true, true, true, true, true, true, true, true, true, true, true, true, true, true, true, true, true, true, true, true, true, true, true, true, true, true, true, true, true, true, true, true, true, true, true, true, true, true, false, false, false, false, false, false, false, false, false, false, false, false, false, false, false, false, false, false] rfl rfl (take_ofW HT_.out HW_.out (by kernel_rfl)) (fun _ _ _ h => h) (Or.inl ⟨by rfl, ?_⟩) hHeld ?_ ?_
            rotate_left
            ·rintro w' ⟨s0, s1, s2, s3, s4, s5, s6, s7, s8, s9, s10, s11, s12, s13, s14, s15, s16, s17⟩
             go_simp
             with_reducible rfl
            rotate_left
            ·simp only [Act.put, List.setIfInBounds_toArray, List.set_cons_zero, List.set_cons_succ, i64_w, i32_w]
             rfl
            refine take_ (i := 42) (N := some 125) (v := ?_) (a' := ?_) #[true, true, true, true, true, true, true, true, true, true, true, true, true, true, true, true, true, true, true, true, true, true, true, true, true, true, true, true, true, true, true, true, true, true, true, true, true, true, true, true, true, false, true, false, false, false, false, false, false, false, false, false, false, false, false, false, false, false, false] rfl rfl (take_ofW HT_.out HW_.out (by kernel_rfl)) (fun _ _ _ h => h) (Or.inl ⟨by rfl, ?_⟩) hHeld ?_ ?_
            rotate_left
            ·rintro w' ⟨s0, s1, s2, s3, s4, s5, s6, s7, s8, s9, s10, s11, s12, s13, s14, s15, s16, s17⟩
             go_simp
             with_reducible rfl
            rotate_left
            ·simp only [Act.put, List.setIfInBounds_toArray, List.set_cons_zero, List.set_cons_succ, i64_w, i32_w]
             rfl
            refine one_ (i := 41) (N := some 124) #[true, true, true, true, true, true, true, true, true, true, true, true, true, true, true, true, true, true, true, true, true, true, true, true, true, true, true, true, true, true, true, true, true, true, true, true, true, true, true, true, true, true, true, false, false, false, false, false, false, false, false, false, false, false, false, false, false, false, false] rfl rfl (one_of HT_.out (by kernel_rfl)) (by decide) (fun K hK => ?_)
            refine goes_ Try.func12 (by kernel_rfl) rfl #[.agg #[.slice Ao119 t406.length co119, .slice Ao128 t409.length co128]] (by rfl) rfl rfl zm ?_
            with_reducible refine (handshakerlaw20_ref.calls (fun k_ => (some k_ ≠ (.slice Ao163 t380.length co163 : Value).ownBlock ∧ (k_ ≠ gb333 ∧ (k_ ≠ gb343 ∧ (k_ ≠ gb357 ∧ (k_ ≠ gb367 ∧ (k_ ≠ gb383 ∧ (k_ ≠ gb391 ∧ (k_ ≠ gb405 ∧ (k_ ≠ gb414 ∧ k_ ≠ gb429)))))))))) _ _ t406 (fun k_ => (some k_ ≠ (.slice Ao163 t380.length co163 : Value).ownBlock ∧ (k_ ≠ gb333 ∧ (k_ ≠ gb343 ∧ (k_ ≠ gb357 ∧ (k_ ≠ gb367 ∧ (k_ ≠ gb383 ∧ (k_ ≠ gb391 ∧ (k_ ≠ gb405 ∧ (k_ ≠ gb414 ∧ k_ ≠ gb429)))))))))) _ _ t409 t460 t463 _ ?side1 ?side2 A35.out).mono ?_
            (case side1 => exact HO408.out)
            (case side2 => exact HO411.out)
            rintro e w168 ⟨v461, v464, rfl, ho0, ho1, hb⟩
            refine ⟨_, rfl, ?_⟩
            replace HO338 := zVb HO338 hb
            replace HO341 := zVb HO341 hb
            replace HO346 := zVb HO346 hb
            replace HO349 := zVb HO349 hb
            replace HO352 := zVb HO352 hb
            replace HO355 := zVb HO355 hb
            replace HO360 := zVb HO360 hb
            replace HO363 := zVb HO363 hb
            replace HO366 := zVb HO366 hb
            replace HO370 := zVb HO370 hb
            replace HO373 := zVb HO373 hb
            replace HO376 := zVb HO376 hb
            replace HO379 := zVb HO379 hb
            replace HO386 := zVb HO386 hb
            replace HO389 := zVb HO389 hb
            replace HO394 := zVb HO394 hb
            replace HO397 := zVb HO397 hb
            replace HO400 := zVb HO400 hb
            replace HO403 := zVb HO403 hb
            replace HO408 := zVb HO408 hb
            replace HO411 := zVb HO411 hb
            replace HO417 := zVb HO417 hb
            replace HO420 := zVb HO420 hb
            replace HO423 := zVb HO423 hb
            replace HO426 := zVb HO426 hb
            replace HO433 := zVb HO433 hb
            replace HO436 := zVb HO436 hb
            replace HO440 := zVb HO440 hb
            replace HO443 := zVb HO443 hb
            replace HO447 := zVb HO447 hb
            replace HO450 := zVb HO450 hb
            replace HO455 := zVb HO455 hb
            replace HO458 := zVb HO458 hb
            have HO462 := am (Kd.V_lower (Kd.V_mono (ok' := fun k_ => some k_ ≠ (.slice Ao163 t380.length co163 : Value).ownBlock ∧ k_ ≠ gb333 ∧ k_ ≠ gb343 ∧ k_ ≠ gb357 ∧ k_ ≠ gb367 ∧ k_ ≠ gb383 ∧ k_ ≠ gb391 ∧ k_ ≠ gb405 ∧ k_ ≠ gb414 ∧ k_ ≠ gb429) ho0 (fun k_ hk_ => ⟨Or.elim hk_ (fun hs_ => Or.elim hs_ (fun hs_ => hs_.1) (fun hs_ => hs_.1)) (fun hn_ => (Kd.fresh' (Kd.R_lt (zR HO382)) k_ hn_)), Or.elim hk_ (fun hs_ => Or.elim hs_ (fun hs_ => hs_.2.1) (fun hs_ => hs_.2.1)) (fun hn_ => (zfr gb333 BK333 hn_)), Or.elim hk_ (fun hs_ => Or.elim hs_ (fun hs_ => hs_.2.2.1) (fun hs_ => hs_.2.2.1)) (fun hn_ => (zfr gb343 BK343 hn_)), Or.elim hk_ (fun hs_ => Or.elim hs_ (fun hs_ => hs_.2.2.2.1) (fun hs_ => hs_.2.2.2.1)) (fun hn_ => (zfr gb357 BK357 hn_)), Or.elim hk_ (fun hs_ => Or.elim hs_ (fun hs_ => hs_.2.2.2.2.1) (fun hs_ => hs_.2.2.2.2.1)) (fun hn_ => (zfr gb367 BK367 hn_)), Or.elim hk_ (fun hs_ => Or.elim hs_ (fun hs_ => hs_.2.2.2.2.2.1) (fun hs_ => hs_.2.2.2.2.2.1)) (fun hn_ => (zfr gb383 BK383 hn_)), Or.elim hk_ (fun hs_ => Or.elim hs_ (fun hs_ => hs_.2.2.2.2.2.2.1) (fun hs_ => hs_.2.2.2.2.2.2.1)) (fun hn_ => (zfr gb391 BK391 hn_)), Or.elim hk_ (fun hs_ => Or.elim hs_ (fun hs_ => hs_.2.2.2.2.2.2.2.1) (fun hs_ => hs_.2.2.2.2.2.2.2.1)) (fun hn_ => (zfr gb405 BK405 hn_)), Or.elim hk_ (fun hs_ => Or.elim hs_ (fun hs_ => hs_.2.2.2.2.2.2.2.2.1) (fun hs_ => hs_.2.2.2.2.2.2.2.2.1)) (fun hn_ => (zfr gb414 BK414 hn_)), Or.elim hk_ (fun hs_ => Or.elim hs_ (fun hs_ => hs_.2.2.2.2.2.2.2.2.2) (fun hs_ => hs_.2.2.2.2.2.2.2.2.2)) (fun hn_ => (zfr gb429 BK429 hn_))⟩)) (below_size (by repeat (first | (with_reducible first | exact HB.out | apply below_alloc | apply pw_below_drewN | apply below_drew1 | refine below_set ?_ GE333.out | refine below_set ?_ GE343.out | refine below_set ?_ GE357.out | refine below_set ?_ GE367.out | refine below_set ?_ GE383.out | refine below_set ?_ GE391.out | refine below_set ?_ GE405.out | refine below_set ?_ GE414.out | refine below_set ?_ GE429.out) | exact HB.out))))
            have HO465 := am (Kd.V_lower (Kd.V_mono (ok' := fun k_ => some k_ ≠ (.slice Ao163 t380.length co163 : Value).ownBlock ∧ k_ ≠ gb333 ∧ k_ ≠ gb343 ∧ k_ ≠ gb357 ∧ k_ ≠ gb367 ∧ k_ ≠ gb383 ∧ k_ ≠ gb391 ∧ k_ ≠ gb405 ∧ k_ ≠ gb414 ∧ k_ ≠ gb429) ho1 (fun k_ hk_ => ⟨Or.elim hk_ (fun hs_ => Or.elim hs_ (fun hs_ => hs_.1) (fun hs_ => hs_.1)) (fun hn_ => (Kd.fresh' (Kd.R_lt (zR HO382)) k_ hn_)), Or.elim hk_ (fun hs_ => Or.elim hs_ (fun hs_ => hs_.2.1) (fun hs_ => hs_.2.1)) (fun hn_ => (zfr gb333 BK333 hn_)), Or.elim hk_ (fun hs_ => Or.elim hs_ (fun hs_ => hs_.2.2.1) (fun hs_ => hs_.2.2.1)) (fun hn_ => (zfr gb343 BK343 hn_)), Or.elim hk_ (fun hs_ => Or.elim hs_ (fun hs_ => hs_.2.2.2.1) (fun hs_ => hs_.2.2.2.1)) (fun hn_ => (zfr gb357 BK357 hn_)), Or.elim hk_ (fun hs_ => Or.elim hs_ (fun hs_ => hs_.2.2.2.2.1) (fun hs_ => hs_.2.2.2.2.1)) (fun hn_ => (zfr gb367 BK367 hn_)), Or.elim hk_ (fun hs_ => Or.elim hs_ (fun hs_ => hs_.2.2.2.2.2.1) (fun hs_ => hs_.2.2.2.2.2.1)) (fun hn_ => (zfr gb383 BK383 hn_)), Or.elim hk_ (fun hs_ => Or.elim hs_ (fun hs_ => hs_.2.2.2.2.2.2.1) (fun hs_ => hs_.2.2.2.2.2.2.1)) (fun hn_ => (zfr gb391 BK391 hn_)), Or.elim hk_ (fun hs_ => Or.elim hs_ (fun hs_ => hs_.2.2.2.2.2.2.2.1) (fun hs_ => hs_.2.2.2.2.2.2.2.1)) (fun hn_ => (zfr gb405 BK405 hn_)), Or.elim hk_ (fun hs_ => Or.elim hs_ (fun hs_ => hs_.2.2.2.2.2.2.2.2.1) (fun hs_ => hs_.2.2.2.2.2.2.2.2.1)) (fun hn_ => (zfr gb414 BK414 hn_)), Or.elim hk_ (fun hs_ => Or.elim hs_ (fun hs_ => hs_.2.2.2.2.2.2.2.2.2) (fun hs_ => hs_.2.2.2.2.2.2.2.2.2)) (fun hn_ => (zfr gb429 BK429 hn_))⟩)) (below_size (by repeat (first | (with_reducible first | exact HB.out | apply below_alloc | apply pw_below_drewN | apply below_drew1 | refine below_set ?_ GE333.out | refine below_set ?_ GE343.out | refine below_set ?_ GE357.out | refine below_set ?_ GE367.out | refine below_set ?_ GE383.out | refine below_set ?_ GE391.out | refine below_set ?_ GE405.out | refine below_set ?_ GE414.out | refine below_set ?_ GE429.out) | exact HB.out))))
            replace HO382 := zRb HO382 hb
            replace BK333 := zbb BK333 hb
            replace BK343 := zbb BK343 hb
            replace BK357 := zbb BK357 hb
            replace BK367 := zbb BK367 hb
            replace BK383 := zbb BK383 hb
            replace BK391 := zbb BK391 hb
            replace BK405 := zbb BK405 hb
            replace BK414 := zbb BK414 hb
            replace BK429 := zbb BK429 hb
            replace HB := am (below_step (by repeat (first | (with_reducible first | exact HB.out | apply below_alloc | apply pw_below_drewN | apply below_drew1 | refine below_set ?_ GE333.out | refine below_set ?_ GE343.out | refine below_set ?_ GE357.out | refine below_set ?_ GE367.out | refine below_set ?_ GE383.out | refine below_set ?_ GE391.out | refine below_set ?_ GE405.out | refine below_set ?_ GE414.out | refine below_set ?_ GE429.out) | exact HB.out)) hb)
            (try clear hb)
            (try clear hb2)
            (try clear hk)
            (try clear hi)
            (try clear ho0)
            (try clear ho1)
            obtain ⟨Ao169, co169, eo169⟩ := Kd.V_slice HO462.out
            (first | subst eo169 | (injection eo169 with f1_ f2_ f3_; have f4_ := f1_.symm; have f5_ := f3_.symm; clear f1_ f2_ f3_; subst f4_; subst f5_))
            obtain ⟨Ao170, co170, eo170⟩ := Kd.V_slice HO465.out
            (first | subst eo170 | (injection eo170 with f1_ f2_ f3_; have f4_ := f1_.symm; have f5_ := f3_.symm; clear f1_ f2_ f3_; subst f4_; subst f5_))
            refine hK.out _ _ ⟨(blk_cell BK333.out 0).trans rfl, (blk_cell BK333.out 1).trans rfl, (blk_cell BK343.out 0).trans rfl, (blk_cell BK343.out 1).trans rfl, (blk_cell BK357.out 0).trans rfl, (blk_cell BK357.out 1).trans rfl, (blk_cell BK367.out 0).trans rfl, (blk_cell BK367.out 1).trans rfl, (blk_cell BK383.out 0).trans rfl, (blk_cell BK383.out 1).trans rfl, (blk_cell BK391.out 0).trans rfl, (blk_cell BK391.out 1).trans rfl, (blk_cell BK405.out 0).trans rfl, (blk_cell BK405.out 1).trans rfl, (blk_cell BK414.out 0).trans rfl, (blk_cell BK414.out 1).trans rfl, (blk_cell BK429.out 0).trans rfl, (blk_cell BK429.out 1).trans rfl⟩ (fun hHeld => ?_)
            clear hK K
            refine norm_ (a' := ?_) ?_ ?_
            rotate_left
            ·show Act.put _ (some 124) _ = _
             simp only [Act.put, List.setIfInBounds_toArray, List.set_cons_zero, List.set_cons_succ, i64_w, i32_w]
             rfl
            refine one_ (i := 43) (N := some 126) #[true, true, true, true, true, true, true, true, true, true, true, true, true, true, true, true, true, true, true, true, true, true, true, true, true, true, true, true, true, true, true, true, true, true, true, true, true, true, true, true, true, true, true, true, false, false, false, false, false, false, false, false, false, false, false, false, false, false, false] rfl rfl (one_of HT_.out (by kernel_rfl)) (by decide) (fun K hK => ?_)
            refine goes_ Try.func21 (by kernel_rfl) rfl #[.agg #[.slice Ao169 t460.length co169, .slice Ao170 t463.length co170], .agg #[.slice Ao136 t421.length co136, .slice Ao146 t424.length co146]] (by rfl) rfl rfl zm ?_
            with_reducible refine (handshakerref20_Same.calls k _ _ t460 _ _ t463 _ _ t421 _ _ t424 true _ ?side1 ?side2 ?side3 ?side4 ?side5 ?side6 ?side7 ?side8 A36.out).mono ?_
            (case side1 => repeat (first | exact (Kd.V_reads' HO462.out).2.2 | (with_reducible refine Kd.C_alloc ?_ _) | (with_reducible refine Kd.C_drewN ?_ _) | (with_reducible refine Kd.C_drew ?_)))
            (case side2 => exact (Kd.V_reads' HO462.out).2.1)
            (case side3 => repeat (first | exact (Kd.V_reads' HO465.out).2.2 | (with_reducible refine Kd.C_alloc ?_ _) | (with_reducible refine Kd.C_drewN ?_ _) | (with_reducible refine Kd.C_drew ?_)))
            (case side4 => exact (Kd.V_reads' HO465.out).2.1)
            (case side5 => repeat (first | exact (Kd.V_reads' HO423.out).2.2 | (with_reducible refine Kd.C_alloc ?_ _) | (with_reducible refine Kd.C_drewN ?_ _) | (with_reducible refine Kd.C_drew ?_)))
            (case side6 => exact (Kd.V_reads' HO423.out).2.1)
            (case side7 => repeat (first | exact (Kd.V_reads' HO426.out).2.2 | (with_reducible refine Kd.C_alloc ?_ _) | (with_reducible refine Kd.C_drewN ?_ _) | (with_reducible refine Kd.C_drew ?_)))
            (case side8 => exact (Kd.V_reads' HO426.out).2.1)
            rintro e w171 ⟨rfl, hb⟩
            refine ⟨_, rfl, ?_⟩
            replace HO338 := zVb HO338 hb
            replace HO341 := zVb HO341 hb
            replace HO346 := zVb HO346 hb
            replace HO349 := zVb HO349 hb
            replace HO352 := zVb HO352 hb
            replace HO355 := zVb HO355 hb
            replace HO360 := zVb HO360 hb
            replace HO363 := zVb HO363 hb
            replace HO366 := zVb HO366 hb
            replace HO370 := zVb HO370 hb
            replace HO373 := zVb HO373 hb
            replace HO376 := zVb HO376 hb
            replace HO379 := zVb HO379 hb
            replace HO382 := zRb HO382 hb
            replace HO386 := zVb HO386 hb
            replace HO389 := zVb HO389 hb
            replace HO394 := zVb HO394 hb
            replace HO397 := zVb HO397 hb
            replace HO400 := zVb HO400 hb
            replace HO403 := zVb HO403 hb
            replace HO408 := zVb HO408 hb
            replace HO411 := zVb HO411 hb
            replace HO417 := zVb HO417 hb
            replace HO420 := zVb HO420 hb
            replace HO423 := zVb HO423 hb
            replace HO426 := zVb HO426 hb
            replace HO433 := zVb HO433 hb
            replace HO436 := zVb HO436 hb
            replace HO440 := zVb HO440 hb
            replace HO443 := zVb HO443 hb
            replace HO447 := zVb HO447 hb
            replace HO450 := zVb HO450 hb
            replace HO455 := zVb HO455 hb
            replace HO458 := zVb HO458 hb
            replace HO462 := zVb HO462 hb
            replace HO465 := zVb HO465 hb
            replace BK333 := zbb BK333 hb
            replace BK343 := zbb BK343 hb
            replace BK357 := zbb BK357 hb
            replace BK367 := zbb BK367 hb
            replace BK383 := zbb BK383 hb
            replace BK391 := zbb BK391 hb
            replace BK405 := zbb BK405 hb
            replace BK414 := zbb BK414 hb
            replace BK429 := zbb BK429 hb
            replace HB := am (below_step (by repeat (first | (with_reducible first | exact HB.out | apply below_alloc | apply pw_below_drewN | apply below_drew1 | refine below_set ?_ GE333.out | refine below_set ?_ GE343.out | refine below_set ?_ GE357.out | refine below_set ?_ GE367.out | refine below_set ?_ GE383.out | refine below_set ?_ GE391.out | refine below_set ?_ GE405.out | refine below_set ?_ GE414.out | refine below_set ?_ GE429.out) | exact HB.out)) hb)
            (try clear hb)
            (try clear hb2)
            (try clear hk)
            (try clear hi)
            refine hK.out _ _ ⟨(blk_cell BK333.out 0).trans rfl, (blk_cell BK333.out 1).trans rfl, (blk_cell BK343.out 0).trans rfl, (blk_cell BK343.out 1).trans rfl, (blk_cell BK357.out 0).trans rfl, (blk_cell BK357.out 1).trans rfl, (blk_cell BK367.out 0).trans rfl, (blk_cell BK367.out 1).trans rfl, (blk_cell BK383.out 0).trans rfl, (blk_cell BK383.out 1).trans rfl, (blk_cell BK391.out 0).trans rfl, (blk_cell BK391.out 1).trans rfl, (blk_cell BK405.out 0).trans rfl, (blk_cell BK405.out 1).trans rfl, (blk_cell BK414.out 0).trans rfl, (blk_cell BK414.out 1).trans rfl, (blk_cell BK429.out 0).trans rfl, (blk_cell BK429.out 1).trans rfl⟩ (fun hHeld => ?_)
            clear hK K
            refine norm_ (a' := ?_) ?_ ?_
            rotate_left
            ·show Act.put _ (some 126) _ = _
             simp only [Act.put, List.setIfInBounds_toArray, List.set_cons_zero, List.set_cons_succ, i64_w, i32_w]
             rfl
            refine pure_ (i := 44) (N := some 127) (v := ?_) (a' := ?_) #[true, true, true, true, true, true, true, true, true, true, true, true, true, true, true, true, true, true, true, true, true, true, true, true, true, true, true, true, true, true, true, true, true, true, true, true, true, true, true, true, true, true, true, true, true, false, false, false, false, false, false, false, false, false, false, false, false, false, false] rfl rfl (any_of HT_.out (by kernel_rfl)) (fun _ _ _ h => h) (Or.inl ⟨by rfl, ?_⟩) ?_ ?_
            rotate_left
            ·intro w'
             go_simp
             with_reducible rfl
            rotate_left
            ·simp only [Act.put, List.setIfInBounds_toArray, List.set_cons_zero, List.set_cons_succ, i64_w, i32_w]
             rfl
            refine pure_ (i := 45) (N := some 128) (v := ?_) (a' := ?_) #[true, true, true, true, true, true, true, true, true, true, true, true, true, true, true, true, true, true, true, true, true, true, true, true, true, true, true, true, true, true, true, true, true, true, true, true, true, true, true, true, true, true, true, true, true, true, false, false, false, false, false, false, false, false, false, false, false, false, false] rfl rfl (any_of HT_.out (by kernel_rfl)) (fun _ _ _ h => h) (Or.inl ⟨by rfl, ?_⟩) ?_ ?_
            rotate_left
            ·intro w'
             go_simp
             with_reducible rfl
            rotate_left
            ·simp only [Act.put, List.setIfInBounds_toArray, List.set_cons_zero, List.set_cons_succ, i64_w, i32_w]
             rfl
            refine pure_ (i := 46) (N := some 129) (v := ?_) (a' := ?_) #[true, true, true, true, true, true, true, true, true, true, true, true, true, true, true, true, true, true, true, true, true, true, true, true, true, true, true, true, true, true, true, true, true, true, true, true, true, true, true, true, true, true, true, true, true, true, true, false, false, false, false, false, false, false, false, false, false, false, false] rfl rfl (any_of HT_.out (by kernel_rfl)) (fun _ _ _ h => h) (Or.inl ⟨by rfl, ?_⟩) ?_ ?_
            rotate_left
            ·intro w'
             go_simp
             with_reducible rfl
            rotate_left
            ·simp only [Act.put, List.setIfInBounds_toArray, List.set_cons_zero, List.set_cons_succ, i64_w, i32_w]
             rfl
            refine pure_ (i := 47) (N := some 130) (v := ?_) (a' := ?_) #[true, true, true, true, true, true, true, true, true, true, true, true, true, true, true, true, true, true, true, true, true, true, true, true, true, true, true, true, true, true, true, true, true, true, true, true, true, true, true, true, true, true, true, true, true, true, true, true, false, false, false, false, false, false, false, false, false, false, false] rfl rfl (any_of HT_.out (by kernel_rfl)) (fun _ _ _ h => h) (Or.inl ⟨by rfl, ?_⟩) ?_ ?_
            rotate_left
            ·intro w'
             go_simp
             with_reducible rfl
            rotate_left
            ·simp only [Act.put, List.setIfInBounds_toArray, List.set_cons_zero, List.set_cons_succ, i64_w, i32_w]
             rfl
            refine pure_ (i := 48) (N := some 131) (v := ?_) (a' := ?_) #[true, true, true, true, true, true, true, true, true, true, true, true, true, true, true, true, true, true, true, true, true, true, true, true, true, true, true, true, true, true, true, true, true, true, true, true, true, true, true, true, true, true, true, true, true, true, true, true, true, false, false, false, false, false, false, false, false, false, false] rfl rfl (any_of HT_.out (by kernel_rfl)) (fun _ _ _ h => h) (Or.inl ⟨by rfl, ?_⟩) ?_ ?_
            rotate_left
            ·intro w'
             go_simp
             with_reducible rfl
            rotate_left
            ·simp only [Act.put, List.setIfInBounds_toArray, List.set_cons_zero, List.set_cons_succ, i64_w, i32_w]
             rfl
            refine pure_ (i := 49) (N := some 132) (v := ?_) (a' := ?_) #[true, true, true, true, true, true, true, true, true, true, true, true, true, true, true, true, true, true, true, true, true, true, true, true, true, true, true, true, true, true, true, true, true, true, true, true, true, true, true, true, true, true, true, true, true, true, true, true, true, true, false, false, false, false, false, false, false, false, false] rfl rfl (any_of HT_.out (by kernel_rfl)) (fun _ _ _ h => h) (Or.inl ⟨by rfl, ?_⟩) ?_ ?_
            rotate_left
            ·intro w'
             go_simp
             with_reducible rfl
            rotate_left
            ·simp only [Act.put, List.setIfInBounds_toArray, List.set_cons_zero, List.set_cons_succ, i64_w, i32_w]
             rfl
            refine pure_ (i := 50) (N := some 133) (v := ?_) (a' := ?_) #[true, true, true, true, true, true, true, true, true, true, true, true, true, true, true, true, true, true, true, true, true, true, true, true, true, true, true, true, true, true, true, true, true, true, true, true, true, true, true, true, true, true, true, true, true, true, true, true, true, true, true, false, false, false, false, false, false, false, false] rfl rfl (any_of HT_.out (by kernel_rfl)) (fun _ _ _ h => h) (Or.inl ⟨by rfl, ?_⟩) ?_ ?_
            rotate_left
            ·intro w'
             go_simp
             with_reducible rfl
            rotate_left
            ·simp only [Act.put, List.setIfInBounds_toArray, List.set_cons_zero, List.set_cons_succ, i64_w, i32_w]
             rfl
            refine pure_ (i := 51) (N := some 134) (v := ?_) (a' := ?_) #[true, true, true, true, true, true, true, true, true, true, true, true, true, true, true, true, true, true, true, true, true, true, true, true, true, true, true, true, true, true, true, true, true, true, true, true, true, true, true, true, true, true, true, true, true, true, true, true, true, true, true, true, false, false, false, false, false, false, false] rfl rfl (any_of HT_.out (by kernel_rfl)) (fun _ _ _ h => h) (Or.inl ⟨by rfl, ?_⟩) ?_ ?_
            rotate_left
            ·intro w'
             go_simp
             with_reducible rfl
            rotate_left
            ·simp only [Act.put, List.setIfInBounds_toArray, List.set_cons_zero, List.set_cons_succ, i64_w, i32_w]
             rfl
            refine pure_ (i := 52) (N := some 135) (v := ?_) (a' := ?_) #[true, true, true, true, true, true, true, true, true, true, true, true, true, true, true, true, true, true, true, true, true, true, true, true, true, true, true, true, true, true, true, true, true, true, true, true, true, true, true, true, true, true, true, true, true, true, true, true, true, true, true, true, true, false, false, false, false, false, false] rfl rfl (any_of HT_.out (by kernel_rfl)) (fun _ _ _ h => h) (Or.inl ⟨by rfl, ?_⟩) ?_ ?_
            rotate_left
            ·intro w'
             go_simp
             with_reducible rfl
            rotate_left
            ·simp only [Act.put, List.setIfInBounds_toArray, List.set_cons_zero, List.set_cons_succ, i64_w, i32_w]
             rfl
            refine pure_ (i := 53) (N := some 136) (v := ?_) (a' := ?_) #[true, true, true, true, true, true, true, true, true, true, true, true, true, true, true, true, true, true, true, true, true, true, true, true, true, true, true, true, true, true, true, true, true, true, true, true, true, true, true, true, true, true, true, true, true, true, true, true, true, true, true, true, true, true, false, false, false, false, false] rfl rfl (any_of HT_.out (by kernel_rfl)) (fun _ _ _ h => h) (Or.inl ⟨by rfl, ?_⟩) ?_ ?_
            rotate_left
            ·intro w'
             go_simp
             with_reducible rfl
            rotate_left
            ·simp only [Act.put, List.setIfInBounds_toArray, List.set_cons_zero, List.set_cons_succ, i64_w, i32_w]
             rfl
            refine pure_ (i := 54) (N := some 137) (v := ?_) (a' := ?_) #[true, true, true, true, true, true, true, true, true, true, true, true, true, true, true, true, true, true, true, true, true, true, true, true, true, true, true, true, true, true, true, true, true, true, true, true, true, true, true, true, true, true, true, true, true, true, true, true, true, true, true, true, true, true, true, false, false, false, false] rfl rfl (any_of HT_.out (by kernel_rfl)) (fun _ _ _ h => h) (Or.inl ⟨by rfl, ?_⟩) ?_ ?_
            rotate_left
            ·intro w'
             go_simp
             with_reducible rfl
            rotate_left
            ·simp only [Act.put, List.setIfInBounds_toArray, List.set_cons_zero, List.set_cons_succ, i64_w, i32_w]
             rfl
            refine pure_ (i := 55) (N := some 138) (v := ?_) (a' := ?_) #[true, true, true, true, true, true, true, true, true, true, true, true, true, true, true, true, true, true, true, true, true, true, true, true, true, true, true, true, true, true, true, true, true, true, true, true, true, true, true, true, true, true, true, true, true, true, true, true, true, true, true, true, true, true, true, true, false, false, false] rfl rfl (any_of HT_.out (by kernel_rfl)) (fun _ _ _ h => h) (Or.inl ⟨by rfl, ?_⟩) ?_ ?_
            rotate_left
            ·intro w'
             go_simp
             with_reducible rfl
            rotate_left
            ·simp only [Act.put, List.setIfInBounds_toArray, List.set_cons_zero, List.set_cons_succ, i64_w, i32_w]
             rfl
            refine one_ (i := 56) (N := some 139) #[true, true, true, true, true, true, true, true, true, true, true, true, true, true, true, true, true, true, true, true, true, true, true, true, true, true, true, true, true, true, true, true, true, true, true, true, true, true, true, true, true, true, true, true, true, true, true, true, true, true, true, true, true, true, true, true, true, false, false] rfl rfl (one_of HT_.out (by kernel_rfl)) (by decide) (fun K hK => ?_)
            refine goes_ Try.func9 (by kernel_rfl) rfl #[] (by rfl) rfl rfl zm ?_
            with_reducible refine (handshakerlaw20_awake.calls k  t467 _ A40.out).mono ?_
            rintro e w172 ⟨rfl, hb⟩
            refine ⟨_, rfl, ?_⟩
            replace HO338 := zVb HO338 hb
            replace HO341 := zVb HO341 hb
            replace HO346 := zVb HO346 hb
            replace HO349 := zVb HO349 hb
            replace HO352 := zVb HO352 hb
            replace HO355 := zVb HO355 hb
            replace HO360 := zVb HO360 hb
            replace HO363 := zVb HO363 hb
            replace HO366 := zVb HO366 hb
            replace HO370 := zVb HO370 hb
            replace HO373 := zVb HO373 hb
            replace HO376 := zVb HO376 hb
            replace HO379 := zVb HO379 hb
            replace HO382 := zRb HO382 hb
            replace HO386 := zVb HO386 hb
            replace HO389 := zVb HO389 hb
            replace HO394 := zVb HO394 hb
            replace HO397 := zVb HO397 hb
            replace HO400 := zVb HO400 hb
            replace HO403 := zVb HO403 hb
            replace HO408 := zVb HO408 hb
            replace HO411 := zVb HO411 hb
            replace HO417 := zVb HO417 hb
            replace HO420 := zVb HO420 hb
            replace HO423 := zVb HO423 hb
            replace HO426 := zVb HO426 hb
            replace HO433 := zVb HO433 hb
            replace HO436 := zVb HO436 hb
            replace HO440 := zVb HO440 hb
            replace HO443 := zVb HO443 hb
            replace HO447 := zVb HO447 hb
            replace HO450 := zVb HO450 hb
            replace HO455 := zVb HO455 hb
            replace HO458 := zVb HO458 hb
            replace HO462 := zVb HO462 hb
            replace HO465 := zVb HO465 hb
            replace BK333 := zbb BK333 hb
            replace BK343 := zbb BK343 hb
            replace BK357 := zbb BK357 hb
            replace BK367 := zbb BK367 hb
            replace BK383 := zbb BK383 hb
            replace BK391 := zbb BK391 hb
            replace BK405 := zbb BK405 hb
            replace BK414 := zbb BK414 hb
            replace BK429 := zbb BK429 hb
            replace HB := am (below_step (by repeat (first | (with_reducible first | exact HB.out | apply below_alloc | apply pw_below_drewN | apply below_drew1 | refine below_set ?_ GE333.out | refine below_set ?_ GE343.out | refine below_set ?_ GE357.out | refine below_set ?_ GE367.out | refine below_set ?_ GE383.out | refine below_set ?_ GE391.out | refine below_set ?_ GE405.out | refine below_set ?_ GE414.out | refine below_set ?_ GE429.out) | exact HB.out)) hb)
            (try clear hb)
            (try clear hb2)
            (try clear hk)
            (try clear hi)
            refine hK.out _ _ ⟨(blk_cell BK333.out 0).trans rfl, (blk_cell BK333.out 1).trans rfl, (blk_cell BK343.out 0).trans rfl, (blk_cell BK343.out 1).trans rfl, (blk_cell BK357.out 0).trans rfl, (blk_cell BK357.out 1).trans rfl, (blk_cell BK367.out 0).trans rfl, (blk_cell BK367.out 1).trans rfl, (blk_cell BK383.out 0).trans rfl, (blk_cell BK383.out 1).trans rfl, (blk_cell BK391.out 0).trans rfl, (blk_cell BK391.out 1).trans rfl, (blk_cell BK405.out 0).trans rfl, (blk_cell BK405.out 1).trans rfl, (blk_cell BK414.out 0).trans rfl, (blk_cell BK414.out 1).trans rfl, (blk_cell BK429.out 0).trans rfl, (blk_cell BK429.out 1).trans rfl⟩ (fun hHeld => ?_)
            clear hK K
            refine norm_ (a' := ?_) ?_ ?_
            rotate_left
            ·show Act.put _ (some 139) _ = _
             simp only [Act.put, List.setIfInBounds_toArray, List.set_cons_zero, List.set_cons_succ, i64_w, i32_w]
             rfl
            refine pure_ (i := 57) (N := some 140) (v := ?_) (a' := ?_) #[true, true, true, true, true, true, true, true, true, true, true, true, true, true, true, true, true, true, true, true, true, true, true, true, true, true, true, true, true, true, true, true, true, true, true, true, true, true, true, true, true, true, true, true, true, true, true, true, true, true, true, true, true, true, true, true, true, true, false] rfl rfl (any_of HT_.out (by kernel_rfl)) (fun _ _ _ h => h) (Or.inl ⟨by rfl, ?_⟩) ?_ ?_
            rotate_left
            ·intro w'
             go_simp
             with_reducible rfl
            rotate_left
            ·simp only [Act.put, List.setIfInBounds_toArray, List.set_cons_zero, List.set_cons_succ, i64_w, i32_w]
             rfl
            refine pure_ (i := 58) (N := some 6) (v := ?_) (a' := ?_) #[true, true, true, true, true, true, true, true, true, true, true, true, true, true, true, true, true, true, true, true, true, true, true, true, true, true, true, true, true, true, true, true, true, true, true, true, true, true, true, true, true, true, true, true, true, true, true, true, true, true, true, true, true, true, true, true, true, true, true] rfl rfl (any_of HT_.out (by kernel_rfl)) (fun _ _ _ h => h) (Or.inl ⟨by rfl, ?_⟩) ?_ ?_
            rotate_left
            ·intro w'
             go_simp
             with_reducible rfl
            rotate_left
            ·simp only [Act.put, List.setIfInBounds_toArray, List.set_cons_zero, List.set_cons_succ, i64_w, i32_w]
             rfl
            refine done_ (done_of HT_.out (by kernel_rfl)) ?_
            try go_wp2
            go_ret
            exact ⟨by first | rfl | (simp [errW_none, errW_some] <;> rfl) | (simp [*, errW_none, errW_some] <;> rfl), by repeat (first | (with_reducible first | exact HB.out | apply below_alloc | apply pw_below_drewN | apply below_drew1 | refine below_set ?_ GE333.out | refine below_set ?_ GE343.out | refine below_set ?_ GE357.out | refine below_set ?_ GE367.out | refine below_set ?_ GE383.out | refine below_set ?_ GE391.out | refine below_set ?_ GE405.out | refine below_set ?_ GE414.out | refine below_set ?_ GE429.out) | exact HB.out)⟩
           ·rw [if_neg c39] at H
            exact absurd H (by simp)
          ·rw [if_neg c38] at H
           exact absurd H (by simp)
         ·replace c37 := Bool.eq_false_iff.mpr c37
          subst c37
          have H1 : (none) = some r := by rw [if_neg (show ¬ (false = true) by decide)] at H; exact H
          clear H
          have H := H1
          clear H1
          exact absurd H (by simp)
        ·rw [if_neg c34] at H
         exact absurd H (by simp)
       ·replace c33 := Bool.eq_false_iff.mpr c33
        subst c33
        have H1 : (none) = some r := by rw [if_neg (show ¬ (false = true) by decide)] at H; exact H
        clear H
        have H := H1
        clear H1
        exact absurd H (by simp)
      ·replace c30 := Bool.eq_false_iff.mpr c30
       subst c30
       have H1 : (none) = some r := by rw [if_neg (show ¬ (false = true) by decide)] at H; exact H
       clear H
       have H := H1
       clear H1
       exact absurd H (by simp)
     ·replace c28 := Bool.eq_false_iff.mpr c28
      subst c28
      have H1 : (none) = some r := by rw [if_neg (show ¬ (false = true) by decide)] at H; exact H
      clear H
      have H := H1
      clear H1
      exact absurd H (by simp)
    ·rw [if_neg c25] at H
     exact absurd H (by simp)
   ·replace c24 := Bool.eq_false_iff.mpr c24
    subst c24
    have H1 : (none) = some r := by rw [if_neg (show ¬ (false = true) by decide)] at H; exact H
    clear H
    have H := H1
    clear H1
    exact absurd H (by simp)
  ·rw [if_neg c21] at H
   exact absurd H (by simp)
 ·replace c5 := Bool.eq_false_iff.mpr c5
  subst c5
  have H1 : ((handshakerlaw20_awake.f k).bind fun t335 => (some t335)) = some r := by rw [if_neg (show ¬ (false = true) by decide)] at H; exact H
  clear H
  have H := H1
  clear H1
  replace H := Option.bind_eq_some_iff.mp H
  obtain ⟨t335, A1730, H⟩ := H
  try dsimp only at H
  have A173 := am A1730
  clear A1730
  obtain rfl := Option.some.inj H
  go_enter Try.func3, Try.ntmps3
  go_wp2_with (first | ((with_reducible refine gate_dst (N := 3) rfl ?_); refine box_event ?hg (N := 3) ?hd (cs := #[.slice A0_0 l0_0.length c0_0, .slice A0_1 l0_1.length c0_1]) (t := 24) ?hr ?_; (case hd => rfl); (case hg => rfl); (case hr => first | (go_simp; done) | (go_simp; rfl)); intro gb333 hg w174 hbox hb; have BK333 := am (hbox); have GW333 := zsz hg (zc0 HB); have GE333 := zsz hg (zc0 HB); replace HB := am (below_step (zc0 HB) hb); clear hb hbox hg; have hcz175_0 : w174.cell? ⟨gb333, 0, none⟩ = some (.slice A0_0 l0_0.length c0_0) := (blk_cell BK333.out 0).trans rfl; have hcz175_1 : w174.cell? ⟨gb333, 1, none⟩ = some (.slice A0_1 l0_1.length c0_1) := (blk_cell BK333.out 1).trans rfl; have hfz175_0 := blk_frozen BK333.out 0; have hfz175_1 := blk_frozen BK333.out 1) | ((with_reducible refine gate_callee (f := 8) rfl ?_); refine goesL_ (some 26) rfl rfl Try.func8 (by kernel_rfl) rfl #[.agg #[.slice A0_0 l0_0.length c0_0, .slice A0_1 l0_1.length c0_1]] rfl zm ?_; (with_reducible refine (handshakerlaw20_small.calls _ _ l0_0 _ _ l0_1 false _ ?side1 ?side2 ?side3 ?side4 A4.out).mono ?_); (case side1 => repeat (first | exact (Kd.C_below HR0_0.out HB.out) | (with_reducible refine Kd.C_alloc ?_ _) | (with_reducible refine Kd.C_drewN ?_ _) | (with_reducible refine Kd.C_drew ?_))); (case side2 => exact HC0_0.out); (case side3 => repeat (first | exact (Kd.C_below HR0_1.out HB.out) | (with_reducible refine Kd.C_alloc ?_ _) | (with_reducible refine Kd.C_drewN ?_ _) | (with_reducible refine Kd.C_drew ?_))); (case side4 => exact HC0_1.out); rintro e w176 ⟨rfl, hb⟩; refine ⟨_, rfl, ?_⟩; replace BK333 := zbb BK333 hb; replace HB := am (below_step (zc1 HB GE333) hb); (try clear hb); (try clear hb2); (try clear hk); (try clear hi)) | ((with_reducible refine gate_callee (f := 9) rfl ?_); refine goesL_ (some 28) rfl rfl Try.func9 (by kernel_rfl) rfl #[] rfl zm ?_; (with_reducible refine (handshakerlaw20_awake.calls k  t335 _ A173.out).mono ?_); rintro e w177 ⟨rfl, hb⟩; refine ⟨_, rfl, ?_⟩; replace BK333 := zbb BK333 hb; replace HB := am (below_step (zc1 HB GE333) hb); (try clear hb); (try clear hb2); (try clear hk); (try clear hi)))
  go_ret
  exact ⟨by first | rfl | (simp [errW_none, errW_some] <;> rfl) | (simp [*, errW_none, errW_some] <;> rfl), by repeat (first | (with_reducible first | exact HB.out | apply below_alloc | apply pw_below_drewN | apply below_drew1 | refine below_set ?_ GE333.out) | exact HB.out)⟩

end Go.Proofs.Ytllmfahkiabkcaa.PCondTells
