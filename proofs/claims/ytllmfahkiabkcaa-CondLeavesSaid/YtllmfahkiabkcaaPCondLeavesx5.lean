/- Lean functions that say what functions of the given program compute, and proofs by walking the code that each call does just that; no condition but those that each statement names. -/
import Derived.Test.YtllmfahkiabkcaaPCondLeavesx0
import Derived.Test.YtllmfahkiabkcaaPCondLeavesx1
import Derived.Test.YtllmfahkiabkcaaPCondLeavesx2
import Derived.Test.YtllmfahkiabkcaaPCondLeavesx3
import Derived.Test.YtllmfahkiabkcaaPCondLeavesx4
namespace Go.Proofs.Ytllmfahkiabkcaa.PCondLeaves
open Go.RowKit Go.Proofs.YtllmfahkiabkcaaW.PrintWords Go.Proofs.YtllmfahkiabkcaaW.PrintLast Go.Proofs.YtllmfahkiabkcaaW.PrintMore
attribute [local go_sem] max2_int min2_int max_two min_two max_three min_three max_four min_four   -- for this text's walks alone
set_option linter.unusedVariables false
set_option linter.unusedSimpArgs false

/-! ### handshakerlaw20_CondLeaves: function 7 -/
def handshakerlaw20_CondLeaves.f (k : Nat) (l0_0 : List Int) (l0_1 : List Int) (a1 : Int) : Option (Bool) := (handshakerlaw20_small.f l0_0 l0_1).bind fun t265 => (if t265 = true then ((cond_Wait.f k l0_0 l0_1 a1).bind fun bt267 => (if bt267.2.2 = 0 then ((cond_Leave.f k bt267.1 bt267.2.1 a1).bind fun bt289 => ((cond_Signal.f k bt267.1 bt267.2.1 (bt267.1.length : Int)).bind fun bt298 => ((cond_Leave.f k bt298.1 bt298.2.1 a1).bind fun bt308 => ((cond_Signal.f k l0_0 l0_1 (l0_0.length : Int)).bind fun bt317 => (if bt289.2.2.2 = 0 then (if bt289.2.2.1 = true then (none) else ((handshakerlaw20_ref.f bt289.1 bt289.2.1).bind fun bt327 => ((handshakerlaw20_ref.f l0_0 l0_1).bind fun bt333 => ((handshakerref20_Same.f k bt327.1 bt327.2 bt333.1 bt333.2).bind fun t339 => (if t339 = true then (if (bt298.2.2.length : Int) = (wrap64 ((l0_0.length : Int) + 1)) then (if bt308.2.2.2 = 0 then (if bt308.2.2.1 = true then (none) else ((handshakerlaw20_ref.f bt308.1 bt308.2.1).bind fun bt340 => ((handshakerlaw20_ref.f bt317.1 bt317.2.1).bind fun bt346 => ((handshakerref20_Same.f k bt340.1 bt340.2 bt346.1 bt346.2).bind fun t352 => (if t352 = true then ((handshakerlaw20_awake.f k).bind fun t353 => (some t353)) else (none)))))) else (none)) else (none)) else (none)))))) else (none)))))) else ((handshakerlaw20_ref.f bt267.1 bt267.2.1).bind fun bt275 => ((handshakerlaw20_ref.f l0_0 l0_1).bind fun bt281 => ((handshakerref20_Same.f k bt275.1 bt275.2 bt281.1 bt281.2).bind fun t287 => (if t287 = true then ((handshakerlaw20_awake.f k).bind fun t288 => (some t288)) else (none))))))) else ((handshakerlaw20_awake.f k).bind fun t266 => (some t266)))
theorem handshakerlaw20_CondLeaves.mono : ∀ a0 a1 a2 k, LeO (handshakerlaw20_CondLeaves.f k a0 a1 a2) (handshakerlaw20_CondLeaves.f (k + 1) a0 a1 a2) := by
 intro a0 a1 a2 k
 unfold handshakerlaw20_CondLeaves.f
 repeat' first
   | (with_reducible exact cond_Leave.mono _ _ _ _)
   | (with_reducible exact cond_Signal.mono _ _ _ _)
   | (with_reducible exact cond_Wait.mono _ _ _ _)
   | (with_reducible exact handshakerlaw20_awake.mono _)
   | (with_reducible exact handshakerref20_Same.mono _ _ _ _ _)
   | (with_reducible exact LeO.refl _)
   | (with_reducible exact LeO.none _)
   | (with_reducible refine LeO.ite ?_ ?_)
   | (with_reducible refine LeO.bind ?_ (fun _ => ?_))
   | exact cond_Leave.mono _ _ _ _
   | exact cond_Signal.mono _ _ _ _
   | exact cond_Wait.mono _ _ _ _
   | exact handshakerlaw20_awake.mono _
   | exact handshakerref20_Same.mono _ _ _ _ _
   | exact LeO.none _
   | refine LeO.ite ?_ ?_
   | refine LeO.bind ?_ (fun _ => ?_)
def handshakerlaw20_CondLeaves.T5 : Bool × List (List Nat × List Nat) := (true, [([], []), ([0], [0]), ([], []), ([2, 1], [2]), ([1, 3, 3], [1, 3]), ([4, 4], [4]), ([5, 5], [5]), ([5, 6], [5, 6]), ([7, 6, 0, 1, 2, 3, 4, 5, 6, 7], [7])])
def handshakerlaw20_CondLeaves.B5 : List Nat := [0, 1, 0, 7, 15, 31, 63, 127, 255]
theorem handshakerlaw20_CondLeaves.tab5 : rtab .any (opsOf Try.f7 5) = handshakerlaw20_CondLeaves.T5 := by kernel_rfl
theorem handshakerlaw20_CondLeaves.bits5 : waitsOk handshakerlaw20_CondLeaves.T5.2 handshakerlaw20_CondLeaves.B5 = true := by kernel_rfl
def handshakerlaw20_CondLeaves.T10 : Bool × List (List Nat × List Nat) := (true, [([], []), ([0], [0]), ([1], [1]), ([2], [2]), ([3, 2], [2, 3]), ([2, 4], [2, 4]), ([5, 2], [5]), ([6], [6]), ([7, 6, 6], [6, 7]), ([6], [6]), ([9, 8, 6], [6, 9]), ([8, 10, 10, 6], [6, 8, 10]), ([6, 11], [6, 11]), ([12, 11], [12]), ([13], [13]), ([14, 13], [13, 14]), ([13], [13]), ([16, 13], [13, 16]), ([17, 13], [13, 17]), ([18, 13], [13, 18]), ([15, 19, 13], [13, 15, 19]), ([13, 20], [13, 20]), ([21, 13], [21]), ([22], [22]), ([23, 22], [22, 23]), ([22, 24], [22, 24]), ([25, 22], [25]), ([26], [26]), ([27, 26], [26, 27]), ([26, 28], [26, 28]), ([29, 26], [29]), ([30], [30]), ([31, 30, 30], [30, 31]), ([30], [30]), ([33, 32, 30], [30, 33]), ([32, 34, 34, 30], [30, 32, 34]), ([30, 35], [30, 35]), ([36, 35], [36]), ([37, 37], [37]), ([37, 38], [37, 38]), ([39, 38, 0, 1, 2, 3, 4, 5, 6, 7, 8, 9, 10, 11, 12, 13, 14, 15, 16, 17, 18, 19, 20, 21, 22, 23, 24, 25, 26, 27, 28, 29, 30, 31, 32, 33, 34, 35, 36, 37, 38, 39], [39])])
def handshakerlaw20_CondLeaves.B10 : List Nat := [0, 1, 3, 7, 15, 31, 63, 127, 255, 127, 1023, 2047, 4095, 8191, 16383, 32767, 16383, 81919, 212991, 475135, 1048575, 2097151, 4194303, 8388607, 16777215, 33554431, 67108863, 134217727, 268435455, 536870911, 1073741823, 2147483647, 4294967295, 2147483647, 17179869183, 34359738367, 68719476735, 137438953471, 274877906943, 549755813887, 1099511627775]
theorem handshakerlaw20_CondLeaves.tab10 : rtab .any (opsOf Try.f7 10) = handshakerlaw20_CondLeaves.T10 := by kernel_rfl
theorem handshakerlaw20_CondLeaves.bits10 : waitsOk handshakerlaw20_CondLeaves.T10.2 handshakerlaw20_CondLeaves.B10 = true := by kernel_rfl
set_option maxHeartbeats 8000000 in
set_option maxRecDepth 100000 in
theorem handshakerlaw20_CondLeaves.calls (k : Nat) (A0_0 : Option Addr) (c0_0 : Nat) (l0_0 : List Int) (A0_1 : Option Addr) (c0_1 : Nat) (l0_1 : List Int) (a1 : Int) (r : Bool) (w : World) (hr0_0 : Kd.C (Kd.int .i64) w A0_0 l0_0.length l0_0) (hc0_0 : l0_0.length ≤ c0_0) (hr0_1 : Kd.C (Kd.int .i64) w A0_1 l0_1.length l0_1) (hc0_1 : l0_1.length ≤ c0_1) (h : handshakerlaw20_CondLeaves.f k l0_0 l0_1 a1 = some r) :
  Calls Try.prog 7 #[.agg #[.slice A0_0 l0_0.length c0_0, .slice A0_1 l0_1.length c0_1], .int .i64 a1] w fun e w' => e = .returned (.bool r) ∧ Below w.heap.size w w' := by
 have hu24 := Try.underlying24
 have HR0_0 := Aside0.mk hr0_0
 have HC0_0 := Aside0.mk hc0_0
 clear hr0_0 hc0_0
 have HR0_1 := Aside0.mk hr0_1
 have HC0_1 := Aside0.mk hc0_1
 clear hr0_1 hc0_1
 have HB := Aside0.mk (Below.refl w.heap.size w)
 have H : ((handshakerlaw20_small.f l0_0 l0_1).bind fun t265 => (if t265 = true then ((cond_Wait.f k l0_0 l0_1 a1).bind fun bt267 => (if bt267.2.2 = 0 then ((cond_Leave.f k bt267.1 bt267.2.1 a1).bind fun bt289 => ((cond_Signal.f k bt267.1 bt267.2.1 (bt267.1.length : Int)).bind fun bt298 => ((cond_Leave.f k bt298.1 bt298.2.1 a1).bind fun bt308 => ((cond_Signal.f k l0_0 l0_1 (l0_0.length : Int)).bind fun bt317 => (if bt289.2.2.2 = 0 then (if bt289.2.2.1 = true then (none) else ((handshakerlaw20_ref.f bt289.1 bt289.2.1).bind fun bt327 => ((handshakerlaw20_ref.f l0_0 l0_1).bind fun bt333 => ((handshakerref20_Same.f k bt327.1 bt327.2 bt333.1 bt333.2).bind fun t339 => (if t339 = true then (if (bt298.2.2.length : Int) = (wrap64 ((l0_0.length : Int) + 1)) then (if bt308.2.2.2 = 0 then (if bt308.2.2.1 = true then (none) else ((handshakerlaw20_ref.f bt308.1 bt308.2.1).bind fun bt340 => ((handshakerlaw20_ref.f bt317.1 bt317.2.1).bind fun bt346 => ((handshakerref20_Same.f k bt340.1 bt340.2 bt346.1 bt346.2).bind fun t352 => (if t352 = true then ((handshakerlaw20_awake.f k).bind fun t353 => (some t353)) else (none)))))) else (none)) else (none)) else (none)))))) else (none)))))) else ((handshakerlaw20_ref.f bt267.1 bt267.2.1).bind fun bt275 => ((handshakerlaw20_ref.f l0_0 l0_1).bind fun bt281 => ((handshakerref20_Same.f k bt275.1 bt275.2 bt281.1 bt281.2).bind fun t287 => (if t287 = true then ((handshakerlaw20_awake.f k).bind fun t288 => (some t288)) else (none))))))) else ((handshakerlaw20_awake.f k).bind fun t266 => (some t266)))) = some r := h
 clear h
 replace H := Option.bind_eq_some_iff.mp H
 obtain ⟨t265, A30, H⟩ := H
 replace H : (if t265 = true then ((cond_Wait.f k l0_0 l0_1 a1).bind fun bt267 => (if bt267.2.2 = 0 then ((cond_Leave.f k bt267.1 bt267.2.1 a1).bind fun bt289 => ((cond_Signal.f k bt267.1 bt267.2.1 (bt267.1.length : Int)).bind fun bt298 => ((cond_Leave.f k bt298.1 bt298.2.1 a1).bind fun bt308 => ((cond_Signal.f k l0_0 l0_1 (l0_0.length : Int)).bind fun bt317 => (if bt289.2.2.2 = 0 then (if bt289.2.2.1 = true then (none) else ((handshakerlaw20_ref.f bt289.1 bt289.2.1).bind fun bt327 => ((handshakerlaw20_ref.f l0_0 l0_1).bind fun bt333 => ((handshakerref20_Same.f k bt327.1 bt327.2 bt333.1 bt333.2).bind fun t339 => (if t339 = true then (if (bt298.2.2.length : Int) = (wrap64 ((l0_0.length : Int) + 1)) then (if bt308.2.2.2 = 0 then (if bt308.2.2.1 = true then (none) else ((handshakerlaw20_ref.f bt308.1 bt308.2.1).bind fun bt340 => ((handshakerlaw20_ref.f bt317.1 bt317.2.1).bind fun bt346 => ((handshakerref20_Same.f k bt340.1 bt340.2 bt346.1 bt346.2).bind fun t352 => (if t352 = true then ((handshakerlaw20_awake.f k).bind fun t353 => (some t353)) else (none)))))) else (none)) else (none)) else (none)))))) else (none)))))) else ((handshakerlaw20_ref.f bt267.1 bt267.2.1).bind fun bt275 => ((handshakerlaw20_ref.f l0_0 l0_1).bind fun bt281 => ((handshakerref20_Same.f k bt275.1 bt275.2 bt281.1 bt281.2).bind fun t287 => (if t287 = true then ((handshakerlaw20_awake.f k).bind fun t288 => (some t288)) else (none))))))) else ((handshakerlaw20_awake.f k).bind fun t266 => (some t266))) = some r := H
 have A3 := Aside0.mk A30
 clear A30
 by_cases c4 : t265 = true
 ·subst c4
  have H1 : ((cond_Wait.f k l0_0 l0_1 a1).bind fun bt267 => (if bt267.2.2 = 0 then ((cond_Leave.f k bt267.1 bt267.2.1 a1).bind fun bt289 => ((cond_Signal.f k bt267.1 bt267.2.1 (bt267.1.length : Int)).bind fun bt298 => ((cond_Leave.f k bt298.1 bt298.2.1 a1).bind fun bt308 => ((cond_Signal.f k l0_0 l0_1 (l0_0.length : Int)).bind fun bt317 => (if bt289.2.2.2 = 0 then (if bt289.2.2.1 = true then (none) else ((handshakerlaw20_ref.f bt289.1 bt289.2.1).bind fun bt327 => ((handshakerlaw20_ref.f l0_0 l0_1).bind fun bt333 => ((handshakerref20_Same.f k bt327.1 bt327.2 bt333.1 bt333.2).bind fun t339 => (if t339 = true then (if (bt298.2.2.length : Int) = (wrap64 ((l0_0.length : Int) + 1)) then (if bt308.2.2.2 = 0 then (if bt308.2.2.1 = true then (none) else ((handshakerlaw20_ref.f bt308.1 bt308.2.1).bind fun bt340 => ((handshakerlaw20_ref.f bt317.1 bt317.2.1).bind fun bt346 => ((handshakerref20_Same.f k bt340.1 bt340.2 bt346.1 bt346.2).bind fun t352 => (if t352 = true then ((handshakerlaw20_awake.f k).bind fun t353 => (some t353)) else (none)))))) else (none)) else (none)) else (none)))))) else (none)))))) else ((handshakerlaw20_ref.f bt267.1 bt267.2.1).bind fun bt275 => ((handshakerlaw20_ref.f l0_0 l0_1).bind fun bt281 => ((handshakerref20_Same.f k bt275.1 bt275.2 bt281.1 bt281.2).bind fun t287 => (if t287 = true then ((handshakerlaw20_awake.f k).bind fun t288 => (some t288)) else (none))))))) = some r := by rw [if_pos rfl] at H; exact H
  clear H
  have H := H1
  clear H1
  replace H := Option.bind_eq_some_iff.mp H
  obtain ⟨⟨t267, t270, t273⟩, A50, H⟩ := H
  replace H : (if t273 = 0 then ((cond_Leave.f k t267 t270 a1).bind fun bt289 => ((cond_Signal.f k t267 t270 (t267.length : Int)).bind fun bt298 => ((cond_Leave.f k bt298.1 bt298.2.1 a1).bind fun bt308 => ((cond_Signal.f k l0_0 l0_1 (l0_0.length : Int)).bind fun bt317 => (if bt289.2.2.2 = 0 then (if bt289.2.2.1 = true then (none) else ((handshakerlaw20_ref.f bt289.1 bt289.2.1).bind fun bt327 => ((handshakerlaw20_ref.f l0_0 l0_1).bind fun bt333 => ((handshakerref20_Same.f k bt327.1 bt327.2 bt333.1 bt333.2).bind fun t339 => (if t339 = true then (if (bt298.2.2.length : Int) = (wrap64 ((l0_0.length : Int) + 1)) then (if bt308.2.2.2 = 0 then (if bt308.2.2.1 = true then (none) else ((handshakerlaw20_ref.f bt308.1 bt308.2.1).bind fun bt340 => ((handshakerlaw20_ref.f bt317.1 bt317.2.1).bind fun bt346 => ((handshakerref20_Same.f k bt340.1 bt340.2 bt346.1 bt346.2).bind fun t352 => (if t352 = true then ((handshakerlaw20_awake.f k).bind fun t353 => (some t353)) else (none)))))) else (none)) else (none)) else (none)))))) else (none)))))) else ((handshakerlaw20_ref.f t267 t270).bind fun bt275 => ((handshakerlaw20_ref.f l0_0 l0_1).bind fun bt281 => ((handshakerref20_Same.f k bt275.1 bt275.2 bt281.1 bt281.2).bind fun t287 => (if t287 = true then ((handshakerlaw20_awake.f k).bind fun t288 => (some t288)) else (none)))))) = some r := H
  have A5 := Aside0.mk A50
  clear A50
  by_cases c6 : t273 = 0
  ·rw [if_pos c6] at H
   have c6b0 : (t273 == 0) = true := beq_iff_eq.mpr c6
   have c6b1 : (t273 != 0) = false := bne_eq_false_iff_eq.mpr c6
   clear c6
   replace H := Option.bind_eq_some_iff.mp H
   obtain ⟨⟨t289, t292, t295, t296⟩, A70, H⟩ := H
   replace H : ((cond_Signal.f k t267 t270 (t267.length : Int)).bind fun bt298 => ((cond_Leave.f k bt298.1 bt298.2.1 a1).bind fun bt308 => ((cond_Signal.f k l0_0 l0_1 (l0_0.length : Int)).bind fun bt317 => (if t296 = 0 then (if t295 = true then (none) else ((handshakerlaw20_ref.f t289 t292).bind fun bt327 => ((handshakerlaw20_ref.f l0_0 l0_1).bind fun bt333 => ((handshakerref20_Same.f k bt327.1 bt327.2 bt333.1 bt333.2).bind fun t339 => (if t339 = true then (if (bt298.2.2.length : Int) = (wrap64 ((l0_0.length : Int) + 1)) then (if bt308.2.2.2 = 0 then (if bt308.2.2.1 = true then (none) else ((handshakerlaw20_ref.f bt308.1 bt308.2.1).bind fun bt340 => ((handshakerlaw20_ref.f bt317.1 bt317.2.1).bind fun bt346 => ((handshakerref20_Same.f k bt340.1 bt340.2 bt346.1 bt346.2).bind fun t352 => (if t352 = true then ((handshakerlaw20_awake.f k).bind fun t353 => (some t353)) else (none)))))) else (none)) else (none)) else (none)))))) else (none))))) = some r := H
   have A7 := Aside0.mk A70
   clear A70
   replace H := Option.bind_eq_some_iff.mp H
   obtain ⟨⟨t298, t301, t304⟩, A80, H⟩ := H
   replace H : ((cond_Leave.f k t298 t301 a1).bind fun bt308 => ((cond_Signal.f k l0_0 l0_1 (l0_0.length : Int)).bind fun bt317 => (if t296 = 0 then (if t295 = true then (none) else ((handshakerlaw20_ref.f t289 t292).bind fun bt327 => ((handshakerlaw20_ref.f l0_0 l0_1).bind fun bt333 => ((handshakerref20_Same.f k bt327.1 bt327.2 bt333.1 bt333.2).bind fun t339 => (if t339 = true then (if (t304.length : Int) = (wrap64 ((l0_0.length : Int) + 1)) then (if bt308.2.2.2 = 0 then (if bt308.2.2.1 = true then (none) else ((handshakerlaw20_ref.f bt308.1 bt308.2.1).bind fun bt340 => ((handshakerlaw20_ref.f bt317.1 bt317.2.1).bind fun bt346 => ((handshakerref20_Same.f k bt340.1 bt340.2 bt346.1 bt346.2).bind fun t352 => (if t352 = true then ((handshakerlaw20_awake.f k).bind fun t353 => (some t353)) else (none)))))) else (none)) else (none)) else (none)))))) else (none)))) = some r := H
   have A8 := Aside0.mk A80
   clear A80
   replace H := Option.bind_eq_some_iff.mp H
   obtain ⟨⟨t308, t311, t314, t315⟩, A90, H⟩ := H
   replace H : ((cond_Signal.f k l0_0 l0_1 (l0_0.length : Int)).bind fun bt317 => (if t296 = 0 then (if t295 = true then (none) else ((handshakerlaw20_ref.f t289 t292).bind fun bt327 => ((handshakerlaw20_ref.f l0_0 l0_1).bind fun bt333 => ((handshakerref20_Same.f k bt327.1 bt327.2 bt333.1 bt333.2).bind fun t339 => (if t339 = true then (if (t304.length : Int) = (wrap64 ((l0_0.length : Int) + 1)) then (if t315 = 0 then (if t314 = true then (none) else ((handshakerlaw20_ref.f t308 t311).bind fun bt340 => ((handshakerlaw20_ref.f bt317.1 bt317.2.1).bind fun bt346 => ((handshakerref20_Same.f k bt340.1 bt340.2 bt346.1 bt346.2).bind fun t352 => (if t352 = true then ((handshakerlaw20_awake.f k).bind fun t353 => (some t353)) else (none)))))) else (none)) else (none)) else (none)))))) else (none))) = some r := H
   have A9 := Aside0.mk A90
   clear A90
   replace H := Option.bind_eq_some_iff.mp H
   obtain ⟨⟨t317, t320, t323⟩, A100, H⟩ := H
   replace H : (if t296 = 0 then (if t295 = true then (none) else ((handshakerlaw20_ref.f t289 t292).bind fun bt327 => ((handshakerlaw20_ref.f l0_0 l0_1).bind fun bt333 => ((handshakerref20_Same.f k bt327.1 bt327.2 bt333.1 bt333.2).bind fun t339 => (if t339 = true then (if (t304.length : Int) = (wrap64 ((l0_0.length : Int) + 1)) then (if t315 = 0 then (if t314 = true then (none) else ((handshakerlaw20_ref.f t308 t311).bind fun bt340 => ((handshakerlaw20_ref.f t317 t320).bind fun bt346 => ((handshakerref20_Same.f k bt340.1 bt340.2 bt346.1 bt346.2).bind fun t352 => (if t352 = true then ((handshakerlaw20_awake.f k).bind fun t353 => (some t353)) else (none)))))) else (none)) else (none)) else (none)))))) else (none)) = some r := H
   have A10 := Aside0.mk A100
   clear A100
   by_cases c11 : t296 = 0
   ·rw [if_pos c11] at H
    have c11b0 : (t296 == 0) = true := beq_iff_eq.mpr c11
    have c11b1 : (t296 != 0) = false := bne_eq_false_iff_eq.mpr c11
    clear c11
    by_cases c12 : t295 = true
    ·subst c12
     have H1 : (none) = some r := by rw [if_pos rfl] at H; exact H
     clear H
     have H := H1
     clear H1
     exact absurd H (by simp)
    ·replace c12 := Bool.eq_false_iff.mpr c12
     subst c12
     have H1 : ((handshakerlaw20_ref.f t289 t292).bind fun bt327 => ((handshakerlaw20_ref.f l0_0 l0_1).bind fun bt333 => ((handshakerref20_Same.f k bt327.1 bt327.2 bt333.1 bt333.2).bind fun t339 => (if t339 = true then (if (t304.length : Int) = (wrap64 ((l0_0.length : Int) + 1)) then (if t315 = 0 then (if t314 = true then (none) else ((handshakerlaw20_ref.f t308 t311).bind fun bt340 => ((handshakerlaw20_ref.f t317 t320).bind fun bt346 => ((handshakerref20_Same.f k bt340.1 bt340.2 bt346.1 bt346.2).bind fun t352 => (if t352 = true then ((handshakerlaw20_awake.f k).bind fun t353 => (some t353)) else (none)))))) else (none)) else (none)) else (none))))) = some r := by rw [if_neg (show ¬ (false = true) by decide)] at H; exact H
     clear H
     have H := H1
     clear H1
     replace H := Option.bind_eq_some_iff.mp H
     obtain ⟨⟨t327, t330⟩, A130, H⟩ := H
     replace H : ((handshakerlaw20_ref.f l0_0 l0_1).bind fun bt333 => ((handshakerref20_Same.f k t327 t330 bt333.1 bt333.2).bind fun t339 => (if t339 = true then (if (t304.length : Int) = (wrap64 ((l0_0.length : Int) + 1)) then (if t315 = 0 then (if t314 = true then (none) else ((handshakerlaw20_ref.f t308 t311).bind fun bt340 => ((handshakerlaw20_ref.f t317 t320).bind fun bt346 => ((handshakerref20_Same.f k bt340.1 bt340.2 bt346.1 bt346.2).bind fun t352 => (if t352 = true then ((handshakerlaw20_awake.f k).bind fun t353 => (some t353)) else (none)))))) else (none)) else (none)) else (none)))) = some r := H
     have A13 := Aside0.mk A130
     clear A130
     replace H := Option.bind_eq_some_iff.mp H
     obtain ⟨⟨t333, t336⟩, A140, H⟩ := H
     replace H : ((handshakerref20_Same.f k t327 t330 t333 t336).bind fun t339 => (if t339 = true then (if (t304.length : Int) = (wrap64 ((l0_0.length : Int) + 1)) then (if t315 = 0 then (if t314 = true then (none) else ((handshakerlaw20_ref.f t308 t311).bind fun bt340 => ((handshakerlaw20_ref.f t317 t320).bind fun bt346 => ((handshakerref20_Same.f k bt340.1 bt340.2 bt346.1 bt346.2).bind fun t352 => (if t352 = true then ((handshakerlaw20_awake.f k).bind fun t353 => (some t353)) else (none)))))) else (none)) else (none)) else (none))) = some r := H
     have A14 := Aside0.mk A140
     clear A140
     replace H := Option.bind_eq_some_iff.mp H
     obtain ⟨t339, A150, H⟩ := H
     replace H : (if t339 = true then (if (t304.length : Int) = (wrap64 ((l0_0.length : Int) + 1)) then (if t315 = 0 then (if t314 = true then (none) else ((handshakerlaw20_ref.f t308 t311).bind fun bt340 => ((handshakerlaw20_ref.f t317 t320).bind fun bt346 => ((handshakerref20_Same.f k bt340.1 bt340.2 bt346.1 bt346.2).bind fun t352 => (if t352 = true then ((handshakerlaw20_awake.f k).bind fun t353 => (some t353)) else (none)))))) else (none)) else (none)) else (none)) = some r := H
     have A15 := Aside0.mk A150
     clear A150
     by_cases c16 : t339 = true
     ·subst c16
      have H1 : (if (t304.length : Int) = (wrap64 ((l0_0.length : Int) + 1)) then (if t315 = 0 then (if t314 = true then (none) else ((handshakerlaw20_ref.f t308 t311).bind fun bt340 => ((handshakerlaw20_ref.f t317 t320).bind fun bt346 => ((handshakerref20_Same.f k bt340.1 bt340.2 bt346.1 bt346.2).bind fun t352 => (if t352 = true then ((handshakerlaw20_awake.f k).bind fun t353 => (some t353)) else (none)))))) else (none)) else (none)) = some r := by rw [if_pos rfl] at H; exact H
      clear H
      have H := H1
      clear H1
      by_cases c17 : (t304.length : Int) = (wrap64 ((l0_0.length : Int) + 1))
      ·rw [if_pos c17] at H
       have c17b0 : ((t304.length : Int) == (wrap64 ((l0_0.length : Int) + 1))) = true := beq_iff_eq.mpr c17
       have c17b1 : ((t304.length : Int) != (wrap64 ((l0_0.length : Int) + 1))) = false := bne_eq_false_iff_eq.mpr c17
       clear c17
       by_cases c18 : t315 = 0
       ·rw [if_pos c18] at H
        have c18b0 : (t315 == 0) = true := beq_iff_eq.mpr c18
        have c18b1 : (t315 != 0) = false := bne_eq_false_iff_eq.mpr c18
        clear c18
        by_cases c19 : t314 = true
        ·subst c19
         have H1 : (none) = some r := by rw [if_pos rfl] at H; exact H
         clear H
         have H := H1
         clear H1
         exact absurd H (by simp)
        ·replace c19 := Bool.eq_false_iff.mpr c19
         subst c19
         have H1 : ((handshakerlaw20_ref.f t308 t311).bind fun bt340 => ((handshakerlaw20_ref.f t317 t320).bind fun bt346 => ((handshakerref20_Same.f k bt340.1 bt340.2 bt346.1 bt346.2).bind fun t352 => (if t352 = true then ((handshakerlaw20_awake.f k).bind fun t353 => (some t353)) else (none))))) = some r := by rw [if_neg (show ¬ (false = true) by decide)] at H; exact H
         clear H
         have H := H1
         clear H1
         replace H := Option.bind_eq_some_iff.mp H
         obtain ⟨⟨t340, t343⟩, A200, H⟩ := H
         replace H : ((handshakerlaw20_ref.f t317 t320).bind fun bt346 => ((handshakerref20_Same.f k t340 t343 bt346.1 bt346.2).bind fun t352 => (if t352 = true then ((handshakerlaw20_awake.f k).bind fun t353 => (some t353)) else (none)))) = some r := H
         have A20 := Aside0.mk A200
         clear A200
         replace H := Option.bind_eq_some_iff.mp H
         obtain ⟨⟨t346, t349⟩, A210, H⟩ := H
         replace H : ((handshakerref20_Same.f k t340 t343 t346 t349).bind fun t352 => (if t352 = true then ((handshakerlaw20_awake.f k).bind fun t353 => (some t353)) else (none))) = some r := H
         have A21 := Aside0.mk A210
         clear A210
         replace H := Option.bind_eq_some_iff.mp H
         obtain ⟨t352, A220, H⟩ := H
         replace H : (if t352 = true then ((handshakerlaw20_awake.f k).bind fun t353 => (some t353)) else (none)) = some r := H
         have A22 := Aside0.mk A220
         clear A220
         by_cases c23 : t352 = true
         ·subst c23
          have H1 : ((handshakerlaw20_awake.f k).bind fun t353 => (some t353)) = some r := by rw [if_pos rfl] at H; exact H
          clear H
          have H := H1
          clear H1
          replace H := Option.bind_eq_some_iff.mp H
          obtain ⟨t353, A240, H⟩ := H
          replace H : (some t353) = some r := H
          have A24 := Aside0.mk A240
          clear A240
          obtain rfl := Option.some.inj H
          go_enter Try.func7, Try.ntmps7
          try go_wp2_with (first | ((with_reducible refine gate_dst (N := 2) rfl ?_); (try (refine gate_guard (by rfl) ?_; dsimp only)); refine box_event ?hg (N := 2) ?hd (cs := #[.slice A0_0 l0_0.length c0_0, .slice A0_1 l0_1.length c0_1]) (t := 24) ?hr ?_; (case hd => rfl); (case hg => rfl); (case hr => first | (go_simp; done) | (go_simp; rfl)); intro gb264 hg w25 hbox hb; have n0_ := Aside0.mk (below_step (zc0 HB) hb); have n1_ := Aside0.mk (hbox); have n2_ := Aside0.mk ((by rw [hg]; exact (below_size (zc0 HB)) : w.heap.size ≤ gb264)); have n3_ := Aside0.mk ((by rw [hg]; exact (below_size (zc0 HB)) : w.heap.size ≤ gb264)); clear HB; have HB := n0_; have BK264 := n1_; have GW264 := n2_; have GE264 := n3_; clear n0_ n1_ n2_ n3_; clear hb hbox hg; have hcz26_0 : w25.cell? ⟨gb264, 0, none⟩ = some (.slice A0_0 l0_0.length c0_0) := (blk_cell BK264.out 0).trans rfl; have hcz26_1 : w25.cell? ⟨gb264, 1, none⟩ = some (.slice A0_1 l0_1.length c0_1) := (blk_cell BK264.out 1).trans rfl; have hfz26_0 := blk_frozen BK264.out 0; have hfz26_1 := blk_frozen BK264.out 1) | ((with_reducible refine gate_callee (f := 8) rfl ?_); refine goesL_ (some 18) rfl rfl Try.func8 (by kernel_rfl) rfl #[.agg #[.slice A0_0 l0_0.length c0_0, .slice A0_1 l0_1.length c0_1]] rfl zm ?_; (with_reducible refine (handshakerlaw20_small.calls _ _ l0_0 _ _ l0_1 true _ ?side1 ?side2 ?side3 ?side4 A3.out).mono ?_); (case side1 => repeat (first | exact (Kd.C_below HR0_0.out HB.out) | (with_reducible refine Kd.C_alloc ?_ _) | (with_reducible refine Kd.C_drewN ?_ _) | (with_reducible refine Kd.C_drew ?_))); (case side2 => exact HC0_0.out); (case side3 => repeat (first | exact (Kd.C_below HR0_1.out HB.out) | (with_reducible refine Kd.C_alloc ?_ _) | (with_reducible refine Kd.C_drewN ?_ _) | (with_reducible refine Kd.C_drew ?_))); (case side4 => exact HC0_1.out); rintro e w27 ⟨rfl, hb⟩; refine ⟨_, rfl, ?_⟩; have n0_ := Aside0.mk (blk_below (g := gb264) (o := .cells #[.slice A0_0 l0_0.length c0_0, .slice A0_1 l0_1.length c0_1] 24 (0, 0)) (zb BK264) hb); have n1_ := Aside0.mk (below_step (zc1 HB GE264) hb); clear BK264; clear HB; have BK264 := n0_; have HB := n1_; clear n0_ n1_; (try clear hb); (try clear hb2); (try clear hk); (try clear hi); have hcz28_0 : w27.cell? ⟨gb264, 0, none⟩ = some (.slice A0_0 l0_0.length c0_0) := (blk_cell BK264.out 0).trans rfl; have hcz28_1 : w27.cell? ⟨gb264, 1, none⟩ = some (.slice A0_1 l0_1.length c0_1) := (blk_cell BK264.out 1).trans rfl; have hfz28_0 := blk_frozen BK264.out 0; have hfz28_1 := blk_frozen BK264.out 1) | ((with_reducible refine gate_callee (f := 10) rfl ?_); refine goesL_ (some 24) rfl rfl Try.func10 (by kernel_rfl) rfl #[.agg #[.slice A0_0 l0_0.length c0_0, .slice A0_1 l0_1.length c0_1], .int .i64 a1] rfl zm ?_; (with_reducible refine (cond_Wait.calls k (fun k_ => k_ < w.heap.size) _ _ l0_0 (fun k_ => k_ < w.heap.size) _ _ l0_1 a1 t267 t270 t273 _ ?side1 ?side2 A5.out).mono ?_); (case side1 => exact Kd.V_mk HC0_0.out (Kd.F_below (Kd.C_F (Kd.heap_int .i64) HR0_0.out) (zc1 HB GE264))); (case side2 => exact Kd.V_mk HC0_1.out (Kd.F_below (Kd.C_F (Kd.heap_int .i64) HR0_1.out) (zc1 HB GE264))); rintro e w29 ⟨v268, v271, rfl, ho0, ho1, hb⟩; refine ⟨_, rfl, ?_⟩; have n0_ := Aside0.mk (Kd.V_lower (Kd.V_mono (ok' := fun k_ => k_ ≠ gb264) ho0 (fun k_ hk_ => Or.elim hk_ (fun hs_ => Or.elim hs_ (fun hs_ => fun e_ => Nat.not_le.2 hs_ (by rw [e_]; exact GW264.out)) (fun hs_ => fun e_ => Nat.not_le.2 hs_ (by rw [e_]; exact GW264.out))) (fun hn_ => (Kd.freshB (g := gb264) (o := .cells #[.slice A0_0 l0_0.length c0_0, .slice A0_1 l0_1.length c0_1] 24 (0, 0)) (zb BK264) k_ hn_)))) (below_size (zc1 HB GE264))); have n1_ := Aside0.mk (Kd.V_lower (Kd.V_mono (ok' := fun k_ => k_ ≠ gb264) ho1 (fun k_ hk_ => Or.elim hk_ (fun hs_ => Or.elim hs_ (fun hs_ => fun e_ => Nat.not_le.2 hs_ (by rw [e_]; exact GW264.out)) (fun hs_ => fun e_ => Nat.not_le.2 hs_ (by rw [e_]; exact GW264.out))) (fun hn_ => (Kd.freshB (g := gb264) (o := .cells #[.slice A0_0 l0_0.length c0_0, .slice A0_1 l0_1.length c0_1] 24 (0, 0)) (zb BK264) k_ hn_)))) (below_size (zc1 HB GE264))); have n2_ := Aside0.mk (blk_below (g := gb264) (o := .cells #[.slice A0_0 l0_0.length c0_0, .slice A0_1 l0_1.length c0_1] 24 (0, 0)) (zb BK264) hb); have n3_ := Aside0.mk (below_step (zc1 HB GE264) hb); clear BK264; clear HB; have HO269 := n0_; have HO272 := n1_; have BK264 := n2_; have HB := n3_; clear n0_ n1_ n2_ n3_; (try clear hb); (try clear hb2); (try clear hk); (try clear hi); (try clear ho0); (try clear ho1)) | ((with_reducible refine gate_dst (N := 5) rfl ?_); (try (refine gate_guard (by rfl) ?_; dsimp only)); refine box_event ?hg (N := 5) ?hd (cs := #[.slice none 0 0, .slice none 0 0]) (t := 24) ?hr ?_; (case hd => rfl); (case hg => rfl); (case hr => first | (go_simp; done) | (go_simp; rfl)); intro gb274 hg w30 hbox hb; have n0_ := Aside0.mk (Kd.V_below (Kd.V_elderB (zV HO269) gb274 (Nat.le_of_eq hg.symm)) hb); have n1_ := Aside0.mk (Kd.V_below (Kd.V_elderB (zV HO272) gb274 (Nat.le_of_eq hg.symm)) hb); have n2_ := Aside0.mk (blk_below (g := gb264) (o := .cells #[.slice A0_0 l0_0.length c0_0, .slice A0_1 l0_1.length c0_1] 24 (0, 0)) (zb BK264) hb); have n3_ := Aside0.mk (below_step (zc1 HB GE264) hb); have n4_ := Aside0.mk (hbox); have n5_ := Aside0.mk ((by rw [hg]; exact (below_size (zc1 HB GE264)) : w.heap.size ≤ gb274)); have n6_ := Aside0.mk ((by rw [hg]; exact (below_size (zc1 HB GE264)) : w.heap.size ≤ gb274)); have n7_ := Aside0.mk ((by rw [hg]; exact Nat.ne_of_lt (blk_lt (g := gb264) (o := .cells #[.slice A0_0 l0_0.length c0_0, .slice A0_1 l0_1.length c0_1] 24 (0, 0)) (zb BK264)) : gb264 ≠ gb274)); have n8_ := Aside0.mk ((by rw [hg]; exact Nat.ne_of_gt (blk_lt (g := gb264) (o := .cells #[.slice A0_0 l0_0.length c0_0, .slice A0_1 l0_1.length c0_1] 24 (0, 0)) (zb BK264)) : gb274 ≠ gb264)); clear HO269; clear HO272; clear BK264; clear HB; have HO269 := n0_; have HO272 := n1_; have BK264 := n2_; have HB := n3_; have BK274 := n4_; have GW274 := n5_; have GE274 := n6_; have NB264_274 := n7_; have NB274_264 := n8_; clear n0_ n1_ n2_ n3_ n4_ n5_ n6_ n7_ n8_; clear hb hbox hg; obtain ⟨Ao31, co31, eo31⟩ := Kd.V_slice HO269.out; subst eo31; have hnb32 := NB274_264.out; have hnc32 := NB264_274.out; have hcz33_0 : w30.cell? ⟨gb274, 0, none⟩ = some (.slice none 0 0) := (blk_cell BK274.out 0).trans rfl; have hcz33_1 : w30.cell? ⟨gb274, 1, none⟩ = some (.slice none 0 0) := (blk_cell BK274.out 1).trans rfl; have hfz33_0 := blk_frozen BK274.out 0; have hfz33_1 := blk_frozen BK274.out 1; obtain ⟨Ao34, co34, eo34⟩ := Kd.V_slice HO272.out; subst eo34) | ((with_reducible refine gate_store (t := 24) (p := 5) rfl ?_); refine store_event (t := 24) (p := 5) (v := ?vo_w35) (w1 := ((w30.setCell ⟨gb274, 0, none⟩ (.slice Ao31 t267.length co31)).setCell ⟨gb274, 1, none⟩ (.slice Ao34 t270.length co34))) ?hg ?ho ?hn ?hr ?_; (case ho => rfl); (case hg => rfl); (case hn => rfl); (case hr => first | (go_simp; done) | (go_simp; rfl)); intro w35 hw; have n0_ : Aside0 (Kd.V (Kd.int .i64) 3 w35 w.heap.size (fun k_ => k_ ≠ gb264 ∧ k_ ≠ gb274) (.slice Ao31 t267.length co31) t267) := ⟨(by rw [hw]; exact (by (with_reducible repeat (first | apply Kd.V_alloc | apply Kd.V_drewN | apply Kd.V_drew)); exact Kd.V_mono (Kd.V_far (p := ⟨gb274, 1, none⟩) (Kd.V_far (p := ⟨gb274, 0, none⟩) (Kd.V_mono HO269.out (fun k_ hk => (⟨hk, hk.2⟩ : _ ∧ k_ ≠ gb274))) (fun _ hk => hk.2) (.slice Ao31 t267.length co31)) (fun _ hk => hk.2) (.slice Ao34 t270.length co34)) (fun _ hk => ⟨hk.1.1, hk.1.2⟩)))⟩; have n1_ : Aside0 (Kd.V (Kd.int .i64) 3 w35 w.heap.size (fun k_ => k_ ≠ gb264 ∧ k_ ≠ gb274) (.slice Ao34 t270.length co34) t270) := ⟨(by rw [hw]; exact (by (with_reducible repeat (first | apply Kd.V_alloc | apply Kd.V_drewN | apply Kd.V_drew)); exact Kd.V_mono (Kd.V_far (p := ⟨gb274, 1, none⟩) (Kd.V_far (p := ⟨gb274, 0, none⟩) (Kd.V_mono HO272.out (fun k_ hk => (⟨hk, hk.2⟩ : _ ∧ k_ ≠ gb274))) (fun _ hk => hk.2) (.slice Ao31 t267.length co31)) (fun _ hk => hk.2) (.slice Ao34 t270.length co34)) (fun _ hk => ⟨hk.1.1, hk.1.2⟩)))⟩; have n2_ : Aside0 (w35.heap[gb264]? = some (.cells #[.slice A0_0 l0_0.length c0_0, .slice A0_1 l0_1.length c0_1] 24 (0, 0))) := ⟨(by rw [hw]; exact (by (with_reducible repeat (first | refine blk_drewN ?_ _ | refine blk_drew ?_ | refine blk_alloc ?_ _)); refine blk_far ?_ NB264_274.out _; (with_reducible repeat (first | refine blk_drewN ?_ _ | refine blk_drew ?_ | refine blk_alloc ?_ _)); refine blk_far ?_ NB264_274.out _; (with_reducible repeat (first | refine blk_drewN ?_ _ | refine blk_drew ?_ | refine blk_alloc ?_ _)); exact BK264.out))⟩; have n3_ : Aside0 (w35.heap[gb274]? = some (.cells #[.slice Ao31 t267.length co31, .slice Ao34 t270.length co34] 24 (0, 0))) := ⟨(by rw [hw]; exact (by (with_reducible repeat (first | refine blk_drewN ?_ _ | refine blk_drew ?_ | refine blk_alloc ?_ _)); refine blk_put (cs := #[.slice Ao31 t267.length co31, .slice none 0 0]) ?_ 1 _ rfl; (with_reducible repeat (first | refine blk_drewN ?_ _ | refine blk_drew ?_ | refine blk_alloc ?_ _)); refine blk_put (cs := #[.slice none 0 0, .slice none 0 0]) ?_ 0 _ rfl; (with_reducible repeat (first | refine blk_drewN ?_ _ | refine blk_drew ?_ | refine blk_alloc ?_ _)); exact BK274.out))⟩; have n4_ : Aside0 (Below w.heap.size w w35) := ⟨(by rw [hw]; exact (zc2 HB GE264 GE274))⟩; clear hw; clear HO269; clear HO272; clear BK264; clear BK274; clear HB; have HO269 := n0_; have HO272 := n1_; have BK264 := n2_; have BK274 := n3_; have HB := n4_; clear n0_ n1_ n2_ n3_ n4_; have hcz36_0 : w35.cell? ⟨gb274, 0, none⟩ = some (.slice Ao31 t267.length co31) := (blk_cell BK274.out 0).trans rfl; have hcz36_1 : w35.cell? ⟨gb274, 1, none⟩ = some (.slice Ao34 t270.length co34) := (blk_cell BK274.out 1).trans rfl; have hfz36_0 := blk_frozen BK274.out 0; have hfz36_1 := blk_frozen BK274.out 1) | ((with_reducible refine gate_callee (f := 17) rfl ?_); refine goesL_ (some 40) rfl rfl Try.func17 (by kernel_rfl) rfl #[.agg #[.slice Ao31 t267.length co31, .slice Ao34 t270.length co34], .int .i64 a1] rfl zm ?_; (with_reducible refine (cond_Leave.calls k (fun k_ => (k_ ≠ gb264 ∧ k_ ≠ gb274)) _ _ t267 (fun k_ => (k_ ≠ gb264 ∧ k_ ≠ gb274)) _ _ t270 a1 t289 t292 false t296 _ ?side1 ?side2 A7.out).mono ?_); (case side1 => exact HO269.out); (case side2 => exact HO272.out); rintro e w37 ⟨v290, v293, rfl, ho0, ho1, hb⟩; refine ⟨_, rfl, ?_⟩; have n0_ := Aside0.mk (Kd.V_below (zV HO269) hb); have n1_ := Aside0.mk (Kd.V_below (zV HO272) hb); have n2_ := Aside0.mk (Kd.V_lower (Kd.V_mono (ok' := fun k_ => k_ ≠ gb264 ∧ k_ ≠ gb274) ho0 (fun k_ hk_ => ⟨Or.elim hk_ (fun hs_ => Or.elim hs_ (fun hs_ => hs_.1) (fun hs_ => hs_.1)) (fun hn_ => (Kd.freshB (g := gb264) (o := .cells #[.slice A0_0 l0_0.length c0_0, .slice A0_1 l0_1.length c0_1] 24 (0, 0)) (zb BK264) k_ hn_)), Or.elim hk_ (fun hs_ => Or.elim hs_ (fun hs_ => hs_.2) (fun hs_ => hs_.2)) (fun hn_ => (Kd.freshB (g := gb274) (o := .cells #[.slice Ao31 t267.length co31, .slice Ao34 t270.length co34] 24 (0, 0)) (zb BK274) k_ hn_))⟩)) (below_size (zc2 HB GE264 GE274))); have n3_ := Aside0.mk (Kd.V_lower (Kd.V_mono (ok' := fun k_ => k_ ≠ gb264 ∧ k_ ≠ gb274) ho1 (fun k_ hk_ => ⟨Or.elim hk_ (fun hs_ => Or.elim hs_ (fun hs_ => hs_.1) (fun hs_ => hs_.1)) (fun hn_ => (Kd.freshB (g := gb264) (o := .cells #[.slice A0_0 l0_0.length c0_0, .slice A0_1 l0_1.length c0_1] 24 (0, 0)) (zb BK264) k_ hn_)), Or.elim hk_ (fun hs_ => Or.elim hs_ (fun hs_ => hs_.2) (fun hs_ => hs_.2)) (fun hn_ => (Kd.freshB (g := gb274) (o := .cells #[.slice Ao31 t267.length co31, .slice Ao34 t270.length co34] 24 (0, 0)) (zb BK274) k_ hn_))⟩)) (below_size (zc2 HB GE264 GE274))); have n4_ := Aside0.mk (blk_below (g := gb264) (o := .cells #[.slice A0_0 l0_0.length c0_0, .slice A0_1 l0_1.length c0_1] 24 (0, 0)) (zb BK264) hb); have n5_ := Aside0.mk (blk_below (g := gb274) (o := .cells #[.slice Ao31 t267.length co31, .slice Ao34 t270.length co34] 24 (0, 0)) (zb BK274) hb); have n6_ := Aside0.mk (below_step (zc2 HB GE264 GE274) hb); clear HO269; clear HO272; clear BK264; clear BK274; clear HB; have HO269 := n0_; have HO272 := n1_; have HO291 := n2_; have HO294 := n3_; have BK264 := n4_; have BK274 := n5_; have HB := n6_; clear n0_ n1_ n2_ n3_ n4_ n5_ n6_; (try clear hb); (try clear hb2); (try clear hk); (try clear hi); (try clear ho0); (try clear ho1)) | ((with_reducible refine gate_dst (N := 7) rfl ?_); (try (refine gate_guard (by rfl) ?_; dsimp only)); refine box_event ?hg (N := 7) ?hd (cs := #[.slice none 0 0, .slice none 0 0]) (t := 24) ?hr ?_; (case hd => rfl); (case hg => rfl); (case hr => first | (go_simp; done) | (go_simp; rfl)); intro gb297 hg w38 hbox hb; have n0_ := Aside0.mk (Kd.V_below (Kd.V_elderB (zV HO269) gb297 (Nat.le_of_eq hg.symm)) hb); have n1_ := Aside0.mk (Kd.V_below (Kd.V_elderB (zV HO272) gb297 (Nat.le_of_eq hg.symm)) hb); have n2_ := Aside0.mk (Kd.V_below (Kd.V_elderB (zV HO291) gb297 (Nat.le_of_eq hg.symm)) hb); have n3_ := Aside0.mk (Kd.V_below (Kd.V_elderB (zV HO294) gb297 (Nat.le_of_eq hg.symm)) hb); have n4_ := Aside0.mk (blk_below (g := gb264) (o := .cells #[.slice A0_0 l0_0.length c0_0, .slice A0_1 l0_1.length c0_1] 24 (0, 0)) (zb BK264) hb); have n5_ := Aside0.mk (blk_below (g := gb274) (o := .cells #[.slice Ao31 t267.length co31, .slice Ao34 t270.length co34] 24 (0, 0)) (zb BK274) hb); have n6_ := Aside0.mk (below_step (zc2 HB GE264 GE274) hb); have n7_ := Aside0.mk (hbox); have n8_ := Aside0.mk ((by rw [hg]; exact (below_size (zc2 HB GE264 GE274)) : w.heap.size ≤ gb297)); have n9_ := Aside0.mk ((by rw [hg]; exact (below_size (zc2 HB GE264 GE274)) : w.heap.size ≤ gb297)); have n10_ := Aside0.mk ((by rw [hg]; exact Nat.ne_of_lt (blk_lt (g := gb264) (o := .cells #[.slice A0_0 l0_0.length c0_0, .slice A0_1 l0_1.length c0_1] 24 (0, 0)) (zb BK264)) : gb264 ≠ gb297)); have n11_ := Aside0.mk ((by rw [hg]; exact Nat.ne_of_gt (blk_lt (g := gb264) (o := .cells #[.slice A0_0 l0_0.length c0_0, .slice A0_1 l0_1.length c0_1] 24 (0, 0)) (zb BK264)) : gb297 ≠ gb264)); have n12_ := Aside0.mk ((by rw [hg]; exact Nat.ne_of_lt (blk_lt (g := gb274) (o := .cells #[.slice Ao31 t267.length co31, .slice Ao34 t270.length co34] 24 (0, 0)) (zb BK274)) : gb274 ≠ gb297)); have n13_ := Aside0.mk ((by rw [hg]; exact Nat.ne_of_gt (blk_lt (g := gb274) (o := .cells #[.slice Ao31 t267.length co31, .slice Ao34 t270.length co34] 24 (0, 0)) (zb BK274)) : gb297 ≠ gb274)); clear HO269; clear HO272; clear HO291; clear HO294; clear BK264; clear BK274; clear HB; have HO269 := n0_; have HO272 := n1_; have HO291 := n2_; have HO294 := n3_; have BK264 := n4_; have BK274 := n5_; have HB := n6_; have BK297 := n7_; have GW297 := n8_; have GE297 := n9_; have NB264_297 := n10_; have NB297_264 := n11_; have NB274_297 := n12_; have NB297_274 := n13_; clear n0_ n1_ n2_ n3_ n4_ n5_ n6_ n7_ n8_ n9_ n10_ n11_ n12_ n13_; clear hb hbox hg; obtain ⟨Ao39, co39, eo39⟩ := Kd.V_slice HO291.out; subst eo39; have hnb40 := NB297_264.out; have hnc40 := NB264_297.out; have hnb41 := NB297_274.out; have hnc41 := NB274_297.out; have hcz42_0 : w38.cell? ⟨gb297, 0, none⟩ = some (.slice none 0 0) := (blk_cell BK297.out 0).trans rfl; have hcz42_1 : w38.cell? ⟨gb297, 1, none⟩ = some (.slice none 0 0) := (blk_cell BK297.out 1).trans rfl; have hfz42_0 := blk_frozen BK297.out 0; have hfz42_1 := blk_frozen BK297.out 1; obtain ⟨Ao43, co43, eo43⟩ := Kd.V_slice HO294.out; subst eo43) | ((with_reducible refine gate_store (t := 24) (p := 7) rfl ?_); refine store_event (t := 24) (p := 7) (v := ?vo_w44) (w1 := ((w38.setCell ⟨gb297, 0, none⟩ (.slice Ao39 t289.length co39)).setCell ⟨gb297, 1, none⟩ (.slice Ao43 t292.length co43))) ?hg ?ho ?hn ?hr ?_; (case ho => rfl); (case hg => rfl); (case hn => rfl); (case hr => first | (go_simp; done) | (go_simp; rfl)); intro w44 hw; have n0_ : Aside0 (Kd.V (Kd.int .i64) 3 w44 w.heap.size (fun k_ => k_ ≠ gb264 ∧ k_ ≠ gb274 ∧ k_ ≠ gb297) (.slice Ao31 t267.length co31) t267) := ⟨(by rw [hw]; exact (by (with_reducible repeat (first | apply Kd.V_alloc | apply Kd.V_drewN | apply Kd.V_drew)); exact Kd.V_mono (Kd.V_far (p := ⟨gb297, 1, none⟩) (Kd.V_far (p := ⟨gb297, 0, none⟩) (Kd.V_mono HO269.out (fun k_ hk => (⟨hk, hk.2⟩ : _ ∧ k_ ≠ gb297))) (fun _ hk => hk.2) (.slice Ao39 t289.length co39)) (fun _ hk => hk.2) (.slice Ao43 t292.length co43)) (fun _ hk => ⟨hk.1.1.1, ⟨hk.1.1.2, hk.1.2⟩⟩)))⟩; have n1_ : Aside0 (Kd.V (Kd.int .i64) 3 w44 w.heap.size (fun k_ => k_ ≠ gb264 ∧ k_ ≠ gb274 ∧ k_ ≠ gb297) (.slice Ao34 t270.length co34) t270) := ⟨(by rw [hw]; exact (by (with_reducible repeat (first | apply Kd.V_alloc | apply Kd.V_drewN | apply Kd.V_drew)); exact Kd.V_mono (Kd.V_far (p := ⟨gb297, 1, none⟩) (Kd.V_far (p := ⟨gb297, 0, none⟩) (Kd.V_mono HO272.out (fun k_ hk => (⟨hk, hk.2⟩ : _ ∧ k_ ≠ gb297))) (fun _ hk => hk.2) (.slice Ao39 t289.length co39)) (fun _ hk => hk.2) (.slice Ao43 t292.length co43)) (fun _ hk => ⟨hk.1.1.1, ⟨hk.1.1.2, hk.1.2⟩⟩)))⟩; have n2_ : Aside0 (Kd.V (Kd.int .i64) 3 w44 w.heap.size (fun k_ => k_ ≠ gb264 ∧ k_ ≠ gb274 ∧ k_ ≠ gb297) (.slice Ao39 t289.length co39) t289) := ⟨(by rw [hw]; exact (by (with_reducible repeat (first | apply Kd.V_alloc | apply Kd.V_drewN | apply Kd.V_drew)); exact Kd.V_mono (Kd.V_far (p := ⟨gb297, 1, none⟩) (Kd.V_far (p := ⟨gb297, 0, none⟩) (Kd.V_mono HO291.out (fun k_ hk => (⟨hk, hk.2⟩ : _ ∧ k_ ≠ gb297))) (fun _ hk => hk.2) (.slice Ao39 t289.length co39)) (fun _ hk => hk.2) (.slice Ao43 t292.length co43)) (fun _ hk => ⟨hk.1.1.1, ⟨hk.1.1.2, hk.1.2⟩⟩)))⟩; have n3_ : Aside0 (Kd.V (Kd.int .i64) 3 w44 w.heap.size (fun k_ => k_ ≠ gb264 ∧ k_ ≠ gb274 ∧ k_ ≠ gb297) (.slice Ao43 t292.length co43) t292) := ⟨(by rw [hw]; exact (by (with_reducible repeat (first | apply Kd.V_alloc | apply Kd.V_drewN | apply Kd.V_drew)); exact Kd.V_mono (Kd.V_far (p := ⟨gb297, 1, none⟩) (Kd.V_far (p := ⟨gb297, 0, none⟩) (Kd.V_mono HO294.out (fun k_ hk => (⟨hk, hk.2⟩ : _ ∧ k_ ≠ gb297))) (fun _ hk => hk.2) (.slice Ao39 t289.length co39)) (fun _ hk => hk.2) (.slice Ao43 t292.length co43)) (fun _ hk => ⟨hk.1.1.1, ⟨hk.1.1.2, hk.1.2⟩⟩)))⟩; have n4_ : Aside0 (w44.heap[gb264]? = some (.cells #[.slice A0_0 l0_0.length c0_0, .slice A0_1 l0_1.length c0_1] 24 (0, 0))) := ⟨(by rw [hw]; exact (by (with_reducible repeat (first | refine blk_drewN ?_ _ | refine blk_drew ?_ | refine blk_alloc ?_ _)); refine blk_far ?_ NB264_297.out _; (with_reducible repeat (first | refine blk_drewN ?_ _ | refine blk_drew ?_ | refine blk_alloc ?_ _)); refine blk_far ?_ NB264_297.out _; (with_reducible repeat (first | refine blk_drewN ?_ _ | refine blk_drew ?_ | refine blk_alloc ?_ _)); exact BK264.out))⟩; have n5_ : Aside0 (w44.heap[gb274]? = some (.cells #[.slice Ao31 t267.length co31, .slice Ao34 t270.length co34] 24 (0, 0))) := ⟨(by rw [hw]; exact (by (with_reducible repeat (first | refine blk_drewN ?_ _ | refine blk_drew ?_ | refine blk_alloc ?_ _)); refine blk_far ?_ NB274_297.out _; (with_reducible repeat (first | refine blk_drewN ?_ _ | refine blk_drew ?_ | refine blk_alloc ?_ _)); refine blk_far ?_ NB274_297.out _; (with_reducible repeat (first | refine blk_drewN ?_ _ | refine blk_drew ?_ | refine blk_alloc ?_ _)); exact BK274.out))⟩; have n6_ : Aside0 (w44.heap[gb297]? = some (.cells #[.slice Ao39 t289.length co39, .slice Ao43 t292.length co43] 24 (0, 0))) := ⟨(by rw [hw]; exact (by (with_reducible repeat (first | refine blk_drewN ?_ _ | refine blk_drew ?_ | refine blk_alloc ?_ _)); refine blk_put (cs := #[.slice Ao39 t289.length co39, .slice none 0 0]) ?_ 1 _ rfl; (with_reducible repeat (first | refine blk_drewN ?_ _ | refine blk_drew ?_ | refine blk_alloc ?_ _)); refine blk_put (cs := #[.slice none 0 0, .slice none 0 0]) ?_ 0 _ rfl; (with_reducible repeat (first | refine blk_drewN ?_ _ | refine blk_drew ?_ | refine blk_alloc ?_ _)); exact BK297.out))⟩; have n7_ : Aside0 (Below w.heap.size w w44) := ⟨(by rw [hw]; exact (zc3 HB GE264 GE274 GE297))⟩; clear hw; clear HO269; clear HO272; clear HO291; clear HO294; clear BK264; clear BK274; clear BK297; clear HB; have HO269 := n0_; have HO272 := n1_; have HO291 := n2_; have HO294 := n3_; have BK264 := n4_; have BK274 := n5_; have BK297 := n6_; have HB := n7_; clear n0_ n1_ n2_ n3_ n4_ n5_ n6_ n7_; have hcz45_0 : w44.cell? ⟨gb274, 0, none⟩ = some (.slice Ao31 t267.length co31) := (blk_cell BK274.out 0).trans rfl; have hcz45_1 : w44.cell? ⟨gb274, 1, none⟩ = some (.slice Ao34 t270.length co34) := (blk_cell BK274.out 1).trans rfl; have hfz45_0 := blk_frozen BK274.out 0; have hfz45_1 := blk_frozen BK274.out 1) | ((with_reducible refine gate_callee (f := 13) rfl ?_); refine goesL_ (some 49) rfl rfl Try.func13 (by kernel_rfl) rfl #[.agg #[.slice Ao31 t267.length co31, .slice Ao34 t270.length co34], .int .i64 (t267.length : Int)] rfl zm ?_; (with_reducible refine (cond_Signal.calls k (fun k_ => (k_ ≠ gb264 ∧ (k_ ≠ gb274 ∧ k_ ≠ gb297))) _ _ t267 (fun k_ => (k_ ≠ gb264 ∧ (k_ ≠ gb274 ∧ k_ ≠ gb297))) _ _ t270 (t267.length : Int) t298 t301 t304 _ ?side1 ?side2 A8.out).mono ?_); (case side1 => exact HO269.out); (case side2 => exact HO272.out); rintro e w46 ⟨v299, v302, v305, rfl, ho0, ho1, ho2, hb⟩; refine ⟨_, rfl, ?_⟩; have n0_ := Aside0.mk (Kd.V_below (zV HO269) hb); have n1_ := Aside0.mk (Kd.V_below (zV HO272) hb); have n2_ := Aside0.mk (Kd.V_below (zV HO291) hb); have n3_ := Aside0.mk (Kd.V_below (zV HO294) hb); have n4_ := Aside0.mk (Kd.V_lower (Kd.V_mono (ok' := fun k_ => k_ ≠ gb264 ∧ k_ ≠ gb274 ∧ k_ ≠ gb297) ho0 (fun k_ hk_ => ⟨Or.elim hk_ (fun hs_ => Or.elim hs_ (fun hs_ => hs_.1) (fun hs_ => hs_.1)) (fun hn_ => (Kd.freshB (g := gb264) (o := .cells #[.slice A0_0 l0_0.length c0_0, .slice A0_1 l0_1.length c0_1] 24 (0, 0)) (zb BK264) k_ hn_)), Or.elim hk_ (fun hs_ => Or.elim hs_ (fun hs_ => hs_.2.1) (fun hs_ => hs_.2.1)) (fun hn_ => (Kd.freshB (g := gb274) (o := .cells #[.slice Ao31 t267.length co31, .slice Ao34 t270.length co34] 24 (0, 0)) (zb BK274) k_ hn_)), Or.elim hk_ (fun hs_ => Or.elim hs_ (fun hs_ => hs_.2.2) (fun hs_ => hs_.2.2)) (fun hn_ => (Kd.freshB (g := gb297) (o := .cells #[.slice Ao39 t289.length co39, .slice Ao43 t292.length co43] 24 (0, 0)) (zb BK297) k_ hn_))⟩)) (below_size (zc3 HB GE264 GE274 GE297))); have n5_ := Aside0.mk (Kd.V_lower (Kd.V_mono (ok' := fun k_ => k_ ≠ gb264 ∧ k_ ≠ gb274 ∧ k_ ≠ gb297) ho1 (fun k_ hk_ => ⟨Or.elim hk_ (fun hs_ => Or.elim hs_ (fun hs_ => hs_.1) (fun hs_ => hs_.1)) (fun hn_ => (Kd.freshB (g := gb264) (o := .cells #[.slice A0_0 l0_0.length c0_0, .slice A0_1 l0_1.length c0_1] 24 (0, 0)) (zb BK264) k_ hn_)), Or.elim hk_ (fun hs_ => Or.elim hs_ (fun hs_ => hs_.2.1) (fun hs_ => hs_.2.1)) (fun hn_ => (Kd.freshB (g := gb274) (o := .cells #[.slice Ao31 t267.length co31, .slice Ao34 t270.length co34] 24 (0, 0)) (zb BK274) k_ hn_)), Or.elim hk_ (fun hs_ => Or.elim hs_ (fun hs_ => hs_.2.2) (fun hs_ => hs_.2.2)) (fun hn_ => (Kd.freshB (g := gb297) (o := .cells #[.slice Ao39 t289.length co39, .slice Ao43 t292.length co43] 24 (0, 0)) (zb BK297) k_ hn_))⟩)) (below_size (zc3 HB GE264 GE274 GE297))); have n6_ := Aside0.mk (Kd.V_lower (Kd.V_mono (ok' := fun k_ => k_ ≠ gb264 ∧ k_ ≠ gb274 ∧ k_ ≠ gb297) ho2 (fun k_ hk_ => ⟨Or.elim hk_ (fun hs_ => Or.elim hs_ (fun hs_ => hs_.1) (fun hs_ => hs_.1)) (fun hn_ => (Kd.freshB (g := gb264) (o := .cells #[.slice A0_0 l0_0.length c0_0, .slice A0_1 l0_1.length c0_1] 24 (0, 0)) (zb BK264) k_ hn_)), Or.elim hk_ (fun hs_ => Or.elim hs_ (fun hs_ => hs_.2.1) (fun hs_ => hs_.2.1)) (fun hn_ => (Kd.freshB (g := gb274) (o := .cells #[.slice Ao31 t267.length co31, .slice Ao34 t270.length co34] 24 (0, 0)) (zb BK274) k_ hn_)), Or.elim hk_ (fun hs_ => Or.elim hs_ (fun hs_ => hs_.2.2) (fun hs_ => hs_.2.2)) (fun hn_ => (Kd.freshB (g := gb297) (o := .cells #[.slice Ao39 t289.length co39, .slice Ao43 t292.length co43] 24 (0, 0)) (zb BK297) k_ hn_))⟩)) (below_size (zc3 HB GE264 GE274 GE297))); have n7_ := Aside0.mk (blk_below (g := gb264) (o := .cells #[.slice A0_0 l0_0.length c0_0, .slice A0_1 l0_1.length c0_1] 24 (0, 0)) (zb BK264) hb); have n8_ := Aside0.mk (blk_below (g := gb274) (o := .cells #[.slice Ao31 t267.length co31, .slice Ao34 t270.length co34] 24 (0, 0)) (zb BK274) hb); have n9_ := Aside0.mk (blk_below (g := gb297) (o := .cells #[.slice Ao39 t289.length co39, .slice Ao43 t292.length co43] 24 (0, 0)) (zb BK297) hb); have n10_ := Aside0.mk (below_step (zc3 HB GE264 GE274 GE297) hb); clear HO269; clear HO272; clear HO291; clear HO294; clear BK264; clear BK274; clear BK297; clear HB; have HO269 := n0_; have HO272 := n1_; have HO291 := n2_; have HO294 := n3_; have HO300 := n4_; have HO303 := n5_; have HO306 := n6_; have BK264 := n7_; have BK274 := n8_; have BK297 := n9_; have HB := n10_; clear n0_ n1_ n2_ n3_ n4_ n5_ n6_ n7_ n8_ n9_ n10_; (try clear hb); (try clear hb2); (try clear hk); (try clear hi); (try clear ho0); (try clear ho1); (try clear ho2)) | ((with_reducible refine gate_dst (N := 10) rfl ?_); (try (refine gate_guard (by rfl) ?_; dsimp only)); refine box_event ?hg (N := 10) ?hd (cs := #[.slice none 0 0, .slice none 0 0]) (t := 24) ?hr ?_; (case hd => rfl); (case hg => rfl); (case hr => first | (go_simp; done) | (go_simp; rfl)); intro gb307 hg w47 hbox hb; have n0_ := Aside0.mk (Kd.V_below (Kd.V_elderB (zV HO269) gb307 (Nat.le_of_eq hg.symm)) hb); have n1_ := Aside0.mk (Kd.V_below (Kd.V_elderB (zV HO272) gb307 (Nat.le_of_eq hg.symm)) hb); have n2_ := Aside0.mk (Kd.V_below (Kd.V_elderB (zV HO291) gb307 (Nat.le_of_eq hg.symm)) hb); have n3_ := Aside0.mk (Kd.V_below (Kd.V_elderB (zV HO294) gb307 (Nat.le_of_eq hg.symm)) hb); have n4_ := Aside0.mk (Kd.V_below (Kd.V_elderB (zV HO300) gb307 (Nat.le_of_eq hg.symm)) hb); have n5_ := Aside0.mk (Kd.V_below (Kd.V_elderB (zV HO303) gb307 (Nat.le_of_eq hg.symm)) hb); have n6_ := Aside0.mk (Kd.V_below (Kd.V_elderB (zV HO306) gb307 (Nat.le_of_eq hg.symm)) hb); have n7_ := Aside0.mk (blk_below (g := gb264) (o := .cells #[.slice A0_0 l0_0.length c0_0, .slice A0_1 l0_1.length c0_1] 24 (0, 0)) (zb BK264) hb); have n8_ := Aside0.mk (blk_below (g := gb274) (o := .cells #[.slice Ao31 t267.length co31, .slice Ao34 t270.length co34] 24 (0, 0)) (zb BK274) hb); have n9_ := Aside0.mk (blk_below (g := gb297) (o := .cells #[.slice Ao39 t289.length co39, .slice Ao43 t292.length co43] 24 (0, 0)) (zb BK297) hb); have n10_ := Aside0.mk (below_step (zc3 HB GE264 GE274 GE297) hb); have n11_ := Aside0.mk (hbox); have n12_ := Aside0.mk ((by rw [hg]; exact (below_size (zc3 HB GE264 GE274 GE297)) : w.heap.size ≤ gb307)); have n13_ := Aside0.mk ((by rw [hg]; exact (below_size (zc3 HB GE264 GE274 GE297)) : w.heap.size ≤ gb307)); have n14_ := Aside0.mk ((by rw [hg]; exact Nat.ne_of_lt (blk_lt (g := gb264) (o := .cells #[.slice A0_0 l0_0.length c0_0, .slice A0_1 l0_1.length c0_1] 24 (0, 0)) (zb BK264)) : gb264 ≠ gb307)); have n15_ := Aside0.mk ((by rw [hg]; exact Nat.ne_of_gt (blk_lt (g := gb264) (o := .cells #[.slice A0_0 l0_0.length c0_0, .slice A0_1 l0_1.length c0_1] 24 (0, 0)) (zb BK264)) : gb307 ≠ gb264)); have n16_ := Aside0.mk ((by rw [hg]; exact Nat.ne_of_lt (blk_lt (g := gb274) (o := .cells #[.slice Ao31 t267.length co31, .slice Ao34 t270.length co34] 24 (0, 0)) (zb BK274)) : gb274 ≠ gb307)); have n17_ := Aside0.mk ((by rw [hg]; exact Nat.ne_of_gt (blk_lt (g := gb274) (o := .cells #[.slice Ao31 t267.length co31, .slice Ao34 t270.length co34] 24 (0, 0)) (zb BK274)) : gb307 ≠ gb274)); have n18_ := Aside0.mk ((by rw [hg]; exact Nat.ne_of_lt (blk_lt (g := gb297) (o := .cells #[.slice Ao39 t289.length co39, .slice Ao43 t292.length co43] 24 (0, 0)) (zb BK297)) : gb297 ≠ gb307)); have n19_ := Aside0.mk ((by rw [hg]; exact Nat.ne_of_gt (blk_lt (g := gb297) (o := .cells #[.slice Ao39 t289.length co39, .slice Ao43 t292.length co43] 24 (0, 0)) (zb BK297)) : gb307 ≠ gb297)); clear HO269; clear HO272; clear HO291; clear HO294; clear HO300; clear HO303; clear HO306; clear BK264; clear BK274; clear BK297; clear HB; have HO269 := n0_; have HO272 := n1_; have HO291 := n2_; have HO294 := n3_; have HO300 := n4_; have HO303 := n5_; have HO306 := n6_; have BK264 := n7_; have BK274 := n8_; have BK297 := n9_; have HB := n10_; have BK307 := n11_; have GW307 := n12_; have GE307 := n13_; have NB264_307 := n14_; have NB307_264 := n15_; have NB274_307 := n16_; have NB307_274 := n17_; have NB297_307 := n18_; have NB307_297 := n19_; clear n0_ n1_ n2_ n3_ n4_ n5_ n6_ n7_ n8_ n9_ n10_ n11_ n12_ n13_ n14_ n15_ n16_ n17_ n18_ n19_; clear hb hbox hg; obtain ⟨Ao48, co48, eo48⟩ := Kd.V_slice HO300.out; subst eo48; have hnb49 := NB307_264.out; have hnc49 := NB264_307.out; have hnb50 := NB307_274.out; have hnc50 := NB274_307.out; have hnb51 := NB307_297.out; have hnc51 := NB297_307.out; have hcz52_0 : w47.cell? ⟨gb307, 0, none⟩ = some (.slice none 0 0) := (blk_cell BK307.out 0).trans rfl; have hcz52_1 : w47.cell? ⟨gb307, 1, none⟩ = some (.slice none 0 0) := (blk_cell BK307.out 1).trans rfl; have hfz52_0 := blk_frozen BK307.out 0; have hfz52_1 := blk_frozen BK307.out 1; obtain ⟨Ao53, co53, eo53⟩ := Kd.V_slice HO303.out; subst eo53) | ((with_reducible refine gate_store (t := 24) (p := 10) rfl ?_); refine store_event (t := 24) (p := 10) (v := ?vo_w54) (w1 := ((w47.setCell ⟨gb307, 0, none⟩ (.slice Ao48 t298.length co48)).setCell ⟨gb307, 1, none⟩ (.slice Ao53 t301.length co53))) ?hg ?ho ?hn ?hr ?_; (case ho => rfl); (case hg => rfl); (case hn => rfl); (case hr => first | (go_simp; done) | (go_simp; rfl)); intro w54 hw; have n0_ : Aside0 (Kd.V (Kd.int .i64) 3 w54 w.heap.size (fun k_ => k_ ≠ gb264 ∧ k_ ≠ gb274 ∧ k_ ≠ gb297 ∧ k_ ≠ gb307) (.slice Ao31 t267.length co31) t267) := ⟨(by rw [hw]; exact (by (with_reducible repeat (first | apply Kd.V_alloc | apply Kd.V_drewN | apply Kd.V_drew)); exact Kd.V_mono (Kd.V_far (p := ⟨gb307, 1, none⟩) (Kd.V_far (p := ⟨gb307, 0, none⟩) (Kd.V_mono HO269.out (fun k_ hk => (⟨hk, hk.2⟩ : _ ∧ k_ ≠ gb307))) (fun _ hk => hk.2) (.slice Ao48 t298.length co48)) (fun _ hk => hk.2) (.slice Ao53 t301.length co53)) (fun _ hk => ⟨hk.1.1.1, ⟨hk.1.1.2.1, ⟨hk.1.1.2.2, hk.1.2⟩⟩⟩)))⟩; have n1_ : Aside0 (Kd.V (Kd.int .i64) 3 w54 w.heap.size (fun k_ => k_ ≠ gb264 ∧ k_ ≠ gb274 ∧ k_ ≠ gb297 ∧ k_ ≠ gb307) (.slice Ao34 t270.length co34) t270) := ⟨(by rw [hw]; exact (by (with_reducible repeat (first | apply Kd.V_alloc | apply Kd.V_drewN | apply Kd.V_drew)); exact Kd.V_mono (Kd.V_far (p := ⟨gb307, 1, none⟩) (Kd.V_far (p := ⟨gb307, 0, none⟩) (Kd.V_mono HO272.out (fun k_ hk => (⟨hk, hk.2⟩ : _ ∧ k_ ≠ gb307))) (fun _ hk => hk.2) (.slice Ao48 t298.length co48)) (fun _ hk => hk.2) (.slice Ao53 t301.length co53)) (fun _ hk => ⟨hk.1.1.1, ⟨hk.1.1.2.1, ⟨hk.1.1.2.2, hk.1.2⟩⟩⟩)))⟩; have n2_ : Aside0 (Kd.V (Kd.int .i64) 3 w54 w.heap.size (fun k_ => k_ ≠ gb264 ∧ k_ ≠ gb274 ∧ k_ ≠ gb297 ∧ k_ ≠ gb307) (.slice Ao39 t289.length co39) t289) := ⟨(by rw [hw]; exact (by (with_reducible repeat (first | apply Kd.V_alloc | apply Kd.V_drewN | apply Kd.V_drew)); exact Kd.V_mono (Kd.V_far (p := ⟨gb307, 1, none⟩) (Kd.V_far (p := ⟨gb307, 0, none⟩) (Kd.V_mono HO291.out (fun k_ hk => (⟨hk, hk.2⟩ : _ ∧ k_ ≠ gb307))) (fun _ hk => hk.2) (.slice Ao48 t298.length co48)) (fun _ hk => hk.2) (.slice Ao53 t301.length co53)) (fun _ hk => ⟨hk.1.1.1, ⟨hk.1.1.2.1, ⟨hk.1.1.2.2, hk.1.2⟩⟩⟩)))⟩; have n3_ : Aside0 (Kd.V (Kd.int .i64) 3 w54 w.heap.size (fun k_ => k_ ≠ gb264 ∧ k_ ≠ gb274 ∧ k_ ≠ gb297 ∧ k_ ≠ gb307) (.slice Ao43 t292.length co43) t292) := ⟨(by rw [hw]; exact (by (with_reducible repeat (first | apply Kd.V_alloc | apply Kd.V_drewN | apply Kd.V_drew)); exact Kd.V_mono (Kd.V_far (p := ⟨gb307, 1, none⟩) (Kd.V_far (p := ⟨gb307, 0, none⟩) (Kd.V_mono HO294.out (fun k_ hk => (⟨hk, hk.2⟩ : _ ∧ k_ ≠ gb307))) (fun _ hk => hk.2) (.slice Ao48 t298.length co48)) (fun _ hk => hk.2) (.slice Ao53 t301.length co53)) (fun _ hk => ⟨hk.1.1.1, ⟨hk.1.1.2.1, ⟨hk.1.1.2.2, hk.1.2⟩⟩⟩)))⟩; have n4_ : Aside0 (Kd.V (Kd.int .i64) 3 w54 w.heap.size (fun k_ => k_ ≠ gb264 ∧ k_ ≠ gb274 ∧ k_ ≠ gb297 ∧ k_ ≠ gb307) (.slice Ao48 t298.length co48) t298) := ⟨(by rw [hw]; exact (by (with_reducible repeat (first | apply Kd.V_alloc | apply Kd.V_drewN | apply Kd.V_drew)); exact Kd.V_mono (Kd.V_far (p := ⟨gb307, 1, none⟩) (Kd.V_far (p := ⟨gb307, 0, none⟩) (Kd.V_mono HO300.out (fun k_ hk => (⟨hk, hk.2⟩ : _ ∧ k_ ≠ gb307))) (fun _ hk => hk.2) (.slice Ao48 t298.length co48)) (fun _ hk => hk.2) (.slice Ao53 t301.length co53)) (fun _ hk => ⟨hk.1.1.1, ⟨hk.1.1.2.1, ⟨hk.1.1.2.2, hk.1.2⟩⟩⟩)))⟩; have n5_ : Aside0 (Kd.V (Kd.int .i64) 3 w54 w.heap.size (fun k_ => k_ ≠ gb264 ∧ k_ ≠ gb274 ∧ k_ ≠ gb297 ∧ k_ ≠ gb307) (.slice Ao53 t301.length co53) t301) := ⟨(by rw [hw]; exact (by (with_reducible repeat (first | apply Kd.V_alloc | apply Kd.V_drewN | apply Kd.V_drew)); exact Kd.V_mono (Kd.V_far (p := ⟨gb307, 1, none⟩) (Kd.V_far (p := ⟨gb307, 0, none⟩) (Kd.V_mono HO303.out (fun k_ hk => (⟨hk, hk.2⟩ : _ ∧ k_ ≠ gb307))) (fun _ hk => hk.2) (.slice Ao48 t298.length co48)) (fun _ hk => hk.2) (.slice Ao53 t301.length co53)) (fun _ hk => ⟨hk.1.1.1, ⟨hk.1.1.2.1, ⟨hk.1.1.2.2, hk.1.2⟩⟩⟩)))⟩; have n6_ : Aside0 (Kd.V (Kd.int .i64) 3 w54 w.heap.size (fun k_ => k_ ≠ gb264 ∧ k_ ≠ gb274 ∧ k_ ≠ gb297 ∧ k_ ≠ gb307) v305 t304) := ⟨(by rw [hw]; exact (by (with_reducible repeat (first | apply Kd.V_alloc | apply Kd.V_drewN | apply Kd.V_drew)); exact Kd.V_mono (Kd.V_far (p := ⟨gb307, 1, none⟩) (Kd.V_far (p := ⟨gb307, 0, none⟩) (Kd.V_mono HO306.out (fun k_ hk => (⟨hk, hk.2⟩ : _ ∧ k_ ≠ gb307))) (fun _ hk => hk.2) (.slice Ao48 t298.length co48)) (fun _ hk => hk.2) (.slice Ao53 t301.length co53)) (fun _ hk => ⟨hk.1.1.1, ⟨hk.1.1.2.1, ⟨hk.1.1.2.2, hk.1.2⟩⟩⟩)))⟩; have n7_ : Aside0 (w54.heap[gb264]? = some (.cells #[.slice A0_0 l0_0.length c0_0, .slice A0_1 l0_1.length c0_1] 24 (0, 0))) := ⟨(by rw [hw]; exact (by (with_reducible repeat (first | refine blk_drewN ?_ _ | refine blk_drew ?_ | refine blk_alloc ?_ _)); refine blk_far ?_ NB264_307.out _; (with_reducible repeat (first | refine blk_drewN ?_ _ | refine blk_drew ?_ | refine blk_alloc ?_ _)); refine blk_far ?_ NB264_307.out _; (with_reducible repeat (first | refine blk_drewN ?_ _ | refine blk_drew ?_ | refine blk_alloc ?_ _)); exact BK264.out))⟩; have n8_ : Aside0 (w54.heap[gb274]? = some (.cells #[.slice Ao31 t267.length co31, .slice Ao34 t270.length co34] 24 (0, 0))) := ⟨(by rw [hw]; exact (by (with_reducible repeat (first | refine blk_drewN ?_ _ | refine blk_drew ?_ | refine blk_alloc ?_ _)); refine blk_far ?_ NB274_307.out _; (with_reducible repeat (first | refine blk_drewN ?_ _ | refine blk_drew ?_ | refine blk_alloc ?_ _)); refine blk_far ?_ NB274_307.out _; (with_reducible repeat (first | refine blk_drewN ?_ _ | refine blk_drew ?_ | refine blk_alloc ?_ _)); exact BK274.out))⟩; have n9_ : Aside0 (w54.heap[gb297]? = some (.cells #[.slice Ao39 t289.length co39, .slice Ao43 t292.length co43] 24 (0, 0))) := ⟨(by rw [hw]; exact (by (with_reducible repeat (first | refine blk_drewN ?_ _ | refine blk_drew ?_ | refine blk_alloc ?_ _)); refine blk_far ?_ NB297_307.out _; (with_reducible repeat (first | refine blk_drewN ?_ _ | refine blk_drew ?_ | refine blk_alloc ?_ _)); refine blk_far ?_ NB297_307.out _; (with_reducible repeat (first | refine blk_drewN ?_ _ | refine blk_drew ?_ | refine blk_alloc ?_ _)); exact BK297.out))⟩; have n10_ : Aside0 (w54.heap[gb307]? = some (.cells #[.slice Ao48 t298.length co48, .slice Ao53 t301.length co53] 24 (0, 0))) := ⟨(by rw [hw]; exact (by (with_reducible repeat (first | refine blk_drewN ?_ _ | refine blk_drew ?_ | refine blk_alloc ?_ _)); refine blk_put (cs := #[.slice Ao48 t298.length co48, .slice none 0 0]) ?_ 1 _ rfl; (with_reducible repeat (first | refine blk_drewN ?_ _ | refine blk_drew ?_ | refine blk_alloc ?_ _)); refine blk_put (cs := #[.slice none 0 0, .slice none 0 0]) ?_ 0 _ rfl; (with_reducible repeat (first | refine blk_drewN ?_ _ | refine blk_drew ?_ | refine blk_alloc ?_ _)); exact BK307.out))⟩; have n11_ : Aside0 (Below w.heap.size w w54) := ⟨(by rw [hw]; exact (zc4 HB GE264 GE274 GE297 GE307))⟩; clear hw; clear HO269; clear HO272; clear HO291; clear HO294; clear HO300; clear HO303; clear HO306; clear BK264; clear BK274; clear BK297; clear BK307; clear HB; have HO269 := n0_; have HO272 := n1_; have HO291 := n2_; have HO294 := n3_; have HO300 := n4_; have HO303 := n5_; have HO306 := n6_; have BK264 := n7_; have BK274 := n8_; have BK297 := n9_; have BK307 := n10_; have HB := n11_; clear n0_ n1_ n2_ n3_ n4_ n5_ n6_ n7_ n8_ n9_ n10_ n11_; have hcz55_0 : w54.cell? ⟨gb307, 0, none⟩ = some (.slice Ao48 t298.length co48) := (blk_cell BK307.out 0).trans rfl; have hcz55_1 : w54.cell? ⟨gb307, 1, none⟩ = some (.slice Ao53 t301.length co53) := (blk_cell BK307.out 1).trans rfl; have hfz55_0 := blk_frozen BK307.out 0; have hfz55_1 := blk_frozen BK307.out 1) | ((with_reducible refine gate_callee (f := 17) rfl ?_); refine goesL_ (some 55) rfl rfl Try.func17 (by kernel_rfl) rfl #[.agg #[.slice Ao48 t298.length co48, .slice Ao53 t301.length co53], .int .i64 a1] rfl zm ?_; (with_reducible refine (cond_Leave.calls k (fun k_ => (k_ ≠ gb264 ∧ (k_ ≠ gb274 ∧ (k_ ≠ gb297 ∧ k_ ≠ gb307)))) _ _ t298 (fun k_ => (k_ ≠ gb264 ∧ (k_ ≠ gb274 ∧ (k_ ≠ gb297 ∧ k_ ≠ gb307)))) _ _ t301 a1 t308 t311 false t315 _ ?side1 ?side2 A9.out).mono ?_); (case side1 => exact HO300.out); (case side2 => exact HO303.out); rintro e w56 ⟨v309, v312, rfl, ho0, ho1, hb⟩; refine ⟨_, rfl, ?_⟩; have n0_ := Aside0.mk (Kd.V_below (zV HO269) hb); have n1_ := Aside0.mk (Kd.V_below (zV HO272) hb); have n2_ := Aside0.mk (Kd.V_below (zV HO291) hb); have n3_ := Aside0.mk (Kd.V_below (zV HO294) hb); have n4_ := Aside0.mk (Kd.V_below (zV HO300) hb); have n5_ := Aside0.mk (Kd.V_below (zV HO303) hb); have n6_ := Aside0.mk (Kd.V_below (zV HO306) hb); have n7_ := Aside0.mk (Kd.V_lower (Kd.V_mono (ok' := fun k_ => k_ ≠ gb264 ∧ k_ ≠ gb274 ∧ k_ ≠ gb297 ∧ k_ ≠ gb307) ho0 (fun k_ hk_ => ⟨Or.elim hk_ (fun hs_ => Or.elim hs_ (fun hs_ => hs_.1) (fun hs_ => hs_.1)) (fun hn_ => (Kd.freshB (g := gb264) (o := .cells #[.slice A0_0 l0_0.length c0_0, .slice A0_1 l0_1.length c0_1] 24 (0, 0)) (zb BK264) k_ hn_)), Or.elim hk_ (fun hs_ => Or.elim hs_ (fun hs_ => hs_.2.1) (fun hs_ => hs_.2.1)) (fun hn_ => (Kd.freshB (g := gb274) (o := .cells #[.slice Ao31 t267.length co31, .slice Ao34 t270.length co34] 24 (0, 0)) (zb BK274) k_ hn_)), Or.elim hk_ (fun hs_ => Or.elim hs_ (fun hs_ => hs_.2.2.1) (fun hs_ => hs_.2.2.1)) (fun hn_ => (Kd.freshB (g := gb297) (o := .cells #[.slice Ao39 t289.length co39, .slice Ao43 t292.length co43] 24 (0, 0)) (zb BK297) k_ hn_)), Or.elim hk_ (fun hs_ => Or.elim hs_ (fun hs_ => hs_.2.2.2) (fun hs_ => hs_.2.2.2)) (fun hn_ => (Kd.freshB (g := gb307) (o := .cells #[.slice Ao48 t298.length co48, .slice Ao53 t301.length co53] 24 (0, 0)) (zb BK307) k_ hn_))⟩)) (below_size (zc4 HB GE264 GE274 GE297 GE307))); have n8_ := Aside0.mk (Kd.V_lower (Kd.V_mono (ok' := fun k_ => k_ ≠ gb264 ∧ k_ ≠ gb274 ∧ k_ ≠ gb297 ∧ k_ ≠ gb307) ho1 (fun k_ hk_ => ⟨Or.elim hk_ (fun hs_ => Or.elim hs_ (fun hs_ => hs_.1) (fun hs_ => hs_.1)) (fun hn_ => (Kd.freshB (g := gb264) (o := .cells #[.slice A0_0 l0_0.length c0_0, .slice A0_1 l0_1.length c0_1] 24 (0, 0)) (zb BK264) k_ hn_)), Or.elim hk_ (fun hs_ => Or.elim hs_ (fun hs_ => hs_.2.1) (fun hs_ => hs_.2.1)) (fun hn_ => (Kd.freshB (g := gb274) (o := .cells #[.slice Ao31 t267.length co31, .slice Ao34 t270.length co34] 24 (0, 0)) (zb BK274) k_ hn_)), Or.elim hk_ (fun hs_ => Or.elim hs_ (fun hs_ => hs_.2.2.1) (fun hs_ => hs_.2.2.1)) (fun hn_ => (Kd.freshB (g := gb297) (o := .cells #[.slice Ao39 t289.length co39, .slice Ao43 t292.length co43] 24 (0, 0)) (zb BK297) k_ hn_)), Or.elim hk_ (fun hs_ => Or.elim hs_ (fun hs_ => hs_.2.2.2) (fun hs_ => hs_.2.2.2)) (fun hn_ => (Kd.freshB (g := gb307) (o := .cells #[.slice Ao48 t298.length co48, .slice Ao53 t301.length co53] 24 (0, 0)) (zb BK307) k_ hn_))⟩)) (below_size (zc4 HB GE264 GE274 GE297 GE307))); have n9_ := Aside0.mk (blk_below (g := gb264) (o := .cells #[.slice A0_0 l0_0.length c0_0, .slice A0_1 l0_1.length c0_1] 24 (0, 0)) (zb BK264) hb); have n10_ := Aside0.mk (blk_below (g := gb274) (o := .cells #[.slice Ao31 t267.length co31, .slice Ao34 t270.length co34] 24 (0, 0)) (zb BK274) hb); have n11_ := Aside0.mk (blk_below (g := gb297) (o := .cells #[.slice Ao39 t289.length co39, .slice Ao43 t292.length co43] 24 (0, 0)) (zb BK297) hb); have n12_ := Aside0.mk (blk_below (g := gb307) (o := .cells #[.slice Ao48 t298.length co48, .slice Ao53 t301.length co53] 24 (0, 0)) (zb BK307) hb); have n13_ := Aside0.mk (below_step (zc4 HB GE264 GE274 GE297 GE307) hb); clear HO269; clear HO272; clear HO291; clear HO294; clear HO300; clear HO303; clear HO306; clear BK264; clear BK274; clear BK297; clear BK307; clear HB; have HO269 := n0_; have HO272 := n1_; have HO291 := n2_; have HO294 := n3_; have HO300 := n4_; have HO303 := n5_; have HO306 := n6_; have HO310 := n7_; have HO313 := n8_; have BK264 := n9_; have BK274 := n10_; have BK297 := n11_; have BK307 := n12_; have HB := n13_; clear n0_ n1_ n2_ n3_ n4_ n5_ n6_ n7_ n8_ n9_ n10_ n11_ n12_ n13_; (try clear hb); (try clear hb2); (try clear hk); (try clear hi); (try clear ho0); (try clear ho1)) | ((with_reducible refine gate_dst (N := 12) rfl ?_); (try (refine gate_guard (by rfl) ?_; dsimp only)); refine box_event ?hg (N := 12) ?hd (cs := #[.slice none 0 0, .slice none 0 0]) (t := 24) ?hr ?_; (case hd => rfl); (case hg => rfl); (case hr => first | (go_simp; done) | (go_simp; rfl)); intro gb316 hg w57 hbox hb; have n0_ := Aside0.mk (Kd.V_below (Kd.V_elderB (zV HO269) gb316 (Nat.le_of_eq hg.symm)) hb); have n1_ := Aside0.mk (Kd.V_below (Kd.V_elderB (zV HO272) gb316 (Nat.le_of_eq hg.symm)) hb); have n2_ := Aside0.mk (Kd.V_below (Kd.V_elderB (zV HO291) gb316 (Nat.le_of_eq hg.symm)) hb); have n3_ := Aside0.mk (Kd.V_below (Kd.V_elderB (zV HO294) gb316 (Nat.le_of_eq hg.symm)) hb); have n4_ := Aside0.mk (Kd.V_below (Kd.V_elderB (zV HO300) gb316 (Nat.le_of_eq hg.symm)) hb); have n5_ := Aside0.mk (Kd.V_below (Kd.V_elderB (zV HO303) gb316 (Nat.le_of_eq hg.symm)) hb); have n6_ := Aside0.mk (Kd.V_below (Kd.V_elderB (zV HO306) gb316 (Nat.le_of_eq hg.symm)) hb); have n7_ := Aside0.mk (Kd.V_below (Kd.V_elderB (zV HO310) gb316 (Nat.le_of_eq hg.symm)) hb); have n8_ := Aside0.mk (Kd.V_below (Kd.V_elderB (zV HO313) gb316 (Nat.le_of_eq hg.symm)) hb); have n9_ := Aside0.mk (blk_below (g := gb264) (o := .cells #[.slice A0_0 l0_0.length c0_0, .slice A0_1 l0_1.length c0_1] 24 (0, 0)) (zb BK264) hb); have n10_ := Aside0.mk (blk_below (g := gb274) (o := .cells #[.slice Ao31 t267.length co31, .slice Ao34 t270.length co34] 24 (0, 0)) (zb BK274) hb); have n11_ := Aside0.mk (blk_below (g := gb297) (o := .cells #[.slice Ao39 t289.length co39, .slice Ao43 t292.length co43] 24 (0, 0)) (zb BK297) hb); have n12_ := Aside0.mk (blk_below (g := gb307) (o := .cells #[.slice Ao48 t298.length co48, .slice Ao53 t301.length co53] 24 (0, 0)) (zb BK307) hb); have n13_ := Aside0.mk (below_step (zc4 HB GE264 GE274 GE297 GE307) hb); have n14_ := Aside0.mk (hbox); have n15_ := Aside0.mk ((by rw [hg]; exact (below_size (zc4 HB GE264 GE274 GE297 GE307)) : w.heap.size ≤ gb316)); have n16_ := Aside0.mk ((by rw [hg]; exact (below_size (zc4 HB GE264 GE274 GE297 GE307)) : w.heap.size ≤ gb316)); have n17_ := Aside0.mk ((by rw [hg]; exact Nat.ne_of_lt (blk_lt (g := gb264) (o := .cells #[.slice A0_0 l0_0.length c0_0, .slice A0_1 l0_1.length c0_1] 24 (0, 0)) (zb BK264)) : gb264 ≠ gb316)); have n18_ := Aside0.mk ((by rw [hg]; exact Nat.ne_of_gt (blk_lt (g := gb264) (o := .cells #[.slice A0_0 l0_0.length c0_0, .slice A0_1 l0_1.length c0_1] 24 (0, 0)) (zb BK264)) : gb316 ≠ gb264)); have n19_ := Aside0.mk ((by rw [hg]; exact Nat.ne_of_lt (blk_lt (g := gb274) (o := .cells #[.slice Ao31 t267.length co31, .slice Ao34 t270.length co34] 24 (0, 0)) (zb BK274)) : gb274 ≠ gb316)); have n20_ := Aside0.mk ((by rw [hg]; exact Nat.ne_of_gt (blk_lt (g := gb274) (o := .cells #[.slice Ao31 t267.length co31, .slice Ao34 t270.length co34] 24 (0, 0)) (zb BK274)) : gb316 ≠ gb274)); have n21_ := Aside0.mk ((by rw [hg]; exact Nat.ne_of_lt (blk_lt (g := gb297) (o := .cells #[.slice Ao39 t289.length co39, .slice Ao43 t292.length co43] 24 (0, 0)) (zb BK297)) : gb297 ≠ gb316)); have n22_ := Aside0.mk ((by rw [hg]; exact Nat.ne_of_gt (blk_lt (g := gb297) (o := .cells #[.slice Ao39 t289.length co39, .slice Ao43 t292.length co43] 24 (0, 0)) (zb BK297)) : gb316 ≠ gb297)); have n23_ := Aside0.mk ((by rw [hg]; exact Nat.ne_of_lt (blk_lt (g := gb307) (o := .cells #[.slice Ao48 t298.length co48, .slice Ao53 t301.length co53] 24 (0, 0)) (zb BK307)) : gb307 ≠ gb316)); have n24_ := Aside0.mk ((by rw [hg]; exact Nat.ne_of_gt (blk_lt (g := gb307) (o := .cells #[.slice Ao48 t298.length co48, .slice Ao53 t301.length co53] 24 (0, 0)) (zb BK307)) : gb316 ≠ gb307)); clear HO269; clear HO272; clear HO291; clear HO294; clear HO300; clear HO303; clear HO306; clear HO310; clear HO313; clear BK264; clear BK274; clear BK297; clear BK307; clear HB; have HO269 := n0_; have HO272 := n1_; have HO291 := n2_; have HO294 := n3_; have HO300 := n4_; have HO303 := n5_; have HO306 := n6_; have HO310 := n7_; have HO313 := n8_; have BK264 := n9_; have BK274 := n10_; have BK297 := n11_; have BK307 := n12_; have HB := n13_; have BK316 := n14_; have GW316 := n15_; have GE316 := n16_; have NB264_316 := n17_; have NB316_264 := n18_; have NB274_316 := n19_; have NB316_274 := n20_; have NB297_316 := n21_; have NB316_297 := n22_; have NB307_316 := n23_; have NB316_307 := n24_; clear n0_ n1_ n2_ n3_ n4_ n5_ n6_ n7_ n8_ n9_ n10_ n11_ n12_ n13_ n14_ n15_ n16_ n17_ n18_ n19_ n20_ n21_ n22_ n23_ n24_; clear hb hbox hg; obtain ⟨Ao58, co58, eo58⟩ := Kd.V_slice HO310.out; subst eo58; have hnb59 := NB316_264.out; have hnc59 := NB264_316.out; have hnb60 := NB316_274.out; have hnc60 := NB274_316.out; have hnb61 := NB316_297.out; have hnc61 := NB297_316.out; have hnb62 := NB316_307.out; have hnc62 := NB307_316.out; have hcz63_0 : w57.cell? ⟨gb316, 0, none⟩ = some (.slice none 0 0) := (blk_cell BK316.out 0).trans rfl; have hcz63_1 : w57.cell? ⟨gb316, 1, none⟩ = some (.slice none 0 0) := (blk_cell BK316.out 1).trans rfl; have hfz63_0 := blk_frozen BK316.out 0; have hfz63_1 := blk_frozen BK316.out 1; obtain ⟨Ao64, co64, eo64⟩ := Kd.V_slice HO313.out; subst eo64) | ((with_reducible refine gate_store (t := 24) (p := 12) rfl ?_); refine store_event (t := 24) (p := 12) (v := ?vo_w65) (w1 := ((w57.setCell ⟨gb316, 0, none⟩ (.slice Ao58 t308.length co58)).setCell ⟨gb316, 1, none⟩ (.slice Ao64 t311.length co64))) ?hg ?ho ?hn ?hr ?_; (case ho => rfl); (case hg => rfl); (case hn => rfl); (case hr => first | (go_simp; done) | (go_simp; rfl)); intro w65 hw; have n0_ : Aside0 (Kd.V (Kd.int .i64) 3 w65 w.heap.size (fun k_ => k_ ≠ gb264 ∧ k_ ≠ gb274 ∧ k_ ≠ gb297 ∧ k_ ≠ gb307 ∧ k_ ≠ gb316) (.slice Ao31 t267.length co31) t267) := ⟨(by rw [hw]; exact (by (with_reducible repeat (first | apply Kd.V_alloc | apply Kd.V_drewN | apply Kd.V_drew)); exact Kd.V_mono (Kd.V_far (p := ⟨gb316, 1, none⟩) (Kd.V_far (p := ⟨gb316, 0, none⟩) (Kd.V_mono HO269.out (fun k_ hk => (⟨hk, hk.2⟩ : _ ∧ k_ ≠ gb316))) (fun _ hk => hk.2) (.slice Ao58 t308.length co58)) (fun _ hk => hk.2) (.slice Ao64 t311.length co64)) (fun _ hk => ⟨hk.1.1.1, ⟨hk.1.1.2.1, ⟨hk.1.1.2.2.1, ⟨hk.1.1.2.2.2, hk.1.2⟩⟩⟩⟩)))⟩; have n1_ : Aside0 (Kd.V (Kd.int .i64) 3 w65 w.heap.size (fun k_ => k_ ≠ gb264 ∧ k_ ≠ gb274 ∧ k_ ≠ gb297 ∧ k_ ≠ gb307 ∧ k_ ≠ gb316) (.slice Ao34 t270.length co34) t270) := ⟨(by rw [hw]; exact (by (with_reducible repeat (first | apply Kd.V_alloc | apply Kd.V_drewN | apply Kd.V_drew)); exact Kd.V_mono (Kd.V_far (p := ⟨gb316, 1, none⟩) (Kd.V_far (p := ⟨gb316, 0, none⟩) (Kd.V_mono HO272.out (fun k_ hk => (⟨hk, hk.2⟩ : _ ∧ k_ ≠ gb316))) (fun _ hk => hk.2) (.slice Ao58 t308.length co58)) (fun _ hk => hk.2) (.slice Ao64 t311.length co64)) (fun _ hk => ⟨hk.1.1.1, ⟨hk.1.1.2.1, ⟨hk.1.1.2.2.1, ⟨hk.1.1.2.2.2, hk.1.2⟩⟩⟩⟩)))⟩; have n2_ : Aside0 (Kd.V (Kd.int .i64) 3 w65 w.heap.size (fun k_ => k_ ≠ gb264 ∧ k_ ≠ gb274 ∧ k_ ≠ gb297 ∧ k_ ≠ gb307 ∧ k_ ≠ gb316) (.slice Ao39 t289.length co39) t289) := ⟨(by rw [hw]; exact (by (with_reducible repeat (first | apply Kd.V_alloc | apply Kd.V_drewN | apply Kd.V_drew)); exact Kd.V_mono (Kd.V_far (p := ⟨gb316, 1, none⟩) (Kd.V_far (p := ⟨gb316, 0, none⟩) (Kd.V_mono HO291.out (fun k_ hk => (⟨hk, hk.2⟩ : _ ∧ k_ ≠ gb316))) (fun _ hk => hk.2) (.slice Ao58 t308.length co58)) (fun _ hk => hk.2) (.slice Ao64 t311.length co64)) (fun _ hk => ⟨hk.1.1.1, ⟨hk.1.1.2.1, ⟨hk.1.1.2.2.1, ⟨hk.1.1.2.2.2, hk.1.2⟩⟩⟩⟩)))⟩; have n3_ : Aside0 (Kd.V (Kd.int .i64) 3 w65 w.heap.size (fun k_ => k_ ≠ gb264 ∧ k_ ≠ gb274 ∧ k_ ≠ gb297 ∧ k_ ≠ gb307 ∧ k_ ≠ gb316) (.slice Ao43 t292.length co43) t292) := ⟨(by rw [hw]; exact (by (with_reducible repeat (first | apply Kd.V_alloc | apply Kd.V_drewN | apply Kd.V_drew)); exact Kd.V_mono (Kd.V_far (p := ⟨gb316, 1, none⟩) (Kd.V_far (p := ⟨gb316, 0, none⟩) (Kd.V_mono HO294.out (fun k_ hk => (⟨hk, hk.2⟩ : _ ∧ k_ ≠ gb316))) (fun _ hk => hk.2) (.slice Ao58 t308.length co58)) (fun _ hk => hk.2) (.slice Ao64 t311.length co64)) (fun _ hk => ⟨hk.1.1.1, ⟨hk.1.1.2.1, ⟨hk.1.1.2.2.1, ⟨hk.1.1.2.2.2, hk.1.2⟩⟩⟩⟩)))⟩; have n4_ : Aside0 (Kd.V (Kd.int .i64) 3 w65 w.heap.size (fun k_ => k_ ≠ gb264 ∧ k_ ≠ gb274 ∧ k_ ≠ gb297 ∧ k_ ≠ gb307 ∧ k_ ≠ gb316) (.slice Ao48 t298.length co48) t298) := ⟨(by rw [hw]; exact (by (with_reducible repeat (first | apply Kd.V_alloc | apply Kd.V_drewN | apply Kd.V_drew)); exact Kd.V_mono (Kd.V_far (p := ⟨gb316, 1, none⟩) (Kd.V_far (p := ⟨gb316, 0, none⟩) (Kd.V_mono HO300.out (fun k_ hk => (⟨hk, hk.2⟩ : _ ∧ k_ ≠ gb316))) (fun _ hk => hk.2) (.slice Ao58 t308.length co58)) (fun _ hk => hk.2) (.slice Ao64 t311.length co64)) (fun _ hk => ⟨hk.1.1.1, ⟨hk.1.1.2.1, ⟨hk.1.1.2.2.1, ⟨hk.1.1.2.2.2, hk.1.2⟩⟩⟩⟩)))⟩; have n5_ : Aside0 (Kd.V (Kd.int .i64) 3 w65 w.heap.size (fun k_ => k_ ≠ gb264 ∧ k_ ≠ gb274 ∧ k_ ≠ gb297 ∧ k_ ≠ gb307 ∧ k_ ≠ gb316) (.slice Ao53 t301.length co53) t301) := ⟨(by rw [hw]; exact (by (with_reducible repeat (first | apply Kd.V_alloc | apply Kd.V_drewN | apply Kd.V_drew)); exact Kd.V_mono (Kd.V_far (p := ⟨gb316, 1, none⟩) (Kd.V_far (p := ⟨gb316, 0, none⟩) (Kd.V_mono HO303.out (fun k_ hk => (⟨hk, hk.2⟩ : _ ∧ k_ ≠ gb316))) (fun _ hk => hk.2) (.slice Ao58 t308.length co58)) (fun _ hk => hk.2) (.slice Ao64 t311.length co64)) (fun _ hk => ⟨hk.1.1.1, ⟨hk.1.1.2.1, ⟨hk.1.1.2.2.1, ⟨hk.1.1.2.2.2, hk.1.2⟩⟩⟩⟩)))⟩; have n6_ : Aside0 (Kd.V (Kd.int .i64) 3 w65 w.heap.size (fun k_ => k_ ≠ gb264 ∧ k_ ≠ gb274 ∧ k_ ≠ gb297 ∧ k_ ≠ gb307 ∧ k_ ≠ gb316) v305 t304) := ⟨(by rw [hw]; exact (by (with_reducible repeat (first | apply Kd.V_alloc | apply Kd.V_drewN | apply Kd.V_drew)); exact Kd.V_mono (Kd.V_far (p := ⟨gb316, 1, none⟩) (Kd.V_far (p := ⟨gb316, 0, none⟩) (Kd.V_mono HO306.out (fun k_ hk => (⟨hk, hk.2⟩ : _ ∧ k_ ≠ gb316))) (fun _ hk => hk.2) (.slice Ao58 t308.length co58)) (fun _ hk => hk.2) (.slice Ao64 t311.length co64)) (fun _ hk => ⟨hk.1.1.1, ⟨hk.1.1.2.1, ⟨hk.1.1.2.2.1, ⟨hk.1.1.2.2.2, hk.1.2⟩⟩⟩⟩)))⟩; have n7_ : Aside0 (Kd.V (Kd.int .i64) 3 w65 w.heap.size (fun k_ => k_ ≠ gb264 ∧ k_ ≠ gb274 ∧ k_ ≠ gb297 ∧ k_ ≠ gb307 ∧ k_ ≠ gb316) (.slice Ao58 t308.length co58) t308) := ⟨(by rw [hw]; exact (by (with_reducible repeat (first | apply Kd.V_alloc | apply Kd.V_drewN | apply Kd.V_drew)); exact Kd.V_mono (Kd.V_far (p := ⟨gb316, 1, none⟩) (Kd.V_far (p := ⟨gb316, 0, none⟩) (Kd.V_mono HO310.out (fun k_ hk => (⟨hk, hk.2⟩ : _ ∧ k_ ≠ gb316))) (fun _ hk => hk.2) (.slice Ao58 t308.length co58)) (fun _ hk => hk.2) (.slice Ao64 t311.length co64)) (fun _ hk => ⟨hk.1.1.1, ⟨hk.1.1.2.1, ⟨hk.1.1.2.2.1, ⟨hk.1.1.2.2.2, hk.1.2⟩⟩⟩⟩)))⟩; have n8_ : Aside0 (Kd.V (Kd.int .i64) 3 w65 w.heap.size (fun k_ => k_ ≠ gb264 ∧ k_ ≠ gb274 ∧ k_ ≠ gb297 ∧ k_ ≠ gb307 ∧ k_ ≠ gb316) (.slice Ao64 t311.length co64) t311) := ⟨(by rw [hw]; exact (by (with_reducible repeat (first | apply Kd.V_alloc | apply Kd.V_drewN | apply Kd.V_drew)); exact Kd.V_mono (Kd.V_far (p := ⟨gb316, 1, none⟩) (Kd.V_far (p := ⟨gb316, 0, none⟩) (Kd.V_mono HO313.out (fun k_ hk => (⟨hk, hk.2⟩ : _ ∧ k_ ≠ gb316))) (fun _ hk => hk.2) (.slice Ao58 t308.length co58)) (fun _ hk => hk.2) (.slice Ao64 t311.length co64)) (fun _ hk => ⟨hk.1.1.1, ⟨hk.1.1.2.1, ⟨hk.1.1.2.2.1, ⟨hk.1.1.2.2.2, hk.1.2⟩⟩⟩⟩)))⟩; have n9_ : Aside0 (w65.heap[gb264]? = some (.cells #[.slice A0_0 l0_0.length c0_0, .slice A0_1 l0_1.length c0_1] 24 (0, 0))) := ⟨(by rw [hw]; exact (by (with_reducible repeat (first | refine blk_drewN ?_ _ | refine blk_drew ?_ | refine blk_alloc ?_ _)); refine blk_far ?_ NB264_316.out _; (with_reducible repeat (first | refine blk_drewN ?_ _ | refine blk_drew ?_ | refine blk_alloc ?_ _)); refine blk_far ?_ NB264_316.out _; (with_reducible repeat (first | refine blk_drewN ?_ _ | refine blk_drew ?_ | refine blk_alloc ?_ _)); exact BK264.out))⟩; have n10_ : Aside0 (w65.heap[gb274]? = some (.cells #[.slice Ao31 t267.length co31, .slice Ao34 t270.length co34] 24 (0, 0))) := ⟨(by rw [hw]; exact (by (with_reducible repeat (first | refine blk_drewN ?_ _ | refine blk_drew ?_ | refine blk_alloc ?_ _)); refine blk_far ?_ NB274_316.out _; (with_reducible repeat (first | refine blk_drewN ?_ _ | refine blk_drew ?_ | refine blk_alloc ?_ _)); refine blk_far ?_ NB274_316.out _; (with_reducible repeat (first | refine blk_drewN ?_ _ | refine blk_drew ?_ | refine blk_alloc ?_ _)); exact BK274.out))⟩; have n11_ : Aside0 (w65.heap[gb297]? = some (.cells #[.slice Ao39 t289.length co39, .slice Ao43 t292.length co43] 24 (0, 0))) := ⟨(by rw [hw]; exact (by (with_reducible repeat (first | refine blk_drewN ?_ _ | refine blk_drew ?_ | refine blk_alloc ?_ _)); refine blk_far ?_ NB297_316.out _; (with_reducible repeat (first | refine blk_drewN ?_ _ | refine blk_drew ?_ | refine blk_alloc ?_ _)); refine blk_far ?_ NB297_316.out _; (with_reducible repeat (first | refine blk_drewN ?_ _ | refine blk_drew ?_ | refine blk_alloc ?_ _)); exact BK297.out))⟩; have n12_ : Aside0 (w65.heap[gb307]? = some (.cells #[.slice Ao48 t298.length co48, .slice Ao53 t301.length co53] 24 (0, 0))) := ⟨(by rw [hw]; exact (by (with_reducible repeat (first | refine blk_drewN ?_ _ | refine blk_drew ?_ | refine blk_alloc ?_ _)); refine blk_far ?_ NB307_316.out _; (with_reducible repeat (first | refine blk_drewN ?_ _ | refine blk_drew ?_ | refine blk_alloc ?_ _)); refine blk_far ?_ NB307_316.out _; (with_reducible repeat (first | refine blk_drewN ?_ _ | refine blk_drew ?_ | refine blk_alloc ?_ _)); exact BK307.out))⟩; have n13_ : Aside0 (w65.heap[gb316]? = some (.cells #[.slice Ao58 t308.length co58, .slice Ao64 t311.length co64] 24 (0, 0))) := ⟨(by rw [hw]; exact (by (with_reducible repeat (first | refine blk_drewN ?_ _ | refine blk_drew ?_ | refine blk_alloc ?_ _)); refine blk_put (cs := #[.slice Ao58 t308.length co58, .slice none 0 0]) ?_ 1 _ rfl; (with_reducible repeat (first | refine blk_drewN ?_ _ | refine blk_drew ?_ | refine blk_alloc ?_ _)); refine blk_put (cs := #[.slice none 0 0, .slice none 0 0]) ?_ 0 _ rfl; (with_reducible repeat (first | refine blk_drewN ?_ _ | refine blk_drew ?_ | refine blk_alloc ?_ _)); exact BK316.out))⟩; have n14_ : Aside0 (Below w.heap.size w w65) := ⟨(by rw [hw]; exact (zc5 HB GE264 GE274 GE297 GE307 GE316))⟩; clear hw; clear HO269; clear HO272; clear HO291; clear HO294; clear HO300; clear HO303; clear HO306; clear HO310; clear HO313; clear BK264; clear BK274; clear BK297; clear BK307; clear BK316; clear HB; have HO269 := n0_; have HO272 := n1_; have HO291 := n2_; have HO294 := n3_; have HO300 := n4_; have HO303 := n5_; have HO306 := n6_; have HO310 := n7_; have HO313 := n8_; have BK264 := n9_; have BK274 := n10_; have BK297 := n11_; have BK307 := n12_; have BK316 := n13_; have HB := n14_; clear n0_ n1_ n2_ n3_ n4_ n5_ n6_ n7_ n8_ n9_ n10_ n11_ n12_ n13_ n14_; have hcz66_0 : w65.cell? ⟨gb264, 0, none⟩ = some (.slice A0_0 l0_0.length c0_0) := (blk_cell BK264.out 0).trans rfl; have hcz66_1 : w65.cell? ⟨gb264, 1, none⟩ = some (.slice A0_1 l0_1.length c0_1) := (blk_cell BK264.out 1).trans rfl; have hfz66_0 := blk_frozen BK264.out 0; have hfz66_1 := blk_frozen BK264.out 1) | ((with_reducible refine gate_callee (f := 13) rfl ?_); refine goesL_ (some 64) rfl rfl Try.func13 (by kernel_rfl) rfl #[.agg #[.slice A0_0 l0_0.length c0_0, .slice A0_1 l0_1.length c0_1], .int .i64 (l0_0.length : Int)] rfl zm ?_; (with_reducible refine (cond_Signal.calls k (fun k_ => k_ < w.heap.size) _ _ l0_0 (fun k_ => k_ < w.heap.size) _ _ l0_1 (l0_0.length : Int) t317 t320 t323 _ ?side1 ?side2 A10.out).mono ?_); (case side1 => exact Kd.V_mk HC0_0.out (Kd.F_below (Kd.C_F (Kd.heap_int .i64) HR0_0.out) (zc5 HB GE264 GE274 GE297 GE307 GE316))); (case side2 => exact Kd.V_mk HC0_1.out (Kd.F_below (Kd.C_F (Kd.heap_int .i64) HR0_1.out) (zc5 HB GE264 GE274 GE297 GE307 GE316))); rintro e w67 ⟨v318, v321, v324, rfl, ho0, ho1, ho2, hb⟩; refine ⟨_, rfl, ?_⟩; have n0_ := Aside0.mk (Kd.V_below (zV HO269) hb); have n1_ := Aside0.mk (Kd.V_below (zV HO272) hb); have n2_ := Aside0.mk (Kd.V_below (zV HO291) hb); have n3_ := Aside0.mk (Kd.V_below (zV HO294) hb); have n4_ := Aside0.mk (Kd.V_below (zV HO300) hb); have n5_ := Aside0.mk (Kd.V_below (zV HO303) hb); have n6_ := Aside0.mk (Kd.V_below (zV HO306) hb); have n7_ := Aside0.mk (Kd.V_below (zV HO310) hb); have n8_ := Aside0.mk (Kd.V_below (zV HO313) hb); have n9_ := Aside0.mk (Kd.V_lower (Kd.V_mono (ok' := fun k_ => k_ ≠ gb264 ∧ k_ ≠ gb274 ∧ k_ ≠ gb297 ∧ k_ ≠ gb307 ∧ k_ ≠ gb316) ho0 (fun k_ hk_ => ⟨Or.elim hk_ (fun hs_ => Or.elim hs_ (fun hs_ => fun e_ => Nat.not_le.2 hs_ (by rw [e_]; exact GW264.out)) (fun hs_ => fun e_ => Nat.not_le.2 hs_ (by rw [e_]; exact GW264.out))) (fun hn_ => (Kd.freshB (g := gb264) (o := .cells #[.slice A0_0 l0_0.length c0_0, .slice A0_1 l0_1.length c0_1] 24 (0, 0)) (zb BK264) k_ hn_)), Or.elim hk_ (fun hs_ => Or.elim hs_ (fun hs_ => fun e_ => Nat.not_le.2 hs_ (by rw [e_]; exact GW274.out)) (fun hs_ => fun e_ => Nat.not_le.2 hs_ (by rw [e_]; exact GW274.out))) (fun hn_ => (Kd.freshB (g := gb274) (o := .cells #[.slice Ao31 t267.length co31, .slice Ao34 t270.length co34] 24 (0, 0)) (zb BK274) k_ hn_)), Or.elim hk_ (fun hs_ => Or.elim hs_ (fun hs_ => fun e_ => Nat.not_le.2 hs_ (by rw [e_]; exact GW297.out)) (fun hs_ => fun e_ => Nat.not_le.2 hs_ (by rw [e_]; exact GW297.out))) (fun hn_ => (Kd.freshB (g := gb297) (o := .cells #[.slice Ao39 t289.length co39, .slice Ao43 t292.length co43] 24 (0, 0)) (zb BK297) k_ hn_)), Or.elim hk_ (fun hs_ => Or.elim hs_ (fun hs_ => fun e_ => Nat.not_le.2 hs_ (by rw [e_]; exact GW307.out)) (fun hs_ => fun e_ => Nat.not_le.2 hs_ (by rw [e_]; exact GW307.out))) (fun hn_ => (Kd.freshB (g := gb307) (o := .cells #[.slice Ao48 t298.length co48, .slice Ao53 t301.length co53] 24 (0, 0)) (zb BK307) k_ hn_)), Or.elim hk_ (fun hs_ => Or.elim hs_ (fun hs_ => fun e_ => Nat.not_le.2 hs_ (by rw [e_]; exact GW316.out)) (fun hs_ => fun e_ => Nat.not_le.2 hs_ (by rw [e_]; exact GW316.out))) (fun hn_ => (Kd.freshB (g := gb316) (o := .cells #[.slice Ao58 t308.length co58, .slice Ao64 t311.length co64] 24 (0, 0)) (zb BK316) k_ hn_))⟩)) (below_size (zc5 HB GE264 GE274 GE297 GE307 GE316))); have n10_ := Aside0.mk (Kd.V_lower (Kd.V_mono (ok' := fun k_ => k_ ≠ gb264 ∧ k_ ≠ gb274 ∧ k_ ≠ gb297 ∧ k_ ≠ gb307 ∧ k_ ≠ gb316) ho1 (fun k_ hk_ => ⟨Or.elim hk_ (fun hs_ => Or.elim hs_ (fun hs_ => fun e_ => Nat.not_le.2 hs_ (by rw [e_]; exact GW264.out)) (fun hs_ => fun e_ => Nat.not_le.2 hs_ (by rw [e_]; exact GW264.out))) (fun hn_ => (Kd.freshB (g := gb264) (o := .cells #[.slice A0_0 l0_0.length c0_0, .slice A0_1 l0_1.length c0_1] 24 (0, 0)) (zb BK264) k_ hn_)), Or.elim hk_ (fun hs_ => Or.elim hs_ (fun hs_ => fun e_ => Nat.not_le.2 hs_ (by rw [e_]; exact GW274.out)) (fun hs_ => fun e_ => Nat.not_le.2 hs_ (by rw [e_]; exact GW274.out))) (fun hn_ => (Kd.freshB (g := gb274) (o := .cells #[.slice Ao31 t267.length co31, .slice Ao34 t270.length co34] 24 (0, 0)) (zb BK274) k_ hn_)), Or.elim hk_ (fun hs_ => Or.elim hs_ (fun hs_ => fun e_ => Nat.not_le.2 hs_ (by rw [e_]; exact GW297.out)) (fun hs_ => fun e_ => Nat.not_le.2 hs_ (by rw [e_]; exact GW297.out))) (fun hn_ => (Kd.freshB (g := gb297) (o := .cells #[.slice Ao39 t289.length co39, .slice Ao43 t292.length co43] 24 (0, 0)) (zb BK297) k_ hn_)), Or.elim hk_ (fun hs_ => Or.elim hs_ (fun hs_ => fun e_ => Nat.not_le.2 hs_ (by rw [e_]; exact GW307.out)) (fun hs_ => fun e_ => Nat.not_le.2 hs_ (by rw [e_]; exact GW307.out))) (fun hn_ => (Kd.freshB (g := gb307) (o := .cells #[.slice Ao48 t298.length co48, .slice Ao53 t301.length co53] 24 (0, 0)) (zb BK307) k_ hn_)), Or.elim hk_ (fun hs_ => Or.elim hs_ (fun hs_ => fun e_ => Nat.not_le.2 hs_ (by rw [e_]; exact GW316.out)) (fun hs_ => fun e_ => Nat.not_le.2 hs_ (by rw [e_]; exact GW316.out))) (fun hn_ => (Kd.freshB (g := gb316) (o := .cells #[.slice Ao58 t308.length co58, .slice Ao64 t311.length co64] 24 (0, 0)) (zb BK316) k_ hn_))⟩)) (below_size (zc5 HB GE264 GE274 GE297 GE307 GE316))); have n11_ := Aside0.mk (Kd.V_lower (Kd.V_mono (ok' := fun k_ => k_ ≠ gb264 ∧ k_ ≠ gb274 ∧ k_ ≠ gb297 ∧ k_ ≠ gb307 ∧ k_ ≠ gb316) ho2 (fun k_ hk_ => ⟨Or.elim hk_ (fun hs_ => Or.elim hs_ (fun hs_ => fun e_ => Nat.not_le.2 hs_ (by rw [e_]; exact GW264.out)) (fun hs_ => fun e_ => Nat.not_le.2 hs_ (by rw [e_]; exact GW264.out))) (fun hn_ => (Kd.freshB (g := gb264) (o := .cells #[.slice A0_0 l0_0.length c0_0, .slice A0_1 l0_1.length c0_1] 24 (0, 0)) (zb BK264) k_ hn_)), Or.elim hk_ (fun hs_ => Or.elim hs_ (fun hs_ => fun e_ => Nat.not_le.2 hs_ (by rw [e_]; exact GW274.out)) (fun hs_ => fun e_ => Nat.not_le.2 hs_ (by rw [e_]; exact GW274.out))) (fun hn_ => (Kd.freshB (g := gb274) (o := .cells #[.slice Ao31 t267.length co31, .slice Ao34 t270.length co34] 24 (0, 0)) (zb BK274) k_ hn_)), Or.elim hk_ (fun hs_ => Or.elim hs_ (fun hs_ => fun e_ => Nat.not_le.2 hs_ (by rw [e_]; exact GW297.out)) (fun hs_ => fun e_ => Nat.not_le.2 hs_ (by rw [e_]; exact GW297.out))) (fun hn_ => (Kd.freshB (g := gb297) (o := .cells #[.slice Ao39 t289.length co39, .slice Ao43 t292.length co43] 24 (0, 0)) (zb BK297) k_ hn_)), Or.elim hk_ (fun hs_ => Or.elim hs_ (fun hs_ => fun e_ => Nat.not_le.2 hs_ (by rw [e_]; exact GW307.out)) (fun hs_ => fun e_ => Nat.not_le.2 hs_ (by rw [e_]; exact GW307.out))) (fun hn_ => (Kd.freshB (g := gb307) (o := .cells #[.slice Ao48 t298.length co48, .slice Ao53 t301.length co53] 24 (0, 0)) (zb BK307) k_ hn_)), Or.elim hk_ (fun hs_ => Or.elim hs_ (fun hs_ => fun e_ => Nat.not_le.2 hs_ (by rw [e_]; exact GW316.out)) (fun hs_ => fun e_ => Nat.not_le.2 hs_ (by rw [e_]; exact GW316.out))) (fun hn_ => (Kd.freshB (g := gb316) (o := .cells #[.slice Ao58 t308.length co58, .slice Ao64 t311.length co64] 24 (0, 0)) (zb BK316) k_ hn_))⟩)) (below_size (zc5 HB GE264 GE274 GE297 GE307 GE316))); have n12_ := Aside0.mk (blk_below (g := gb264) (o := .cells #[.slice A0_0 l0_0.length c0_0, .slice A0_1 l0_1.length c0_1] 24 (0, 0)) (zb BK264) hb); have n13_ := Aside0.mk (blk_below (g := gb274) (o := .cells #[.slice Ao31 t267.length co31, .slice Ao34 t270.length co34] 24 (0, 0)) (zb BK274) hb); have n14_ := Aside0.mk (blk_below (g := gb297) (o := .cells #[.slice Ao39 t289.length co39, .slice Ao43 t292.length co43] 24 (0, 0)) (zb BK297) hb); have n15_ := Aside0.mk (blk_below (g := gb307) (o := .cells #[.slice Ao48 t298.length co48, .slice Ao53 t301.length co53] 24 (0, 0)) (zb BK307) hb); have n16_ := Aside0.mk (blk_below (g := gb316) (o := .cells #[.slice Ao58 t308.length co58, .slice Ao64 t311.length co64] 24 (0, 0)) (zb BK316) hb); have n17_ := Aside0.mk (below_step (zc5 HB GE264 GE274 GE297 GE307 GE316) hb); clear HO269; clear HO272; clear HO291; clear HO294; clear HO300; clear HO303; clear HO306; clear HO310; clear HO313; clear BK264; clear BK274; clear BK297; clear BK307; clear BK316; clear HB; have HO269 := n0_; have HO272 := n1_; have HO291 := n2_; have HO294 := n3_; have HO300 := n4_; have HO303 := n5_; have HO306 := n6_; have HO310 := n7_; have HO313 := n8_; have HO319 := n9_; have HO322 := n10_; have HO325 := n11_; have BK264 := n12_; have BK274 := n13_; have BK297 := n14_; have BK307 := n15_; have BK316 := n16_; have HB := n17_; clear n0_ n1_ n2_ n3_ n4_ n5_ n6_ n7_ n8_ n9_ n10_ n11_ n12_ n13_ n14_ n15_ n16_ n17_; (try clear hb); (try clear hb2); (try clear hk); (try clear hi); (try clear ho0); (try clear ho1); (try clear ho2)) | ((with_reducible refine gate_dst (N := 15) rfl ?_); (try (refine gate_guard (by rfl) ?_; dsimp only)); refine box_event ?hg (N := 15) ?hd (cs := #[.slice none 0 0, .slice none 0 0]) (t := 24) ?hr ?_; (case hd => rfl); (case hg => rfl); (case hr => first | (go_simp; done) | (go_simp; rfl)); intro gb326 hg w68 hbox hb; have n0_ := Aside0.mk (Kd.V_below (Kd.V_elderB (zV HO269) gb326 (Nat.le_of_eq hg.symm)) hb); have n1_ := Aside0.mk (Kd.V_below (Kd.V_elderB (zV HO272) gb326 (Nat.le_of_eq hg.symm)) hb); have n2_ := Aside0.mk (Kd.V_below (Kd.V_elderB (zV HO291) gb326 (Nat.le_of_eq hg.symm)) hb); have n3_ := Aside0.mk (Kd.V_below (Kd.V_elderB (zV HO294) gb326 (Nat.le_of_eq hg.symm)) hb); have n4_ := Aside0.mk (Kd.V_below (Kd.V_elderB (zV HO300) gb326 (Nat.le_of_eq hg.symm)) hb); have n5_ := Aside0.mk (Kd.V_below (Kd.V_elderB (zV HO303) gb326 (Nat.le_of_eq hg.symm)) hb); have n6_ := Aside0.mk (Kd.V_below (Kd.V_elderB (zV HO306) gb326 (Nat.le_of_eq hg.symm)) hb); have n7_ := Aside0.mk (Kd.V_below (Kd.V_elderB (zV HO310) gb326 (Nat.le_of_eq hg.symm)) hb); have n8_ := Aside0.mk (Kd.V_below (Kd.V_elderB (zV HO313) gb326 (Nat.le_of_eq hg.symm)) hb); have n9_ := Aside0.mk (Kd.V_below (Kd.V_elderB (zV HO319) gb326 (Nat.le_of_eq hg.symm)) hb); have n10_ := Aside0.mk (Kd.V_below (Kd.V_elderB (zV HO322) gb326 (Nat.le_of_eq hg.symm)) hb); have n11_ := Aside0.mk (Kd.V_below (Kd.V_elderB (zV HO325) gb326 (Nat.le_of_eq hg.symm)) hb); have n12_ := Aside0.mk (blk_below (g := gb264) (o := .cells #[.slice A0_0 l0_0.length c0_0, .slice A0_1 l0_1.length c0_1] 24 (0, 0)) (zb BK264) hb); have n13_ := Aside0.mk (blk_below (g := gb274) (o := .cells #[.slice Ao31 t267.length co31, .slice Ao34 t270.length co34] 24 (0, 0)) (zb BK274) hb); have n14_ := Aside0.mk (blk_below (g := gb297) (o := .cells #[.slice Ao39 t289.length co39, .slice Ao43 t292.length co43] 24 (0, 0)) (zb BK297) hb); have n15_ := Aside0.mk (blk_below (g := gb307) (o := .cells #[.slice Ao48 t298.length co48, .slice Ao53 t301.length co53] 24 (0, 0)) (zb BK307) hb); have n16_ := Aside0.mk (blk_below (g := gb316) (o := .cells #[.slice Ao58 t308.length co58, .slice Ao64 t311.length co64] 24 (0, 0)) (zb BK316) hb); have n17_ := Aside0.mk (below_step (zc5 HB GE264 GE274 GE297 GE307 GE316) hb); have n18_ := Aside0.mk (hbox); have n19_ := Aside0.mk ((by rw [hg]; exact (below_size (zc5 HB GE264 GE274 GE297 GE307 GE316)) : w.heap.size ≤ gb326)); have n20_ := Aside0.mk ((by rw [hg]; exact (below_size (zc5 HB GE264 GE274 GE297 GE307 GE316)) : w.heap.size ≤ gb326)); have n21_ := Aside0.mk ((by rw [hg]; exact Nat.ne_of_lt (blk_lt (g := gb264) (o := .cells #[.slice A0_0 l0_0.length c0_0, .slice A0_1 l0_1.length c0_1] 24 (0, 0)) (zb BK264)) : gb264 ≠ gb326)); have n22_ := Aside0.mk ((by rw [hg]; exact Nat.ne_of_gt (blk_lt (g := gb264) (o := .cells #[.slice A0_0 l0_0.length c0_0, .slice A0_1 l0_1.length c0_1] 24 (0, 0)) (zb BK264)) : gb326 ≠ gb264)); have n23_ := Aside0.mk ((by rw [hg]; exact Nat.ne_of_lt (blk_lt (g := gb274) (o := .cells #[.slice Ao31 t267.length co31, .slice Ao34 t270.length co34] 24 (0, 0)) (zb BK274)) : gb274 ≠ gb326)); have n24_ := Aside0.mk ((by rw [hg]; exact Nat.ne_of_gt (blk_lt (g := gb274) (o := .cells #[.slice Ao31 t267.length co31, .slice Ao34 t270.length co34] 24 (0, 0)) (zb BK274)) : gb326 ≠ gb274)); have n25_ := Aside0.mk ((by rw [hg]; exact Nat.ne_of_lt (blk_lt (g := gb297) (o := .cells #[.slice Ao39 t289.length co39, .slice Ao43 t292.length co43] 24 (0, 0)) (zb BK297)) : gb297 ≠ gb326)); have n26_ := Aside0.mk ((by rw [hg]; exact Nat.ne_of_gt (blk_lt (g := gb297) (o := .cells #[.slice Ao39 t289.length co39, .slice Ao43 t292.length co43] 24 (0, 0)) (zb BK297)) : gb326 ≠ gb297)); have n27_ := Aside0.mk ((by rw [hg]; exact Nat.ne_of_lt (blk_lt (g := gb307) (o := .cells #[.slice Ao48 t298.length co48, .slice Ao53 t301.length co53] 24 (0, 0)) (zb BK307)) : gb307 ≠ gb326)); have n28_ := Aside0.mk ((by rw [hg]; exact Nat.ne_of_gt (blk_lt (g := gb307) (o := .cells #[.slice Ao48 t298.length co48, .slice Ao53 t301.length co53] 24 (0, 0)) (zb BK307)) : gb326 ≠ gb307)); have n29_ := Aside0.mk ((by rw [hg]; exact Nat.ne_of_lt (blk_lt (g := gb316) (o := .cells #[.slice Ao58 t308.length co58, .slice Ao64 t311.length co64] 24 (0, 0)) (zb BK316)) : gb316 ≠ gb326)); have n30_ := Aside0.mk ((by rw [hg]; exact Nat.ne_of_gt (blk_lt (g := gb316) (o := .cells #[.slice Ao58 t308.length co58, .slice Ao64 t311.length co64] 24 (0, 0)) (zb BK316)) : gb326 ≠ gb316)); clear HO269; clear HO272; clear HO291; clear HO294; clear HO300; clear HO303; clear HO306; clear HO310; clear HO313; clear HO319; clear HO322; clear HO325; clear BK264; clear BK274; clear BK297; clear BK307; clear BK316; clear HB; have HO269 := n0_; have HO272 := n1_; have HO291 := n2_; have HO294 := n3_; have HO300 := n4_; have HO303 := n5_; have HO306 := n6_; have HO310 := n7_; have HO313 := n8_; have HO319 := n9_; have HO322 := n10_; have HO325 := n11_; have BK264 := n12_; have BK274 := n13_; have BK297 := n14_; have BK307 := n15_; have BK316 := n16_; have HB := n17_; have BK326 := n18_; have GW326 := n19_; have GE326 := n20_; have NB264_326 := n21_; have NB326_264 := n22_; have NB274_326 := n23_; have NB326_274 := n24_; have NB297_326 := n25_; have NB326_297 := n26_; have NB307_326 := n27_; have NB326_307 := n28_; have NB316_326 := n29_; have NB326_316 := n30_; clear n0_ n1_ n2_ n3_ n4_ n5_ n6_ n7_ n8_ n9_ n10_ n11_ n12_ n13_ n14_ n15_ n16_ n17_ n18_ n19_ n20_ n21_ n22_ n23_ n24_ n25_ n26_ n27_ n28_ n29_ n30_; clear hb hbox hg; obtain ⟨Ao69, co69, eo69⟩ := Kd.V_slice HO319.out; subst eo69; have hnb70 := NB326_264.out; have hnc70 := NB264_326.out; have hnb71 := NB326_274.out; have hnc71 := NB274_326.out; have hnb72 := NB326_297.out; have hnc72 := NB297_326.out; have hnb73 := NB326_307.out; have hnc73 := NB307_326.out; have hnb74 := NB326_316.out; have hnc74 := NB316_326.out; have hcz75_0 : w68.cell? ⟨gb326, 0, none⟩ = some (.slice none 0 0) := (blk_cell BK326.out 0).trans rfl; have hcz75_1 : w68.cell? ⟨gb326, 1, none⟩ = some (.slice none 0 0) := (blk_cell BK326.out 1).trans rfl; have hfz75_0 := blk_frozen BK326.out 0; have hfz75_1 := blk_frozen BK326.out 1; obtain ⟨Ao76, co76, eo76⟩ := Kd.V_slice HO322.out; subst eo76))
          have n0_ : Aside0 (Kd.V (Kd.int .i64) 3 ((w68.setCell ⟨gb326, 0, none⟩ (.slice Ao69 t317.length co69)).setCell ⟨gb326, 1, none⟩ (.slice Ao76 t320.length co76)) w.heap.size (fun k_ => k_ ≠ gb264 ∧ k_ ≠ gb274 ∧ k_ ≠ gb297 ∧ k_ ≠ gb307 ∧ k_ ≠ gb316 ∧ k_ ≠ gb326) (.slice Ao31 t267.length co31) t267) := ⟨by (with_reducible repeat (first | apply Kd.V_alloc | apply Kd.V_drewN | apply Kd.V_drew)); exact Kd.V_mono (Kd.V_far (p := ⟨gb326, 1, none⟩) (Kd.V_far (p := ⟨gb326, 0, none⟩) (Kd.V_mono HO269.out (fun k_ hk => (⟨hk, hk.2⟩ : _ ∧ k_ ≠ gb326))) (fun _ hk => hk.2) (.slice Ao69 t317.length co69)) (fun _ hk => hk.2) (.slice Ao76 t320.length co76)) (fun _ hk => ⟨hk.1.1.1, ⟨hk.1.1.2.1, ⟨hk.1.1.2.2.1, ⟨hk.1.1.2.2.2.1, ⟨hk.1.1.2.2.2.2, hk.1.2⟩⟩⟩⟩⟩)⟩
          have n1_ : Aside0 (Kd.V (Kd.int .i64) 3 ((w68.setCell ⟨gb326, 0, none⟩ (.slice Ao69 t317.length co69)).setCell ⟨gb326, 1, none⟩ (.slice Ao76 t320.length co76)) w.heap.size (fun k_ => k_ ≠ gb264 ∧ k_ ≠ gb274 ∧ k_ ≠ gb297 ∧ k_ ≠ gb307 ∧ k_ ≠ gb316 ∧ k_ ≠ gb326) (.slice Ao34 t270.length co34) t270) := ⟨by (with_reducible repeat (first | apply Kd.V_alloc | apply Kd.V_drewN | apply Kd.V_drew)); exact Kd.V_mono (Kd.V_far (p := ⟨gb326, 1, none⟩) (Kd.V_far (p := ⟨gb326, 0, none⟩) (Kd.V_mono HO272.out (fun k_ hk => (⟨hk, hk.2⟩ : _ ∧ k_ ≠ gb326))) (fun _ hk => hk.2) (.slice Ao69 t317.length co69)) (fun _ hk => hk.2) (.slice Ao76 t320.length co76)) (fun _ hk => ⟨hk.1.1.1, ⟨hk.1.1.2.1, ⟨hk.1.1.2.2.1, ⟨hk.1.1.2.2.2.1, ⟨hk.1.1.2.2.2.2, hk.1.2⟩⟩⟩⟩⟩)⟩
          have n2_ : Aside0 (Kd.V (Kd.int .i64) 3 ((w68.setCell ⟨gb326, 0, none⟩ (.slice Ao69 t317.length co69)).setCell ⟨gb326, 1, none⟩ (.slice Ao76 t320.length co76)) w.heap.size (fun k_ => k_ ≠ gb264 ∧ k_ ≠ gb274 ∧ k_ ≠ gb297 ∧ k_ ≠ gb307 ∧ k_ ≠ gb316 ∧ k_ ≠ gb326) (.slice Ao39 t289.length co39) t289) := ⟨by (with_reducible repeat (first | apply Kd.V_alloc | apply Kd.V_drewN | apply Kd.V_drew)); exact Kd.V_mono (Kd.V_far (p := ⟨gb326, 1, none⟩) (Kd.V_far (p := ⟨gb326, 0, none⟩) (Kd.V_mono HO291.out (fun k_ hk => (⟨hk, hk.2⟩ : _ ∧ k_ ≠ gb326))) (fun _ hk => hk.2) (.slice Ao69 t317.length co69)) (fun _ hk => hk.2) (.slice Ao76 t320.length co76)) (fun _ hk => ⟨hk.1.1.1, ⟨hk.1.1.2.1, ⟨hk.1.1.2.2.1, ⟨hk.1.1.2.2.2.1, ⟨hk.1.1.2.2.2.2, hk.1.2⟩⟩⟩⟩⟩)⟩
          have n3_ : Aside0 (Kd.V (Kd.int .i64) 3 ((w68.setCell ⟨gb326, 0, none⟩ (.slice Ao69 t317.length co69)).setCell ⟨gb326, 1, none⟩ (.slice Ao76 t320.length co76)) w.heap.size (fun k_ => k_ ≠ gb264 ∧ k_ ≠ gb274 ∧ k_ ≠ gb297 ∧ k_ ≠ gb307 ∧ k_ ≠ gb316 ∧ k_ ≠ gb326) (.slice Ao43 t292.length co43) t292) := ⟨by (with_reducible repeat (first | apply Kd.V_alloc | apply Kd.V_drewN | apply Kd.V_drew)); exact Kd.V_mono (Kd.V_far (p := ⟨gb326, 1, none⟩) (Kd.V_far (p := ⟨gb326, 0, none⟩) (Kd.V_mono HO294.out (fun k_ hk => (⟨hk, hk.2⟩ : _ ∧ k_ ≠ gb326))) (fun _ hk => hk.2) (.slice Ao69 t317.length co69)) (fun _ hk => hk.2) (.slice Ao76 t320.length co76)) (fun _ hk => ⟨hk.1.1.1, ⟨hk.1.1.2.1, ⟨hk.1.1.2.2.1, ⟨hk.1.1.2.2.2.1, ⟨hk.1.1.2.2.2.2, hk.1.2⟩⟩⟩⟩⟩)⟩
          have n4_ : Aside0 (Kd.V (Kd.int .i64) 3 ((w68.setCell ⟨gb326, 0, none⟩ (.slice Ao69 t317.length co69)).setCell ⟨gb326, 1, none⟩ (.slice Ao76 t320.length co76)) w.heap.size (fun k_ => k_ ≠ gb264 ∧ k_ ≠ gb274 ∧ k_ ≠ gb297 ∧ k_ ≠ gb307 ∧ k_ ≠ gb316 ∧ k_ ≠ gb326) (.slice Ao48 t298.length co48) t298) := ⟨by (with_reducible repeat (first | apply Kd.V_alloc | apply Kd.V_drewN | apply Kd.V_drew)); exact Kd.V_mono (Kd.V_far (p := ⟨gb326, 1, none⟩) (Kd.V_far (p := ⟨gb326, 0, none⟩) (Kd.V_mono HO300.out (fun k_ hk => (⟨hk, hk.2⟩ : _ ∧ k_ ≠ gb326))) (fun _ hk => hk.2) (.slice Ao69 t317.length co69)) (fun _ hk => hk.2) (.slice Ao76 t320.length co76)) (fun _ hk => ⟨hk.1.1.1, ⟨hk.1.1.2.1, ⟨hk.1.1.2.2.1, ⟨hk.1.1.2.2.2.1, ⟨hk.1.1.2.2.2.2, hk.1.2⟩⟩⟩⟩⟩)⟩
          have n5_ : Aside0 (Kd.V (Kd.int .i64) 3 ((w68.setCell ⟨gb326, 0, none⟩ (.slice Ao69 t317.length co69)).setCell ⟨gb326, 1, none⟩ (.slice Ao76 t320.length co76)) w.heap.size (fun k_ => k_ ≠ gb264 ∧ k_ ≠ gb274 ∧ k_ ≠ gb297 ∧ k_ ≠ gb307 ∧ k_ ≠ gb316 ∧ k_ ≠ gb326) (.slice Ao53 t301.length co53) t301) := ⟨by (with_reducible repeat (first | apply Kd.V_alloc | apply Kd.V_drewN | apply Kd.V_drew)); exact Kd.V_mono (Kd.V_far (p := ⟨gb326, 1, none⟩) (Kd.V_far (p := ⟨gb326, 0, none⟩) (Kd.V_mono HO303.out (fun k_ hk => (⟨hk, hk.2⟩ : _ ∧ k_ ≠ gb326))) (fun _ hk => hk.2) (.slice Ao69 t317.length co69)) (fun _ hk => hk.2) (.slice Ao76 t320.length co76)) (fun _ hk => ⟨hk.1.1.1, ⟨hk.1.1.2.1, ⟨hk.1.1.2.2.1, ⟨hk.1.1.2.2.2.1, ⟨hk.1.1.2.2.2.2, hk.1.2⟩⟩⟩⟩⟩)⟩
          have n6_ : Aside0 (Kd.V (Kd.int .i64) 3 ((w68.setCell ⟨gb326, 0, none⟩ (.slice Ao69 t317.length co69)).setCell ⟨gb326, 1, none⟩ (.slice Ao76 t320.length co76)) w.heap.size (fun k_ => k_ ≠ gb264 ∧ k_ ≠ gb274 ∧ k_ ≠ gb297 ∧ k_ ≠ gb307 ∧ k_ ≠ gb316 ∧ k_ ≠ gb326) v305 t304) := ⟨by (with_reducible repeat (first | apply Kd.V_alloc | apply Kd.V_drewN | apply Kd.V_drew)); exact Kd.V_mono (Kd.V_far (p := ⟨gb326, 1, none⟩) (Kd.V_far (p := ⟨gb326, 0, none⟩) (Kd.V_mono HO306.out (fun k_ hk => (⟨hk, hk.2⟩ : _ ∧ k_ ≠ gb326))) (fun _ hk => hk.2) (.slice Ao69 t317.length co69)) (fun _ hk => hk.2) (.slice Ao76 t320.length co76)) (fun _ hk => ⟨hk.1.1.1, ⟨hk.1.1.2.1, ⟨hk.1.1.2.2.1, ⟨hk.1.1.2.2.2.1, ⟨hk.1.1.2.2.2.2, hk.1.2⟩⟩⟩⟩⟩)⟩
          have n7_ : Aside0 (Kd.V (Kd.int .i64) 3 ((w68.setCell ⟨gb326, 0, none⟩ (.slice Ao69 t317.length co69)).setCell ⟨gb326, 1, none⟩ (.slice Ao76 t320.length co76)) w.heap.size (fun k_ => k_ ≠ gb264 ∧ k_ ≠ gb274 ∧ k_ ≠ gb297 ∧ k_ ≠ gb307 ∧ k_ ≠ gb316 ∧ k_ ≠ gb326) (.slice Ao58 t308.length co58) t308) := ⟨by (with_reducible repeat (first | apply Kd.V_alloc | apply Kd.V_drewN | apply Kd.V_drew)); exact Kd.V_mono (Kd.V_far (p := ⟨gb326, 1, none⟩) (Kd.V_far (p := ⟨gb326, 0, none⟩) (Kd.V_mono HO310.out (fun k_ hk => (⟨hk, hk.2⟩ : _ ∧ k_ ≠ gb326))) (fun _ hk => hk.2) (.slice Ao69 t317.length co69)) (fun _ hk => hk.2) (.slice Ao76 t320.length co76)) (fun _ hk => ⟨hk.1.1.1, ⟨hk.1.1.2.1, ⟨hk.1.1.2.2.1, ⟨hk.1.1.2.2.2.1, ⟨hk.1.1.2.2.2.2, hk.1.2⟩⟩⟩⟩⟩)⟩
          have n8_ : Aside0 (Kd.V (Kd.int .i64) 3 ((w68.setCell ⟨gb326, 0, none⟩ (.slice Ao69 t317.length co69)).setCell ⟨gb326, 1, none⟩ (.slice Ao76 t320.length co76)) w.heap.size (fun k_ => k_ ≠ gb264 ∧ k_ ≠ gb274 ∧ k_ ≠ gb297 ∧ k_ ≠ gb307 ∧ k_ ≠ gb316 ∧ k_ ≠ gb326) (.slice Ao64 t311.length co64) t311) := ⟨by (with_reducible repeat (first | apply Kd.V_alloc | apply Kd.V_drewN | apply Kd.V_drew)); exact Kd.V_mono (Kd.V_far (p := ⟨gb326, 1, none⟩) (Kd.V_far (p := ⟨gb326, 0, none⟩) (Kd.V_mono HO313.out (fun k_ hk => (⟨hk, hk.2⟩ : _ ∧ k_ ≠ gb326))) (fun _ hk => hk.2) (.slice Ao69 t317.length co69)) (fun _ hk => hk.2) (.slice Ao76 t320.length co76)) (fun _ hk => ⟨hk.1.1.1, ⟨hk.1.1.2.1, ⟨hk.1.1.2.2.1, ⟨hk.1.1.2.2.2.1, ⟨hk.1.1.2.2.2.2, hk.1.2⟩⟩⟩⟩⟩)⟩
          have n9_ : Aside0 (Kd.V (Kd.int .i64) 3 ((w68.setCell ⟨gb326, 0, none⟩ (.slice Ao69 t317.length co69)).setCell ⟨gb326, 1, none⟩ (.slice Ao76 t320.length co76)) w.heap.size (fun k_ => k_ ≠ gb264 ∧ k_ ≠ gb274 ∧ k_ ≠ gb297 ∧ k_ ≠ gb307 ∧ k_ ≠ gb316 ∧ k_ ≠ gb326) (.slice Ao69 t317.length co69) t317) := ⟨by (with_reducible repeat (first | apply Kd.V_alloc | apply Kd.V_drewN | apply Kd.V_drew)); exact Kd.V_mono (Kd.V_far (p := ⟨gb326, 1, none⟩) (Kd.V_far (p := ⟨gb326, 0, none⟩) (Kd.V_mono HO319.out (fun k_ hk => (⟨hk, hk.2⟩ : _ ∧ k_ ≠ gb326))) (fun _ hk => hk.2) (.slice Ao69 t317.length co69)) (fun _ hk => hk.2) (.slice Ao76 t320.length co76)) (fun _ hk => ⟨hk.1.1.1, ⟨hk.1.1.2.1, ⟨hk.1.1.2.2.1, ⟨hk.1.1.2.2.2.1, ⟨hk.1.1.2.2.2.2, hk.1.2⟩⟩⟩⟩⟩)⟩
          have n10_ : Aside0 (Kd.V (Kd.int .i64) 3 ((w68.setCell ⟨gb326, 0, none⟩ (.slice Ao69 t317.length co69)).setCell ⟨gb326, 1, none⟩ (.slice Ao76 t320.length co76)) w.heap.size (fun k_ => k_ ≠ gb264 ∧ k_ ≠ gb274 ∧ k_ ≠ gb297 ∧ k_ ≠ gb307 ∧ k_ ≠ gb316 ∧ k_ ≠ gb326) (.slice Ao76 t320.length co76) t320) := ⟨by (with_reducible repeat (first | apply Kd.V_alloc | apply Kd.V_drewN | apply Kd.V_drew)); exact Kd.V_mono (Kd.V_far (p := ⟨gb326, 1, none⟩) (Kd.V_far (p := ⟨gb326, 0, none⟩) (Kd.V_mono HO322.out (fun k_ hk => (⟨hk, hk.2⟩ : _ ∧ k_ ≠ gb326))) (fun _ hk => hk.2) (.slice Ao69 t317.length co69)) (fun _ hk => hk.2) (.slice Ao76 t320.length co76)) (fun _ hk => ⟨hk.1.1.1, ⟨hk.1.1.2.1, ⟨hk.1.1.2.2.1, ⟨hk.1.1.2.2.2.1, ⟨hk.1.1.2.2.2.2, hk.1.2⟩⟩⟩⟩⟩)⟩
          have n11_ : Aside0 (Kd.V (Kd.int .i64) 3 ((w68.setCell ⟨gb326, 0, none⟩ (.slice Ao69 t317.length co69)).setCell ⟨gb326, 1, none⟩ (.slice Ao76 t320.length co76)) w.heap.size (fun k_ => k_ ≠ gb264 ∧ k_ ≠ gb274 ∧ k_ ≠ gb297 ∧ k_ ≠ gb307 ∧ k_ ≠ gb316 ∧ k_ ≠ gb326) v324 t323) := ⟨by (with_reducible repeat (first | apply Kd.V_alloc | apply Kd.V_drewN | apply Kd.V_drew)); exact Kd.V_mono (Kd.V_far (p := ⟨gb326, 1, none⟩) (Kd.V_far (p := ⟨gb326, 0, none⟩) (Kd.V_mono HO325.out (fun k_ hk => (⟨hk, hk.2⟩ : _ ∧ k_ ≠ gb326))) (fun _ hk => hk.2) (.slice Ao69 t317.length co69)) (fun _ hk => hk.2) (.slice Ao76 t320.length co76)) (fun _ hk => ⟨hk.1.1.1, ⟨hk.1.1.2.1, ⟨hk.1.1.2.2.1, ⟨hk.1.1.2.2.2.1, ⟨hk.1.1.2.2.2.2, hk.1.2⟩⟩⟩⟩⟩)⟩
          have n12_ : Aside0 (((w68.setCell ⟨gb326, 0, none⟩ (.slice Ao69 t317.length co69)).setCell ⟨gb326, 1, none⟩ (.slice Ao76 t320.length co76)).heap[gb264]? = some (.cells #[.slice A0_0 l0_0.length c0_0, .slice A0_1 l0_1.length c0_1] 24 (0, 0))) := ⟨by (with_reducible repeat (first | refine blk_drewN ?_ _ | refine blk_drew ?_ | refine blk_alloc ?_ _)); refine blk_far ?_ NB264_326.out _; (with_reducible repeat (first | refine blk_drewN ?_ _ | refine blk_drew ?_ | refine blk_alloc ?_ _)); refine blk_far ?_ NB264_326.out _; (with_reducible repeat (first | refine blk_drewN ?_ _ | refine blk_drew ?_ | refine blk_alloc ?_ _)); exact BK264.out⟩
          have n13_ : Aside0 (((w68.setCell ⟨gb326, 0, none⟩ (.slice Ao69 t317.length co69)).setCell ⟨gb326, 1, none⟩ (.slice Ao76 t320.length co76)).heap[gb274]? = some (.cells #[.slice Ao31 t267.length co31, .slice Ao34 t270.length co34] 24 (0, 0))) := ⟨by (with_reducible repeat (first | refine blk_drewN ?_ _ | refine blk_drew ?_ | refine blk_alloc ?_ _)); refine blk_far ?_ NB274_326.out _; (with_reducible repeat (first | refine blk_drewN ?_ _ | refine blk_drew ?_ | refine blk_alloc ?_ _)); refine blk_far ?_ NB274_326.out _; (with_reducible repeat (first | refine blk_drewN ?_ _ | refine blk_drew ?_ | refine blk_alloc ?_ _)); exact BK274.out⟩
          have n14_ : Aside0 (((w68.setCell ⟨gb326, 0, none⟩ (.slice Ao69 t317.length co69)).setCell ⟨gb326, 1, none⟩ (.slice Ao76 t320.length co76)).heap[gb297]? = some (.cells #[.slice Ao39 t289.length co39, .slice Ao43 t292.length co43] 24 (0, 0))) := ⟨by (with_reducible repeat (first | refine blk_drewN ?_ _ | refine blk_drew ?_ | refine blk_alloc ?_ _)); refine blk_far ?_ NB297_326.out _; (with_reducible repeat (first | refine blk_drewN ?_ _ | refine blk_drew ?_ | refine blk_alloc ?_ _)); refine blk_far ?_ NB297_326.out _; (with_reducible repeat (first | refine blk_drewN ?_ _ | refine blk_drew ?_ | refine blk_alloc ?_ _)); exact BK297.out⟩
          have n15_ : Aside0 (((w68.setCell ⟨gb326, 0, none⟩ (.slice Ao69 t317.length co69)).setCell ⟨gb326, 1, none⟩ (.slice Ao76 t320.length co76)).heap[gb307]? = some (.cells #[.slice Ao48 t298.length co48, .slice Ao53 t301.length co53] 24 (0, 0))) := ⟨by (with_reducible repeat (first | refine blk_drewN ?_ _ | refine blk_drew ?_ | refine blk_alloc ?_ _)); refine blk_far ?_ NB307_326.out _; (with_reducible repeat (first | refine blk_drewN ?_ _ | refine blk_drew ?_ | refine blk_alloc ?_ _)); refine blk_far ?_ NB307_326.out _; (with_reducible repeat (first | refine blk_drewN ?_ _ | refine blk_drew ?_ | refine blk_alloc ?_ _)); exact BK307.out⟩
          have n16_ : Aside0 (((w68.setCell ⟨gb326, 0, none⟩ (.slice Ao69 t317.length co69)).setCell ⟨gb326, 1, none⟩ (.slice Ao76 t320.length co76)).heap[gb316]? = some (.cells #[.slice Ao58 t308.length co58, .slice Ao64 t311.length co64] 24 (0, 0))) := ⟨by (with_reducible repeat (first | refine blk_drewN ?_ _ | refine blk_drew ?_ | refine blk_alloc ?_ _)); refine blk_far ?_ NB316_326.out _; (with_reducible repeat (first | refine blk_drewN ?_ _ | refine blk_drew ?_ | refine blk_alloc ?_ _)); refine blk_far ?_ NB316_326.out _; (with_reducible repeat (first | refine blk_drewN ?_ _ | refine blk_drew ?_ | refine blk_alloc ?_ _)); exact BK316.out⟩
          have n17_ : Aside0 (((w68.setCell ⟨gb326, 0, none⟩ (.slice Ao69 t317.length co69)).setCell ⟨gb326, 1, none⟩ (.slice Ao76 t320.length co76)).heap[gb326]? = some (.cells #[.slice Ao69 t317.length co69, .slice Ao76 t320.length co76] 24 (0, 0))) := ⟨by (with_reducible repeat (first | refine blk_drewN ?_ _ | refine blk_drew ?_ | refine blk_alloc ?_ _)); refine blk_put (cs := #[.slice Ao69 t317.length co69, .slice none 0 0]) ?_ 1 _ rfl; (with_reducible repeat (first | refine blk_drewN ?_ _ | refine blk_drew ?_ | refine blk_alloc ?_ _)); refine blk_put (cs := #[.slice none 0 0, .slice none 0 0]) ?_ 0 _ rfl; (with_reducible repeat (first | refine blk_drewN ?_ _ | refine blk_drew ?_ | refine blk_alloc ?_ _)); exact BK326.out⟩
          have n18_ : Aside0 (Below w.heap.size w ((w68.setCell ⟨gb326, 0, none⟩ (.slice Ao69 t317.length co69)).setCell ⟨gb326, 1, none⟩ (.slice Ao76 t320.length co76))) := ⟨by repeat (first | (with_reducible first | exact HB.out | apply below_alloc | apply pw_below_drewN | apply below_drew1 | refine below_set ?_ GE264.out | refine below_set ?_ GE274.out | refine below_set ?_ GE297.out | refine below_set ?_ GE307.out | refine below_set ?_ GE316.out | refine below_set ?_ GE326.out) | exact HB.out)⟩
          (try clear HO269)
          (try clear HO272)
          (try clear HO291)
          (try clear HO294)
          (try clear HO300)
          (try clear HO303)
          (try clear HO306)
          (try clear HO310)
          (try clear HO313)
          (try clear HO319)
          (try clear HO322)
          (try clear HO325)
          (try clear BK264)
          (try clear BK274)
          (try clear BK297)
          (try clear BK307)
          (try clear BK316)
          (try clear BK326)
          (try clear HB)
          generalize ((w68.setCell ⟨gb326, 0, none⟩ (.slice Ao69 t317.length co69)).setCell ⟨gb326, 1, none⟩ (.slice Ao76 t320.length co76)) = w77 at n0_ n1_ n2_ n3_ n4_ n5_ n6_ n7_ n8_ n9_ n10_ n11_ n12_ n13_ n14_ n15_ n16_ n17_ n18_ ⊢
          have HO269 := n0_
          have HO272 := n1_
          have HO291 := n2_
          have HO294 := n3_
          have HO300 := n4_
          have HO303 := n5_
          have HO306 := n6_
          have HO310 := n7_
          have HO313 := n8_
          have HO319 := n9_
          have HO322 := n10_
          have HO325 := n11_
          have BK264 := n12_
          have BK274 := n13_
          have BK297 := n14_
          have BK307 := n15_
          have BK316 := n16_
          have BK326 := n17_
          have HB := n18_
          clear n0_ n1_ n2_ n3_ n4_ n5_ n6_ n7_ n8_ n9_ n10_ n11_ n12_ n13_ n14_ n15_ n16_ n17_ n18_
          have n0_ := Aside0.mk (Kd.V_drew HO269.out)
          have n1_ := Aside0.mk (Kd.V_drew HO272.out)
          have n2_ := Aside0.mk (Kd.V_drew HO291.out)
          have n3_ := Aside0.mk (Kd.V_drew HO294.out)
          have n4_ := Aside0.mk (Kd.V_drew HO300.out)
          have n5_ := Aside0.mk (Kd.V_drew HO303.out)
          have n6_ := Aside0.mk (Kd.V_drew HO306.out)
          have n7_ := Aside0.mk (Kd.V_drew HO310.out)
          have n8_ := Aside0.mk (Kd.V_drew HO313.out)
          have n9_ := Aside0.mk (Kd.V_drew HO319.out)
          have n10_ := Aside0.mk (Kd.V_drew HO322.out)
          have n11_ := Aside0.mk (Kd.V_drew HO325.out)
          have n12_ := Aside0.mk (blk_drew BK264.out)
          have n13_ := Aside0.mk (blk_drew BK274.out)
          have n14_ := Aside0.mk (blk_drew BK297.out)
          have n15_ := Aside0.mk (blk_drew BK307.out)
          have n16_ := Aside0.mk (blk_drew BK316.out)
          have n17_ := Aside0.mk (blk_drew BK326.out)
          have n18_ := Aside0.mk (below_drew1 HB.out)
          clear HO269
          clear HO272
          clear HO291
          clear HO294
          clear HO300
          clear HO303
          clear HO306
          clear HO310
          clear HO313
          clear HO319
          clear HO322
          clear HO325
          clear BK264
          clear BK274
          clear BK297
          clear BK307
          clear BK316
          clear BK326
          clear HB
          have HO269 := n0_
          have HO272 := n1_
          have HO291 := n2_
          have HO294 := n3_
          have HO300 := n4_
          have HO303 := n5_
          have HO306 := n6_
          have HO310 := n7_
          have HO313 := n8_
          have HO319 := n9_
          have HO322 := n10_
          have HO325 := n11_
          have BK264 := n12_
          have BK274 := n13_
          have BK297 := n14_
          have BK307 := n15_
          have BK316 := n16_
          have BK326 := n17_
          have HB := n18_
          clear n0_ n1_ n2_ n3_ n4_ n5_ n6_ n7_ n8_ n9_ n10_ n11_ n12_ n13_ n14_ n15_ n16_ n17_ n18_
          refine start_ (n := 41) (S := fun w' => w'.cell? ⟨gb297, 0, none⟩ = some (.slice Ao39 t289.length co39) ∧ w'.cell? ⟨gb297, 1, none⟩ = some (.slice Ao43 t292.length co43) ∧ w'.cell? ⟨gb264, 0, none⟩ = some (.slice A0_0 l0_0.length c0_0) ∧ w'.cell? ⟨gb264, 1, none⟩ = some (.slice A0_1 l0_1.length c0_1) ∧ w'.cell? ⟨gb316, 0, none⟩ = some (.slice Ao58 t308.length co58) ∧ w'.cell? ⟨gb316, 1, none⟩ = some (.slice Ao64 t311.length co64) ∧ w'.cell? ⟨gb326, 0, none⟩ = some (.slice Ao69 t317.length co69) ∧ w'.cell? ⟨gb326, 1, none⟩ = some (.slice Ao76 t320.length co76)) (ds := []) #[false, false, false, false, false, false, false, false, false, false, false, false, false, false, false, false, false, false, false, false, false, false, false, false, false, false, false, false, false, false, false, false, false, false, false, false, false, false, false, false, false] (by kernel_rfl) rfl rfl ⟨(blk_cell BK297.out 0).trans rfl, (blk_cell BK297.out 1).trans rfl, (blk_cell BK264.out 0).trans rfl, (blk_cell BK264.out 1).trans rfl, (blk_cell BK316.out 0).trans rfl, (blk_cell BK316.out 1).trans rfl, (blk_cell BK326.out 0).trans rfl, (blk_cell BK326.out 1).trans rfl⟩ (fun hHeld => ?_); refine with_tabW handshakerlaw20_CondLeaves.tab10 handshakerlaw20_CondLeaves.bits10 (fun HT_ HW_ => ?_)
          generalize w77.drew = w78 at HO269 HO272 HO291 HO294 HO300 HO303 HO306 HO310 HO313 HO319 HO322 HO325 BK264 BK274 BK297 BK307 BK316 BK326 HB hHeld ⊢
          refine pure_ (i := 0) (N := some 67) (v := ?_) (a' := ?_) #[true, false, false, false, false, false, false, false, false, false, false, false, false, false, false, false, false, false, false, false, false, false, false, false, false, false, false, false, false, false, false, false, false, false, false, false, false, false, false, false, false] rfl rfl (any_of HT_.out (by kernel_rfl)) (fun _ _ _ h => h) (Or.inl ⟨by rfl, ?_⟩) ?_ ?_
          rotate_left
          ·intro w'
           go_simp
           with_reducible rfl
          rotate_left
          ·simp only [Act.put, List.setIfInBounds_toArray, List.set_cons_zero, List.set_cons_succ, i64_w, i32_w]
           rfl
          refine pure_ (i := 1) (N := some 68) (v := ?_) (a' := ?_) #[true, true, false, false, false, false, false, false, false, false, false, false, false, false, false, false, false, false, false, false, false, false, false, false, false, false, false, false, false, false, false, false, false, false, false, false, false, false, false, false, false] rfl rfl (any_of HT_.out (by kernel_rfl)) (fun _ _ _ h => h) (Or.inl ⟨by rfl, ?_⟩) ?_ ?_
          rotate_left
          ·intro w'
           go_simp
           with_reducible rfl
          rotate_left
          ·simp only [Act.put, List.setIfInBounds_toArray, List.set_cons_zero, List.set_cons_succ, i64_w, i32_w]
           rfl
          refine pure_ (i := 2) (N := some 69) (v := ?_) (a' := ?_) #[true, true, true, false, false, false, false, false, false, false, false, false, false, false, false, false, false, false, false, false, false, false, false, false, false, false, false, false, false, false, false, false, false, false, false, false, false, false, false, false, false] rfl rfl (any_of HT_.out (by kernel_rfl)) (fun _ _ _ h => h) (Or.inl ⟨by rfl, ?_⟩) ?_ ?_
          rotate_left
          ·intro w'
           go_simp
           with_reducible rfl
          rotate_left
          ·simp only [Act.put, List.setIfInBounds_toArray, List.set_cons_zero, List.set_cons_succ, i64_w, i32_w]
           rfl
          refine pure_ (i := 3) (N := some 70) (v := ?_) (a' := ?_) #[true, true, true, true, false, false, false, false, false, false, false, false, false, false, false, false, false, false, false, false, false, false, false, false, false, false, false, false, false, false, false, false, false, false, false, false, false, false, false, false, false] rfl rfl (any_of HT_.out (by kernel_rfl)) (fun _ _ _ h => h) (Or.inl ⟨by rfl, ?_⟩) ?_ ?_
          rotate_left
          ·intro w'
           go_simp
           with_reducible rfl
          rotate_left
          ·simp only [Act.put, List.setIfInBounds_toArray, List.set_cons_zero, List.set_cons_succ, i64_w, i32_w]
           rfl
          refine pure_ (i := 4) (N := some 71) (v := ?_) (a' := ?_) #[true, true, true, true, true, false, false, false, false, false, false, false, false, false, false, false, false, false, false, false, false, false, false, false, false, false, false, false, false, false, false, false, false, false, false, false, false, false, false, false, false] rfl rfl (any_of HT_.out (by kernel_rfl)) (fun _ _ _ h => h) (Or.inl ⟨by rfl, ?_⟩) ?_ ?_
          rotate_left
          ·intro w'
           go_simp
           with_reducible rfl
          rotate_left
          ·simp only [Act.put, List.setIfInBounds_toArray, List.set_cons_zero, List.set_cons_succ, i64_w, i32_w]
           rfl
          refine pure_ (i := 5) (N := some 72) (v := ?_) (a' := ?_) #[true, true, true, true, true, true, false, false, false, false, false, false, false, false, false, false, false, false, false, false, false, false, false, false, false, false, false, false, false, false, false, false, false, false, false, false, false, false, false, false, false] rfl rfl (any_of HT_.out (by kernel_rfl)) (fun _ _ _ h => h) (Or.inl ⟨by rfl, ?_⟩) ?_ ?_
          rotate_left
          ·intro w'
           go_simp
           with_reducible rfl
          rotate_left
          ·simp only [Act.put, List.setIfInBounds_toArray, List.set_cons_zero, List.set_cons_succ, i64_w, i32_w]
           rfl
          refine pure_ (i := 6) (N := some 73) (v := ?_) (a' := ?_) #[true, true, true, true, true, true, true, false, false, false, false, false, false, false, false, false, false, false, false, false, false, false, false, false, false, false, false, false, false, false, false, false, false, false, false, false, false, false, false, false, false] rfl rfl (any_of HT_.out (by kernel_rfl)) (fun _ _ _ h => h) (Or.inl ⟨by rfl, ?_⟩) ?_ ?_
          rotate_left
          ·intro w'
           go_simp
           with_reducible rfl
          rotate_left
          ·simp only [Act.put, List.setIfInBounds_toArray, List.set_cons_zero, List.set_cons_succ, i64_w, i32_w]
           rfl
          refine take_ (i := 7) (N := some 74) (v := ?_) (a' := ?_) #[true, true, true, true, true, true, true, true, false, false, false, false, false, false, false, false, false, false, false, false, false, false, false, false, false, false, false, false, false, false, false, false, false, false, false, false, false, false, false, false, false] rfl rfl (take_ofW HT_.out HW_.out (by kernel_rfl)) (fun _ _ _ h => h) (Or.inl ⟨by rfl, ?_⟩) hHeld ?_ ?_
          rotate_left
          ·rintro w' ⟨s0, s1, s2, s3, s4, s5, s6, s7⟩
           go_simp
           with_reducible rfl
          rotate_left
          ·simp only [Act.put, List.setIfInBounds_toArray, List.set_cons_zero, List.set_cons_succ, i64_w, i32_w]
           rfl
          refine take_ (i := 9) (N := some 76) (v := ?_) (a' := ?_) #[true, true, true, true, true, true, true, true, false, true, false, false, false, false, false, false, false, false, false, false, false, false, false, false, false, false, false, false, false, false, false, false, false, false, false, false, false, false, false, false, false] rfl rfl (take_ofW HT_.out HW_.out (by kernel_rfl)) (fun _ _ _ h => h) (Or.inl ⟨by rfl, ?_⟩) hHeld ?_ ?_
          rotate_left
          ·rintro w' ⟨s0, s1, s2, s3, s4, s5, s6, s7⟩
           go_simp
           with_reducible rfl
          rotate_left
          ·simp only [Act.put, List.setIfInBounds_toArray, List.set_cons_zero, List.set_cons_succ, i64_w, i32_w]
           rfl
          refine one_ (i := 8) (N := some 75) #[true, true, true, true, true, true, true, true, true, true, false, false, false, false, false, false, false, false, false, false, false, false, false, false, false, false, false, false, false, false, false, false, false, false, false, false, false, false, false, false, false] rfl rfl (one_of HT_.out (by kernel_rfl)) (by decide) (fun K hK => ?_)
          refine goes_ Try.func12 (by kernel_rfl) rfl #[.agg #[.slice Ao39 t289.length co39, .slice Ao43 t292.length co43]] (by rfl) rfl rfl zm ?_
          with_reducible refine (handshakerlaw20_ref.calls (fun k_ => (k_ ≠ gb264 ∧ (k_ ≠ gb274 ∧ (k_ ≠ gb297 ∧ (k_ ≠ gb307 ∧ (k_ ≠ gb316 ∧ k_ ≠ gb326)))))) _ _ t289 (fun k_ => (k_ ≠ gb264 ∧ (k_ ≠ gb274 ∧ (k_ ≠ gb297 ∧ (k_ ≠ gb307 ∧ (k_ ≠ gb316 ∧ k_ ≠ gb326)))))) _ _ t292 t327 t330 _ ?side1 ?side2 A13.out).mono ?_
          (case side1 => exact HO291.out)
          (case side2 => exact HO294.out)
          rintro e w79 ⟨v328, v331, rfl, ho0, ho1, hb⟩
          refine ⟨_, rfl, ?_⟩
          have n0_ := Aside0.mk (Kd.V_below (zV HO269) hb)
          have n1_ := Aside0.mk (Kd.V_below (zV HO272) hb)
          have n2_ := Aside0.mk (Kd.V_below (zV HO291) hb)
          have n3_ := Aside0.mk (Kd.V_below (zV HO294) hb)
          have n4_ := Aside0.mk (Kd.V_below (zV HO300) hb)
          have n5_ := Aside0.mk (Kd.V_below (zV HO303) hb)
          have n6_ := Aside0.mk (Kd.V_below (zV HO306) hb)
          have n7_ := Aside0.mk (Kd.V_below (zV HO310) hb)
          have n8_ := Aside0.mk (Kd.V_below (zV HO313) hb)
          have n9_ := Aside0.mk (Kd.V_below (zV HO319) hb)
          have n10_ := Aside0.mk (Kd.V_below (zV HO322) hb)
          have n11_ := Aside0.mk (Kd.V_below (zV HO325) hb)
          have n12_ := Aside0.mk (Kd.V_lower (Kd.V_mono (ok' := fun k_ => k_ ≠ gb264 ∧ k_ ≠ gb274 ∧ k_ ≠ gb297 ∧ k_ ≠ gb307 ∧ k_ ≠ gb316 ∧ k_ ≠ gb326) ho0 (fun k_ hk_ => ⟨Or.elim hk_ (fun hs_ => Or.elim hs_ (fun hs_ => hs_.1) (fun hs_ => hs_.1)) (fun hn_ => (Kd.freshB (g := gb264) (o := .cells #[.slice A0_0 l0_0.length c0_0, .slice A0_1 l0_1.length c0_1] 24 (0, 0)) (zb BK264) k_ hn_)), Or.elim hk_ (fun hs_ => Or.elim hs_ (fun hs_ => hs_.2.1) (fun hs_ => hs_.2.1)) (fun hn_ => (Kd.freshB (g := gb274) (o := .cells #[.slice Ao31 t267.length co31, .slice Ao34 t270.length co34] 24 (0, 0)) (zb BK274) k_ hn_)), Or.elim hk_ (fun hs_ => Or.elim hs_ (fun hs_ => hs_.2.2.1) (fun hs_ => hs_.2.2.1)) (fun hn_ => (Kd.freshB (g := gb297) (o := .cells #[.slice Ao39 t289.length co39, .slice Ao43 t292.length co43] 24 (0, 0)) (zb BK297) k_ hn_)), Or.elim hk_ (fun hs_ => Or.elim hs_ (fun hs_ => hs_.2.2.2.1) (fun hs_ => hs_.2.2.2.1)) (fun hn_ => (Kd.freshB (g := gb307) (o := .cells #[.slice Ao48 t298.length co48, .slice Ao53 t301.length co53] 24 (0, 0)) (zb BK307) k_ hn_)), Or.elim hk_ (fun hs_ => Or.elim hs_ (fun hs_ => hs_.2.2.2.2.1) (fun hs_ => hs_.2.2.2.2.1)) (fun hn_ => (Kd.freshB (g := gb316) (o := .cells #[.slice Ao58 t308.length co58, .slice Ao64 t311.length co64] 24 (0, 0)) (zb BK316) k_ hn_)), Or.elim hk_ (fun hs_ => Or.elim hs_ (fun hs_ => hs_.2.2.2.2.2) (fun hs_ => hs_.2.2.2.2.2)) (fun hn_ => (Kd.freshB (g := gb326) (o := .cells #[.slice Ao69 t317.length co69, .slice Ao76 t320.length co76] 24 (0, 0)) (zb BK326) k_ hn_))⟩)) (below_size (zc6 HB GE264 GE274 GE297 GE307 GE316 GE326)))
          have n13_ := Aside0.mk (Kd.V_lower (Kd.V_mono (ok' := fun k_ => k_ ≠ gb264 ∧ k_ ≠ gb274 ∧ k_ ≠ gb297 ∧ k_ ≠ gb307 ∧ k_ ≠ gb316 ∧ k_ ≠ gb326) ho1 (fun k_ hk_ => ⟨Or.elim hk_ (fun hs_ => Or.elim hs_ (fun hs_ => hs_.1) (fun hs_ => hs_.1)) (fun hn_ => (Kd.freshB (g := gb264) (o := .cells #[.slice A0_0 l0_0.length c0_0, .slice A0_1 l0_1.length c0_1] 24 (0, 0)) (zb BK264) k_ hn_)), Or.elim hk_ (fun hs_ => Or.elim hs_ (fun hs_ => hs_.2.1) (fun hs_ => hs_.2.1)) (fun hn_ => (Kd.freshB (g := gb274) (o := .cells #[.slice Ao31 t267.length co31, .slice Ao34 t270.length co34] 24 (0, 0)) (zb BK274) k_ hn_)), Or.elim hk_ (fun hs_ => Or.elim hs_ (fun hs_ => hs_.2.2.1) (fun hs_ => hs_.2.2.1)) (fun hn_ => (Kd.freshB (g := gb297) (o := .cells #[.slice Ao39 t289.length co39, .slice Ao43 t292.length co43] 24 (0, 0)) (zb BK297) k_ hn_)), Or.elim hk_ (fun hs_ => Or.elim hs_ (fun hs_ => hs_.2.2.2.1) (fun hs_ => hs_.2.2.2.1)) (fun hn_ => (Kd.freshB (g := gb307) (o := .cells #[.slice Ao48 t298.length co48, .slice Ao53 t301.length co53] 24 (0, 0)) (zb BK307) k_ hn_)), Or.elim hk_ (fun hs_ => Or.elim hs_ (fun hs_ => hs_.2.2.2.2.1) (fun hs_ => hs_.2.2.2.2.1)) (fun hn_ => (Kd.freshB (g := gb316) (o := .cells #[.slice Ao58 t308.length co58, .slice Ao64 t311.length co64] 24 (0, 0)) (zb BK316) k_ hn_)), Or.elim hk_ (fun hs_ => Or.elim hs_ (fun hs_ => hs_.2.2.2.2.2) (fun hs_ => hs_.2.2.2.2.2)) (fun hn_ => (Kd.freshB (g := gb326) (o := .cells #[.slice Ao69 t317.length co69, .slice Ao76 t320.length co76] 24 (0, 0)) (zb BK326) k_ hn_))⟩)) (below_size (zc6 HB GE264 GE274 GE297 GE307 GE316 GE326)))
          have n14_ := Aside0.mk (blk_below (g := gb264) (o := .cells #[.slice A0_0 l0_0.length c0_0, .slice A0_1 l0_1.length c0_1] 24 (0, 0)) (zb BK264) hb)
          have n15_ := Aside0.mk (blk_below (g := gb274) (o := .cells #[.slice Ao31 t267.length co31, .slice Ao34 t270.length co34] 24 (0, 0)) (zb BK274) hb)
          have n16_ := Aside0.mk (blk_below (g := gb297) (o := .cells #[.slice Ao39 t289.length co39, .slice Ao43 t292.length co43] 24 (0, 0)) (zb BK297) hb)
          have n17_ := Aside0.mk (blk_below (g := gb307) (o := .cells #[.slice Ao48 t298.length co48, .slice Ao53 t301.length co53] 24 (0, 0)) (zb BK307) hb)
          have n18_ := Aside0.mk (blk_below (g := gb316) (o := .cells #[.slice Ao58 t308.length co58, .slice Ao64 t311.length co64] 24 (0, 0)) (zb BK316) hb)
          have n19_ := Aside0.mk (blk_below (g := gb326) (o := .cells #[.slice Ao69 t317.length co69, .slice Ao76 t320.length co76] 24 (0, 0)) (zb BK326) hb)
          have n20_ := Aside0.mk (below_step (zc6 HB GE264 GE274 GE297 GE307 GE316 GE326) hb)
          clear HO269
          clear HO272
          clear HO291
          clear HO294
          clear HO300
          clear HO303
          clear HO306
          clear HO310
          clear HO313
          clear HO319
          clear HO322
          clear HO325
          clear BK264
          clear BK274
          clear BK297
          clear BK307
          clear BK316
          clear BK326
          clear HB
          have HO269 := n0_
          have HO272 := n1_
          have HO291 := n2_
          have HO294 := n3_
          have HO300 := n4_
          have HO303 := n5_
          have HO306 := n6_
          have HO310 := n7_
          have HO313 := n8_
          have HO319 := n9_
          have HO322 := n10_
          have HO325 := n11_
          have HO329 := n12_
          have HO332 := n13_
          have BK264 := n14_
          have BK274 := n15_
          have BK297 := n16_
          have BK307 := n17_
          have BK316 := n18_
          have BK326 := n19_
          have HB := n20_
          clear n0_ n1_ n2_ n3_ n4_ n5_ n6_ n7_ n8_ n9_ n10_ n11_ n12_ n13_ n14_ n15_ n16_ n17_ n18_ n19_ n20_
          (try clear hb)
          (try clear hb2)
          (try clear hk)
          (try clear hi)
          (try clear ho0)
          (try clear ho1)
          refine hK.out _ _ ⟨(blk_cell BK297.out 0).trans rfl, (blk_cell BK297.out 1).trans rfl, (blk_cell BK264.out 0).trans rfl, (blk_cell BK264.out 1).trans rfl, (blk_cell BK316.out 0).trans rfl, (blk_cell BK316.out 1).trans rfl, (blk_cell BK326.out 0).trans rfl, (blk_cell BK326.out 1).trans rfl⟩ (fun hHeld => ?_)
          clear hK K
          refine norm_ (a' := ?_) ?_ ?_
          rotate_left
          ·show Act.put _ (some 75) _ = _
           simp only [Act.put, List.setIfInBounds_toArray, List.set_cons_zero, List.set_cons_succ, i64_w, i32_w]
           rfl
          refine one_ (i := 10) (N := some 77) #[true, true, true, true, true, true, true, true, true, true, true, false, false, false, false, false, false, false, false, false, false, false, false, false, false, false, false, false, false, false, false, false, false, false, false, false, false, false, false, false, false] rfl rfl (one_of HT_.out (by kernel_rfl)) (by decide) (fun K hK => ?_)
          refine goes_ Try.func12 (by kernel_rfl) rfl #[.agg #[.slice A0_0 l0_0.length c0_0, .slice A0_1 l0_1.length c0_1]] (by rfl) rfl rfl zm ?_
          with_reducible refine (handshakerlaw20_ref.calls (fun k_ => k_ < w.heap.size) _ _ l0_0 (fun k_ => k_ < w.heap.size) _ _ l0_1 t333 t336 _ ?side1 ?side2 A14.out).mono ?_
          (case side1 => exact Kd.V_mk HC0_0.out (Kd.F_below (Kd.C_F (Kd.heap_int .i64) HR0_0.out) (zc6 HB GE264 GE274 GE297 GE307 GE316 GE326)))
          (case side2 => exact Kd.V_mk HC0_1.out (Kd.F_below (Kd.C_F (Kd.heap_int .i64) HR0_1.out) (zc6 HB GE264 GE274 GE297 GE307 GE316 GE326)))
          rintro e w80 ⟨v334, v337, rfl, ho0, ho1, hb⟩
          refine ⟨_, rfl, ?_⟩
          have n0_ := Aside0.mk (Kd.V_below (zV HO269) hb)
          have n1_ := Aside0.mk (Kd.V_below (zV HO272) hb)
          have n2_ := Aside0.mk (Kd.V_below (zV HO291) hb)
          have n3_ := Aside0.mk (Kd.V_below (zV HO294) hb)
          have n4_ := Aside0.mk (Kd.V_below (zV HO300) hb)
          have n5_ := Aside0.mk (Kd.V_below (zV HO303) hb)
          have n6_ := Aside0.mk (Kd.V_below (zV HO306) hb)
          have n7_ := Aside0.mk (Kd.V_below (zV HO310) hb)
          have n8_ := Aside0.mk (Kd.V_below (zV HO313) hb)
          have n9_ := Aside0.mk (Kd.V_below (zV HO319) hb)
          have n10_ := Aside0.mk (Kd.V_below (zV HO322) hb)
          have n11_ := Aside0.mk (Kd.V_below (zV HO325) hb)
          have n12_ := Aside0.mk (Kd.V_below (zV HO329) hb)
          have n13_ := Aside0.mk (Kd.V_below (zV HO332) hb)
          have n14_ := Aside0.mk (Kd.V_lower (Kd.V_mono (ok' := fun k_ => k_ ≠ gb264 ∧ k_ ≠ gb274 ∧ k_ ≠ gb297 ∧ k_ ≠ gb307 ∧ k_ ≠ gb316 ∧ k_ ≠ gb326) ho0 (fun k_ hk_ => ⟨Or.elim hk_ (fun hs_ => Or.elim hs_ (fun hs_ => fun e_ => Nat.not_le.2 hs_ (by rw [e_]; exact GW264.out)) (fun hs_ => fun e_ => Nat.not_le.2 hs_ (by rw [e_]; exact GW264.out))) (fun hn_ => (Kd.freshB (g := gb264) (o := .cells #[.slice A0_0 l0_0.length c0_0, .slice A0_1 l0_1.length c0_1] 24 (0, 0)) (zb BK264) k_ hn_)), Or.elim hk_ (fun hs_ => Or.elim hs_ (fun hs_ => fun e_ => Nat.not_le.2 hs_ (by rw [e_]; exact GW274.out)) (fun hs_ => fun e_ => Nat.not_le.2 hs_ (by rw [e_]; exact GW274.out))) (fun hn_ => (Kd.freshB (g := gb274) (o := .cells #[.slice Ao31 t267.length co31, .slice Ao34 t270.length co34] 24 (0, 0)) (zb BK274) k_ hn_)), Or.elim hk_ (fun hs_ => Or.elim hs_ (fun hs_ => fun e_ => Nat.not_le.2 hs_ (by rw [e_]; exact GW297.out)) (fun hs_ => fun e_ => Nat.not_le.2 hs_ (by rw [e_]; exact GW297.out))) (fun hn_ => (Kd.freshB (g := gb297) (o := .cells #[.slice Ao39 t289.length co39, .slice Ao43 t292.length co43] 24 (0, 0)) (zb BK297) k_ hn_)), Or.elim hk_ (fun hs_ => Or.elim hs_ (fun hs_ => fun e_ => Nat.not_le.2 hs_ (by rw [e_]; exact GW307.out)) (fun hs_ => fun e_ => Nat.not_le.2 hs_ (by rw [e_]; exact GW307.out))) (fun hn_ => (Kd.freshB (g := gb307) (o := .cells #[.slice Ao48 t298.length co48, .slice Ao53 t301.length co53] 24 (0, 0)) (zb BK307) k_ hn_)), Or.elim hk_ (fun hs_ => Or.elim hs_ (fun hs_ => fun e_ => Nat.not_le.2 hs_ (by rw [e_]; exact GW316.out)) (fun hs_ => fun e_ => Nat.not_le.2 hs_ (by rw [e_]; exact GW316.out))) (fun hn_ => (Kd.freshB (g := gb316) (o := .cells #[.slice Ao58 t308.length co58, .slice Ao64 t311.length co64] 24 (0, 0)) (zb BK316) k_ hn_)), Or.elim hk_ (fun hs_ => Or.elim hs_ (fun hs_ => fun e_ => Nat.not_le.2 hs_ (by rw [e_]; exact GW326.out)) (fun hs_ => fun e_ => Nat.not_le.2 hs_ (by rw [e_]; exact GW326.out))) (fun hn_ => (Kd.freshB (g := gb326) (o := .cells #[.slice Ao69 t317.length co69, .slice Ao76 t320.length co76] 24 (0, 0)) (zb BK326) k_ hn_))⟩)) (below_size (zc6 HB GE264 GE274 GE297 GE307 GE316 GE326)))
          have n15_ := Aside0.mk (Kd.V_lower (Kd.V_mono (ok' := fun k_ => k_ ≠ gb264 ∧ k_ ≠ gb274 ∧ k_ ≠ gb297 ∧ k_ ≠ gb307 ∧ k_ ≠ gb316 ∧ k_ ≠ gb326) ho1 (fun k_ hk_ => ⟨Or.elim hk_ (fun hs_ => Or.elim hs_ (fun hs_ => fun e_ => Nat.not_le.2 hs_ (by rw [e_]; exact GW264.out)) (fun hs_ => fun e_ => Nat.not_le.2 hs_ (by rw [e_]; exact GW264.out))) (fun hn_ => (Kd.freshB (g := gb264) (o := .cells #[.slice A0_0 l0_0.length c0_0, .slice A0_1 l0_1.length c0_1] 24 (0, 0)) (zb BK264) k_ hn_)), Or.elim hk_ (fun hs_ => Or.elim hs_ (fun hs_ => fun e_ => Nat.not_le.2 hs_ (by rw [e_]; exact GW274.out)) (fun hs_ => fun e_ => Nat.not_le.2 hs_ (by rw [e_]; exact GW274.out))) (fun hn_ => (Kd.freshB (g := gb274) (o := .cells #[.slice Ao31 t267.length co31, .slice Ao34 t270.length co34] 24 (0, 0)) (zb BK274) k_ hn_)), Or.elim hk_ (fun hs_ => Or.elim hs_ (fun hs_ => fun e_ => Nat.not_le.2 hs_ (by rw [e_]; exact GW297.out)) (fun hs_ => fun e_ => Nat.not_le.2 hs_ (by rw [e_]; exact GW297.out))) (fun hn_ => (Kd.freshB (g := gb297) (o := .cells #[.slice Ao39 t289.length co39, .slice Ao43 t292.length co43] 24 (0, 0)) (zb BK297) k_ hn_)), Or.elim hk_ (fun hs_ => Or.elim hs_ (fun hs_ => fun e_ => Nat.not_le.2 hs_ (by rw [e_]; exact GW307.out)) (fun hs_ => fun e_ => Nat.not_le.2 hs_ (by rw [e_]; exact GW307.out))) (fun hn_ => (Kd.freshB (g := gb307) (o := .cells #[.slice Ao48 t298.length co48, .slice Ao53 t301.length co53] 24 (0, 0)) (zb BK307) k_ hn_)), Or.elim hk_ (fun hs_ => Or.elim hs_ (fun hs_ => fun e_ => Nat.not_le.2 hs_ (by rw [e_]; exact GW316.out)) (fun hs_ => fun e_ => Nat.not_le.2 hs_ (by rw [e_]; exact GW316.out))) (fun hn_ => (Kd.freshB (g := gb316) (o := .cells #[.slice Ao58 t308.length co58, .slice Ao64 t311.length co64] 24 (0, 0)) (zb BK316) k_ hn_)), Or.elim hk_ (fun hs_ => Or.elim hs_ (fun hs_ => fun e_ => Nat.not_le.2 hs_ (by rw [e_]; exact GW326.out)) (fun hs_ => fun e_ => Nat.not_le.2 hs_ (by rw [e_]; exact GW326.out))) (fun hn_ => (Kd.freshB (g := gb326) (o := .cells #[.slice Ao69 t317.length co69, .slice Ao76 t320.length co76] 24 (0, 0)) (zb BK326) k_ hn_))⟩)) (below_size (zc6 HB GE264 GE274 GE297 GE307 GE316 GE326)))
          have n16_ := Aside0.mk (blk_below (g := gb264) (o := .cells #[.slice A0_0 l0_0.length c0_0, .slice A0_1 l0_1.length c0_1] 24 (0, 0)) (zb BK264) hb)
          have n17_ := Aside0.mk (blk_below (g := gb274) (o := .cells #[.slice Ao31 t267.length co31, .slice Ao34 t270.length co34] 24 (0, 0)) (zb BK274) hb)
          have n18_ := Aside0.mk (blk_below (g := gb297) (o := .cells #[.slice Ao39 t289.length co39, .slice Ao43 t292.length co43] 24 (0, 0)) (zb BK297) hb)
          have n19_ := Aside0.mk (blk_below (g := gb307) (o := .cells #[.slice Ao48 t298.length co48, .slice Ao53 t301.length co53] 24 (0, 0)) (zb BK307) hb)
          have n20_ := Aside0.mk (blk_below (g := gb316) (o := .cells #[.slice Ao58 t308.length co58, .slice Ao64 t311.length co64] 24 (0, 0)) (zb BK316) hb)
          have n21_ := Aside0.mk (blk_below (g := gb326) (o := .cells #[.slice Ao69 t317.length co69, .slice Ao76 t320.length co76] 24 (0, 0)) (zb BK326) hb)
          have n22_ := Aside0.mk (below_step (zc6 HB GE264 GE274 GE297 GE307 GE316 GE326) hb)
          clear HO269
          clear HO272
          clear HO291
          clear HO294
          clear HO300
          clear HO303
          clear HO306
          clear HO310
          clear HO313
          clear HO319
          clear HO322
          clear HO325
          clear HO329
          clear HO332
          clear BK264
          clear BK274
          clear BK297
          clear BK307
          clear BK316
          clear BK326
          clear HB
          have HO269 := n0_
          have HO272 := n1_
          have HO291 := n2_
          have HO294 := n3_
          have HO300 := n4_
          have HO303 := n5_
          have HO306 := n6_
          have HO310 := n7_
          have HO313 := n8_
          have HO319 := n9_
          have HO322 := n10_
          have HO325 := n11_
          have HO329 := n12_
          have HO332 := n13_
          have HO335 := n14_
          have HO338 := n15_
          have BK264 := n16_
          have BK274 := n17_
          have BK297 := n18_
          have BK307 := n19_
          have BK316 := n20_
          have BK326 := n21_
          have HB := n22_
          clear n0_ n1_ n2_ n3_ n4_ n5_ n6_ n7_ n8_ n9_ n10_ n11_ n12_ n13_ n14_ n15_ n16_ n17_ n18_ n19_ n20_ n21_ n22_
          (try clear hb)
          (try clear hb2)
          (try clear hk)
          (try clear hi)
          (try clear ho0)
          (try clear ho1)
          obtain ⟨Ao81, co81, eo81⟩ := Kd.V_slice HO329.out
          (first | subst eo81 | (injection eo81 with f1_ f2_ f3_; have f4_ := f1_.symm; have f5_ := f3_.symm; clear f1_ f2_ f3_; subst f4_; subst f5_))
          obtain ⟨Ao82, co82, eo82⟩ := Kd.V_slice HO332.out
          (first | subst eo82 | (injection eo82 with f1_ f2_ f3_; have f4_ := f1_.symm; have f5_ := f3_.symm; clear f1_ f2_ f3_; subst f4_; subst f5_))
          obtain ⟨Ao83, co83, eo83⟩ := Kd.V_slice HO335.out
          (first | subst eo83 | (injection eo83 with f1_ f2_ f3_; have f4_ := f1_.symm; have f5_ := f3_.symm; clear f1_ f2_ f3_; subst f4_; subst f5_))
          obtain ⟨Ao84, co84, eo84⟩ := Kd.V_slice HO338.out
          (first | subst eo84 | (injection eo84 with f1_ f2_ f3_; have f4_ := f1_.symm; have f5_ := f3_.symm; clear f1_ f2_ f3_; subst f4_; subst f5_))
          refine hK.out _ _ ⟨(blk_cell BK297.out 0).trans rfl, (blk_cell BK297.out 1).trans rfl, (blk_cell BK264.out 0).trans rfl, (blk_cell BK264.out 1).trans rfl, (blk_cell BK316.out 0).trans rfl, (blk_cell BK316.out 1).trans rfl, (blk_cell BK326.out 0).trans rfl, (blk_cell BK326.out 1).trans rfl⟩ (fun hHeld => ?_)
          clear hK K
          refine norm_ (a' := ?_) ?_ ?_
          rotate_left
          ·show Act.put _ (some 77) _ = _
           simp only [Act.put, List.setIfInBounds_toArray, List.set_cons_zero, List.set_cons_succ, i64_w, i32_w]
           rfl
          refine one_ (i := 11) (N := some 78) #[true, true, true, true, true, true, true, true, true, true, true, true, false, false, false, false, false, false, false, false, false, false, false, false, false, false, false, false, false, false, false, false, false, false, false, false, false, false, false, false, false] rfl rfl (one_of HT_.out (by kernel_rfl)) (by decide) (fun K hK => ?_)
          refine goes_ Try.func21 (by kernel_rfl) rfl #[.agg #[.slice Ao81 t327.length co81, .slice Ao82 t330.length co82], .agg #[.slice Ao83 t333.length co83, .slice Ao84 t336.length co84]] (by rfl) rfl rfl zm ?_
          with_reducible refine (handshakerref20_Same.calls k _ _ t327 _ _ t330 _ _ t333 _ _ t336 true _ ?side1 ?side2 ?side3 ?side4 ?side5 ?side6 ?side7 ?side8 A15.out).mono ?_
          (case side1 => repeat (first | exact (Kd.V_reads' HO329.out).2.2 | (with_reducible refine Kd.C_alloc ?_ _) | (with_reducible refine Kd.C_drewN ?_ _) | (with_reducible refine Kd.C_drew ?_)))
          (case side2 => exact (Kd.V_reads' HO329.out).2.1)
          (case side3 => repeat (first | exact (Kd.V_reads' HO332.out).2.2 | (with_reducible refine Kd.C_alloc ?_ _) | (with_reducible refine Kd.C_drewN ?_ _) | (with_reducible refine Kd.C_drew ?_)))
          (case side4 => exact (Kd.V_reads' HO332.out).2.1)
          (case side5 => repeat (first | exact (Kd.V_reads' HO335.out).2.2 | (with_reducible refine Kd.C_alloc ?_ _) | (with_reducible refine Kd.C_drewN ?_ _) | (with_reducible refine Kd.C_drew ?_)))
          (case side6 => exact (Kd.V_reads' HO335.out).2.1)
          (case side7 => repeat (first | exact (Kd.V_reads' HO338.out).2.2 | (with_reducible refine Kd.C_alloc ?_ _) | (with_reducible refine Kd.C_drewN ?_ _) | (with_reducible refine Kd.C_drew ?_)))
          (case side8 => exact (Kd.V_reads' HO338.out).2.1)
          rintro e w85 ⟨rfl, hb⟩
          refine ⟨_, rfl, ?_⟩
          have n0_ := Aside0.mk (Kd.V_below (zV HO269) hb)
          have n1_ := Aside0.mk (Kd.V_below (zV HO272) hb)
          have n2_ := Aside0.mk (Kd.V_below (zV HO291) hb)
          have n3_ := Aside0.mk (Kd.V_below (zV HO294) hb)
          have n4_ := Aside0.mk (Kd.V_below (zV HO300) hb)
          have n5_ := Aside0.mk (Kd.V_below (zV HO303) hb)
          have n6_ := Aside0.mk (Kd.V_below (zV HO306) hb)
          have n7_ := Aside0.mk (Kd.V_below (zV HO310) hb)
          have n8_ := Aside0.mk (Kd.V_below (zV HO313) hb)
          have n9_ := Aside0.mk (Kd.V_below (zV HO319) hb)
          have n10_ := Aside0.mk (Kd.V_below (zV HO322) hb)
          have n11_ := Aside0.mk (Kd.V_below (zV HO325) hb)
          have n12_ := Aside0.mk (Kd.V_below (zV HO329) hb)
          have n13_ := Aside0.mk (Kd.V_below (zV HO332) hb)
          have n14_ := Aside0.mk (Kd.V_below (zV HO335) hb)
          have n15_ := Aside0.mk (Kd.V_below (zV HO338) hb)
          have n16_ := Aside0.mk (blk_below (g := gb264) (o := .cells #[.slice A0_0 l0_0.length c0_0, .slice A0_1 l0_1.length c0_1] 24 (0, 0)) (zb BK264) hb)
          have n17_ := Aside0.mk (blk_below (g := gb274) (o := .cells #[.slice Ao31 t267.length co31, .slice Ao34 t270.length co34] 24 (0, 0)) (zb BK274) hb)
          have n18_ := Aside0.mk (blk_below (g := gb297) (o := .cells #[.slice Ao39 t289.length co39, .slice Ao43 t292.length co43] 24 (0, 0)) (zb BK297) hb)
          have n19_ := Aside0.mk (blk_below (g := gb307) (o := .cells #[.slice Ao48 t298.length co48, .slice Ao53 t301.length co53] 24 (0, 0)) (zb BK307) hb)
          have n20_ := Aside0.mk (blk_below (g := gb316) (o := .cells #[.slice Ao58 t308.length co58, .slice Ao64 t311.length co64] 24 (0, 0)) (zb BK316) hb)
          have n21_ := Aside0.mk (blk_below (g := gb326) (o := .cells #[.slice Ao69 t317.length co69, .slice Ao76 t320.length co76] 24 (0, 0)) (zb BK326) hb)
          have n22_ := Aside0.mk (below_step (zc6 HB GE264 GE274 GE297 GE307 GE316 GE326) hb)
          clear HO269
          clear HO272
          clear HO291
          clear HO294
          clear HO300
          clear HO303
          clear HO306
          clear HO310
          clear HO313
          clear HO319
          clear HO322
          clear HO325
          clear HO329
          clear HO332
          clear HO335
          clear HO338
          clear BK264
          clear BK274
          clear BK297
          clear BK307
          clear BK316
          clear BK326
          clear HB
          have HO269 := n0_
          have HO272 := n1_
          have HO291 := n2_
          have HO294 := n3_
          have HO300 := n4_
          have HO303 := n5_
          have HO306 := n6_
          have HO310 := n7_
          have HO313 := n8_
          have HO319 := n9_
          have HO322 := n10_
          have HO325 := n11_
          have HO329 := n12_
          have HO332 := n13_
          have HO335 := n14_
          have HO338 := n15_
          have BK264 := n16_
          have BK274 := n17_
          have BK297 := n18_
          have BK307 := n19_
          have BK316 := n20_
          have BK326 := n21_
          have HB := n22_
          clear n0_ n1_ n2_ n3_ n4_ n5_ n6_ n7_ n8_ n9_ n10_ n11_ n12_ n13_ n14_ n15_ n16_ n17_ n18_ n19_ n20_ n21_ n22_
          (try clear hb)
          (try clear hb2)
          (try clear hk)
          (try clear hi)
          obtain ⟨Ao86, co86, eo86⟩ := Kd.V_slice HO306.out
          (first | subst eo86 | (injection eo86 with f1_ f2_ f3_; have f4_ := f1_.symm; have f5_ := f3_.symm; clear f1_ f2_ f3_; subst f4_; subst f5_))
          refine hK.out _ _ ⟨(blk_cell BK297.out 0).trans rfl, (blk_cell BK297.out 1).trans rfl, (blk_cell BK264.out 0).trans rfl, (blk_cell BK264.out 1).trans rfl, (blk_cell BK316.out 0).trans rfl, (blk_cell BK316.out 1).trans rfl, (blk_cell BK326.out 0).trans rfl, (blk_cell BK326.out 1).trans rfl⟩ (fun hHeld => ?_)
          clear hK K
          refine norm_ (a' := ?_) ?_ ?_
          rotate_left
          ·show Act.put _ (some 78) _ = _
           simp only [Act.put, List.setIfInBounds_toArray, List.set_cons_zero, List.set_cons_succ, i64_w, i32_w]
           rfl
          refine pure_ (i := 12) (N := some 79) (v := ?_) (a' := ?_) #[true, true, true, true, true, true, true, true, true, true, true, true, true, false, false, false, false, false, false, false, false, false, false, false, false, false, false, false, false, false, false, false, false, false, false, false, false, false, false, false, false] rfl rfl (any_of HT_.out (by kernel_rfl)) (fun _ _ _ h => h) (Or.inl ⟨by rfl, ?_⟩) ?_ ?_
          rotate_left
          ·intro w'
           go_simp
           with_reducible rfl
          rotate_left
          ·simp only [Act.put, List.setIfInBounds_toArray, List.set_cons_zero, List.set_cons_succ, i64_w, i32_w]
           rfl
          refine pure_ (i := 13) (N := some 80) (v := ?_) (a' := ?_) #[true, true, true, true, true, true, true, true, true, true, true, true, true, true, false, false, false, false, false, false, false, false, false, false, false, false, false, false, false, false, false, false, false, false, false, false, false, false, false, false, false] rfl rfl (any_of HT_.out (by kernel_rfl)) (fun _ _ _ h => h) (Or.inl ⟨by rfl, ?_⟩) ?_ ?_
          rotate_left
          ·intro w'
           go_simp
           with_reducible rfl
          rotate_left
          ·simp only [Act.put, List.setIfInBounds_toArray, List.set_cons_zero, List.set_cons_succ, i64_w, i32_w]
           rfl
          refine pure_ (i := 14) (N := some 81) (v := ?_) (a' := ?_) #[true, true, true, true, true, true, true, true, true, true, true, true, true, true, true, false, false, false, false, false, false, false, false, false, false, false, false, false, false, false, false, false, false, false, false, false, false, false, false, false, false] rfl rfl (any_of HT_.out (by kernel_rfl)) (fun _ _ _ h => h) (Or.inl ⟨by rfl, ?_⟩) ?_ ?_
          rotate_left
          ·intro w'
           go_simp
           with_reducible rfl
          rotate_left
          ·simp only [Act.put, List.setIfInBounds_toArray, List.set_cons_zero, List.set_cons_succ, i64_w, i32_w]
           rfl
          refine pure_ (i := 15) (N := some 82) (v := ?_) (a' := ?_) #[true, true, true, true, true, true, true, true, true, true, true, true, true, true, true, true, false, false, false, false, false, false, false, false, false, false, false, false, false, false, false, false, false, false, false, false, false, false, false, false, false] rfl rfl (any_of HT_.out (by kernel_rfl)) (fun _ _ _ h => h) (Or.inl ⟨by rfl, ?_⟩) ?_ ?_
          rotate_left
          ·intro w'
           go_simp
           with_reducible rfl
          rotate_left
          ·simp only [Act.put, List.setIfInBounds_toArray, List.set_cons_zero, List.set_cons_succ, i64_w, i32_w]
           rfl
          refine pure_ (i := 16) (N := some 83) (v := ?_) (a' := ?_) #[true, true, true, true, true, true, true, true, true, true, true, true, true, true, true, true, true, false, false, false, false, false, false, false, false, false, false, false, false, false, false, false, false, false, false, false, false, false, false, false, false] rfl rfl (any_of HT_.out (by kernel_rfl)) (fun _ _ _ h => h) (Or.inl ⟨by rfl, ?_⟩) ?_ ?_
          rotate_left
          ·intro w'
           go_simp
           with_reducible rfl
          rotate_left
          ·simp only [Act.put, List.setIfInBounds_toArray, List.set_cons_zero, List.set_cons_succ, i64_w, i32_w]
           rfl
          refine take_ (i := 17) (N := some 84) (v := ?_) (a' := ?_) #[true, true, true, true, true, true, true, true, true, true, true, true, true, true, true, true, true, true, false, false, false, false, false, false, false, false, false, false, false, false, false, false, false, false, false, false, false, false, false, false, false] rfl rfl (take_ofW HT_.out HW_.out (by kernel_rfl)) (fun _ _ _ h => h) (Or.inl ⟨by rfl, ?_⟩) hHeld ?_ ?_
          rotate_left
          ·rintro w' ⟨s0, s1, s2, s3, s4, s5, s6, s7⟩
           go_simp
           with_reducible rfl
          rotate_left
          ·simp only [Act.put, List.setIfInBounds_toArray, List.set_cons_zero, List.set_cons_succ, i64_w, i32_w]
           rfl
          refine pure_ (i := 18) (N := some 85) (v := ?_) (a' := ?_) #[true, true, true, true, true, true, true, true, true, true, true, true, true, true, true, true, true, true, true, false, false, false, false, false, false, false, false, false, false, false, false, false, false, false, false, false, false, false, false, false, false] rfl rfl (any_of HT_.out (by kernel_rfl)) (fun _ _ _ h => h) (Or.inl ⟨by rfl, ?_⟩) ?_ ?_
          rotate_left
          ·intro w'
           go_simp
           with_reducible rfl
          rotate_left
          ·simp only [Act.put, List.setIfInBounds_toArray, List.set_cons_zero, List.set_cons_succ, i64_w, i32_w]
           rfl
          refine pure_ (i := 19) (N := some 86) (v := ?_) (a' := ?_) #[true, true, true, true, true, true, true, true, true, true, true, true, true, true, true, true, true, true, true, true, false, false, false, false, false, false, false, false, false, false, false, false, false, false, false, false, false, false, false, false, false] rfl rfl (any_of HT_.out (by kernel_rfl)) (fun _ _ _ h => h) (Or.inl ⟨by rfl, ?_⟩) ?_ ?_
          rotate_left
          ·intro w'
           go_simp
           with_reducible rfl
          rotate_left
          ·simp only [Act.put, List.setIfInBounds_toArray, List.set_cons_zero, List.set_cons_succ, i64_w, i32_w]
           rfl
          refine pure_ (i := 20) (N := some 87) (v := ?_) (a' := ?_) #[true, true, true, true, true, true, true, true, true, true, true, true, true, true, true, true, true, true, true, true, true, false, false, false, false, false, false, false, false, false, false, false, false, false, false, false, false, false, false, false, false] rfl rfl (any_of HT_.out (by kernel_rfl)) (fun _ _ _ h => h) (Or.inl ⟨by rfl, ?_⟩) ?_ ?_
          rotate_left
          ·intro w'
           go_simp
           with_reducible rfl
          rotate_left
          ·simp only [Act.put, List.setIfInBounds_toArray, List.set_cons_zero, List.set_cons_succ, i64_w, i32_w]
           rfl
          refine pure_ (i := 21) (N := some 88) (v := ?_) (a' := ?_) #[true, true, true, true, true, true, true, true, true, true, true, true, true, true, true, true, true, true, true, true, true, true, false, false, false, false, false, false, false, false, false, false, false, false, false, false, false, false, false, false, false] rfl rfl (any_of HT_.out (by kernel_rfl)) (fun _ _ _ h => h) (Or.inl ⟨by rfl, ?_⟩) ?_ ?_
          rotate_left
          ·intro w'
           go_simp
           with_reducible rfl
          rotate_left
          ·simp only [Act.put, List.setIfInBounds_toArray, List.set_cons_zero, List.set_cons_succ, i64_w, i32_w]
           rfl
          refine pure_ (i := 22) (N := some 89) (v := ?_) (a' := ?_) #[true, true, true, true, true, true, true, true, true, true, true, true, true, true, true, true, true, true, true, true, true, true, true, false, false, false, false, false, false, false, false, false, false, false, false, false, false, false, false, false, false] rfl rfl (any_of HT_.out (by kernel_rfl)) (fun _ _ _ h => h) (Or.inl ⟨by rfl, ?_⟩) ?_ ?_
          rotate_left
          ·intro w'
           go_simp
           with_reducible rfl
          rotate_left
          ·simp only [Act.put, List.setIfInBounds_toArray, List.set_cons_zero, List.set_cons_succ, i64_w, i32_w]
           rfl
          refine pure_ (i := 23) (N := some 90) (v := ?_) (a' := ?_) #[true, true, true, true, true, true, true, true, true, true, true, true, true, true, true, true, true, true, true, true, true, true, true, true, false, false, false, false, false, false, false, false, false, false, false, false, false, false, false, false, false] rfl rfl (any_of HT_.out (by kernel_rfl)) (fun _ _ _ h => h) (Or.inl ⟨by rfl, ?_⟩) ?_ ?_
          rotate_left
          ·intro w'
           go_simp
           with_reducible rfl
          rotate_left
          ·simp only [Act.put, List.setIfInBounds_toArray, List.set_cons_zero, List.set_cons_succ, i64_w, i32_w]
           rfl
          refine pure_ (i := 24) (N := some 91) (v := ?_) (a' := ?_) #[true, true, true, true, true, true, true, true, true, true, true, true, true, true, true, true, true, true, true, true, true, true, true, true, true, false, false, false, false, false, false, false, false, false, false, false, false, false, false, false, false] rfl rfl (any_of HT_.out (by kernel_rfl)) (fun _ _ _ h => h) (Or.inl ⟨by rfl, ?_⟩) ?_ ?_
          rotate_left
          ·intro w'
           go_simp
           with_reducible rfl
          rotate_left
          ·simp only [Act.put, List.setIfInBounds_toArray, List.set_cons_zero, List.set_cons_succ, i64_w, i32_w]
           rfl
          refine pure_ (i := 25) (N := some 92) (v := ?_) (a' := ?_) #[true, true, true, true, true, true, true, true, true, true, true, true, true, true, true, true, true, true, true, true, true, true, true, true, true, true, false, false, false, false, false, false, false, false, false, false, false, false, false, false, false] rfl rfl (any_of HT_.out (by kernel_rfl)) (fun _ _ _ h => h) (Or.inl ⟨by rfl, ?_⟩) ?_ ?_
          rotate_left
          ·intro w'
           go_simp
           with_reducible rfl
          rotate_left
          ·simp only [Act.put, List.setIfInBounds_toArray, List.set_cons_zero, List.set_cons_succ, i64_w, i32_w]
           rfl
          refine pure_ (i := 26) (N := some 93) (v := ?_) (a' := ?_) #[true, true, true, true, true, true, true, true, true, true, true, true, true, true, true, true, true, true, true, true, true, true, true, true, true, true, true, false, false, false, false, false, false, false, false, false, false, false, false, false, false] rfl rfl (any_of HT_.out (by kernel_rfl)) (fun _ _ _ h => h) (Or.inl ⟨by rfl, ?_⟩) ?_ ?_
          rotate_left
          ·intro w'
           go_simp
           with_reducible rfl
          rotate_left
          ·simp only [Act.put, List.setIfInBounds_toArray, List.set_cons_zero, List.set_cons_succ, i64_w, i32_w]
           rfl
          refine pure_ (i := 27) (N := some 94) (v := ?_) (a' := ?_) #[true, true, true, true, true, true, true, true, true, true, true, true, true, true, true, true, true, true, true, true, true, true, true, true, true, true, true, true, false, false, false, false, false, false, false, false, false, false, false, false, false] rfl rfl (any_of HT_.out (by kernel_rfl)) (fun _ _ _ h => h) (Or.inl ⟨by rfl, ?_⟩) ?_ ?_
          rotate_left
          ·intro w'
           go_simp
           with_reducible rfl
          rotate_left
          ·simp only [Act.put, List.setIfInBounds_toArray, List.set_cons_zero, List.set_cons_succ, i64_w, i32_w]
           rfl
          refine pure_ (i := 28) (N := some 95) (v := ?_) (a' := ?_) #[true, true, true, true, true, true, true, true, true, true, true, true, true, true, true, true, true, true, true, true, true, true, true, true, true, true, true, true, true, false, false, false, false, false, false, false, false, false, false, false, false] rfl rfl (any_of HT_.out (by kernel_rfl)) (fun _ _ _ h => h) (Or.inl ⟨by rfl, ?_⟩) ?_ ?_
          rotate_left
          ·intro w'
           go_simp
           with_reducible rfl
          rotate_left
          ·simp only [Act.put, List.setIfInBounds_toArray, List.set_cons_zero, List.set_cons_succ, i64_w, i32_w]
           rfl
          refine pure_ (i := 29) (N := some 96) (v := ?_) (a' := ?_) #[true, true, true, true, true, true, true, true, true, true, true, true, true, true, true, true, true, true, true, true, true, true, true, true, true, true, true, true, true, true, false, false, false, false, false, false, false, false, false, false, false] rfl rfl (any_of HT_.out (by kernel_rfl)) (fun _ _ _ h => h) (Or.inl ⟨by rfl, ?_⟩) ?_ ?_
          rotate_left
          ·intro w'
           go_simp
           with_reducible rfl
          rotate_left
          ·simp only [Act.put, List.setIfInBounds_toArray, List.set_cons_zero, List.set_cons_succ, i64_w, i32_w]
           rfl
          refine pure_ (i := 30) (N := some 97) (v := ?_) (a' := ?_) #[true, true, true, true, true, true, true, true, true, true, true, true, true, true, true, true, true, true, true, true, true, true, true, true, true, true, true, true, true, true, true, false, false, false, false, false, false, false, false, false, false] rfl rfl (any_of HT_.out (by kernel_rfl)) (fun _ _ _ h => h) (Or.inl ⟨by rfl, ?_⟩) ?_ ?_
          rotate_left
          ·intro w'
           go_simp
           with_reducible rfl
          rotate_left
          ·simp only [Act.put, List.setIfInBounds_toArray, List.set_cons_zero, List.set_cons_succ, i64_w, i32_w]
           rfl
          refine take_ (i := 31) (N := some 98) (v := ?_) (a' := ?_) #[true, true, true, true, true, true, true, true, true, true, true, true, true, true, true, true, true, true, true, true, true, true, true, true, true, true, true, true, true, true, true, true, false, false, false, false, false, false, false, false, false] rfl rfl (take_ofW HT_.out HW_.out (by kernel_rfl)) (fun _ _ _ h => h) (Or.inl ⟨by rfl, ?_⟩) hHeld ?_ ?_
          rotate_left
          ·rintro w' ⟨s0, s1, s2, s3, s4, s5, s6, s7⟩
           go_simp
           with_reducible rfl
          rotate_left
          ·simp only [Act.put, List.setIfInBounds_toArray, List.set_cons_zero, List.set_cons_succ, i64_w, i32_w]
           rfl
          refine take_ (i := 33) (N := some 100) (v := ?_) (a' := ?_) #[true, true, true, true, true, true, true, true, true, true, true, true, true, true, true, true, true, true, true, true, true, true, true, true, true, true, true, true, true, true, true, true, false, true, false, false, false, false, false, false, false] rfl rfl (take_ofW HT_.out HW_.out (by kernel_rfl)) (fun _ _ _ h => h) (Or.inl ⟨by rfl, ?_⟩) hHeld ?_ ?_
          rotate_left
          ·rintro w' ⟨s0, s1, s2, s3, s4, s5, s6, s7⟩
           go_simp
           with_reducible rfl
          rotate_left
          ·simp only [Act.put, List.setIfInBounds_toArray, List.set_cons_zero, List.set_cons_succ, i64_w, i32_w]
           rfl
          refine one_ (i := 32) (N := some 99) #[true, true, true, true, true, true, true, true, true, true, true, true, true, true, true, true, true, true, true, true, true, true, true, true, true, true, true, true, true, true, true, true, true, true, false, false, false, false, false, false, false] rfl rfl (one_of HT_.out (by kernel_rfl)) (by decide) (fun K hK => ?_)
          refine goes_ Try.func12 (by kernel_rfl) rfl #[.agg #[.slice Ao58 t308.length co58, .slice Ao64 t311.length co64]] (by rfl) rfl rfl zm ?_
          with_reducible refine (handshakerlaw20_ref.calls (fun k_ => (k_ ≠ gb264 ∧ (k_ ≠ gb274 ∧ (k_ ≠ gb297 ∧ (k_ ≠ gb307 ∧ (k_ ≠ gb316 ∧ k_ ≠ gb326)))))) _ _ t308 (fun k_ => (k_ ≠ gb264 ∧ (k_ ≠ gb274 ∧ (k_ ≠ gb297 ∧ (k_ ≠ gb307 ∧ (k_ ≠ gb316 ∧ k_ ≠ gb326)))))) _ _ t311 t340 t343 _ ?side1 ?side2 A20.out).mono ?_
          (case side1 => exact HO310.out)
          (case side2 => exact HO313.out)
          rintro e w87 ⟨v341, v344, rfl, ho0, ho1, hb⟩
          refine ⟨_, rfl, ?_⟩
          have n0_ := Aside0.mk (Kd.V_below (zV HO269) hb)
          have n1_ := Aside0.mk (Kd.V_below (zV HO272) hb)
          have n2_ := Aside0.mk (Kd.V_below (zV HO291) hb)
          have n3_ := Aside0.mk (Kd.V_below (zV HO294) hb)
          have n4_ := Aside0.mk (Kd.V_below (zV HO300) hb)
          have n5_ := Aside0.mk (Kd.V_below (zV HO303) hb)
          have n6_ := Aside0.mk (Kd.V_below (zV HO306) hb)
          have n7_ := Aside0.mk (Kd.V_below (zV HO310) hb)
          have n8_ := Aside0.mk (Kd.V_below (zV HO313) hb)
          have n9_ := Aside0.mk (Kd.V_below (zV HO319) hb)
          have n10_ := Aside0.mk (Kd.V_below (zV HO322) hb)
          have n11_ := Aside0.mk (Kd.V_below (zV HO325) hb)
          have n12_ := Aside0.mk (Kd.V_below (zV HO329) hb)
          have n13_ := Aside0.mk (Kd.V_below (zV HO332) hb)
          have n14_ := Aside0.mk (Kd.V_below (zV HO335) hb)
          have n15_ := Aside0.mk (Kd.V_below (zV HO338) hb)
          have n16_ := Aside0.mk (Kd.V_lower (Kd.V_mono (ok' := fun k_ => k_ ≠ gb264 ∧ k_ ≠ gb274 ∧ k_ ≠ gb297 ∧ k_ ≠ gb307 ∧ k_ ≠ gb316 ∧ k_ ≠ gb326) ho0 (fun k_ hk_ => ⟨Or.elim hk_ (fun hs_ => Or.elim hs_ (fun hs_ => hs_.1) (fun hs_ => hs_.1)) (fun hn_ => (Kd.freshB (g := gb264) (o := .cells #[.slice A0_0 l0_0.length c0_0, .slice A0_1 l0_1.length c0_1] 24 (0, 0)) (zb BK264) k_ hn_)), Or.elim hk_ (fun hs_ => Or.elim hs_ (fun hs_ => hs_.2.1) (fun hs_ => hs_.2.1)) (fun hn_ => (Kd.freshB (g := gb274) (o := .cells #[.slice Ao31 t267.length co31, .slice Ao34 t270.length co34] 24 (0, 0)) (zb BK274) k_ hn_)), Or.elim hk_ (fun hs_ => Or.elim hs_ (fun hs_ => hs_.2.2.1) (fun hs_ => hs_.2.2.1)) (fun hn_ => (Kd.freshB (g := gb297) (o := .cells #[.slice Ao39 t289.length co39, .slice Ao43 t292.length co43] 24 (0, 0)) (zb BK297) k_ hn_)), Or.elim hk_ (fun hs_ => Or.elim hs_ (fun hs_ => hs_.2.2.2.1) (fun hs_ => hs_.2.2.2.1)) (fun hn_ => (Kd.freshB (g := gb307) (o := .cells #[.slice Ao48 t298.length co48, .slice Ao53 t301.length co53] 24 (0, 0)) (zb BK307) k_ hn_)), Or.elim hk_ (fun hs_ => Or.elim hs_ (fun hs_ => hs_.2.2.2.2.1) (fun hs_ => hs_.2.2.2.2.1)) (fun hn_ => (Kd.freshB (g := gb316) (o := .cells #[.slice Ao58 t308.length co58, .slice Ao64 t311.length co64] 24 (0, 0)) (zb BK316) k_ hn_)), Or.elim hk_ (fun hs_ => Or.elim hs_ (fun hs_ => hs_.2.2.2.2.2) (fun hs_ => hs_.2.2.2.2.2)) (fun hn_ => (Kd.freshB (g := gb326) (o := .cells #[.slice Ao69 t317.length co69, .slice Ao76 t320.length co76] 24 (0, 0)) (zb BK326) k_ hn_))⟩)) (below_size (zc6 HB GE264 GE274 GE297 GE307 GE316 GE326)))
          have n17_ := Aside0.mk (Kd.V_lower (Kd.V_mono (ok' := fun k_ => k_ ≠ gb264 ∧ k_ ≠ gb274 ∧ k_ ≠ gb297 ∧ k_ ≠ gb307 ∧ k_ ≠ gb316 ∧ k_ ≠ gb326) ho1 (fun k_ hk_ => ⟨Or.elim hk_ (fun hs_ => Or.elim hs_ (fun hs_ => hs_.1) (fun hs_ => hs_.1)) (fun hn_ => (Kd.freshB (g := gb264) (o := .cells #[.slice A0_0 l0_0.length c0_0, .slice A0_1 l0_1.length c0_1] 24 (0, 0)) (zb BK264) k_ hn_)), Or.elim hk_ (fun hs_ => Or.elim hs_ (fun hs_ => hs_.2.1) (fun hs_ => hs_.2.1)) (fun hn_ => (Kd.freshB (g := gb274) (o := .cells #[.slice Ao31 t267.length co31, .slice Ao34 t270.length co34] 24 (0, 0)) (zb BK274) k_ hn_)), Or.elim hk_ (fun hs_ => Or.elim hs_ (fun hs_ => hs_.2.2.1) (fun hs_ => hs_.2.2.1)) (fun hn_ => (Kd.freshB (g := gb297) (o := .cells #[.slice Ao39 t289.length co39, .slice Ao43 t292.length co43] 24 (0, 0)) (zb BK297) k_ hn_)), Or.elim hk_ (fun hs_ => Or.elim hs_ (fun hs_ => hs_.2.2.2.1) (fun hs_ => hs_.2.2.2.1)) (fun hn_ => (Kd.freshB (g := gb307) (o := .cells #[.slice Ao48 t298.length co48, .slice Ao53 t301.length co53] 24 (0, 0)) (zb BK307) k_ hn_)), Or.elim hk_ (fun hs_ => Or.elim hs_ (fun hs_ => hs_.2.2.2.2.1) (fun hs_ => hs_.2.2.2.2.1)) (fun hn_ => (Kd.freshB (g := gb316) (o := .cells #[.slice Ao58 t308.length co58, .slice Ao64 t311.length co64] 24 (0, 0)) (zb BK316) k_ hn_)), Or.elim hk_ (fun hs_ => Or.elim hs_ (fun hs_ => hs_.2.2.2.2.2) (fun hs_ => hs_.2.2.2.2.2)) (fun hn_ => (Kd.freshB (g := gb326) (o := .cells #[.slice Ao69 t317.length co69, .slice Ao76 t320.length co76] 24 (0, 0)) (zb BK326) k_ hn_))⟩)) (below_size (zc6 HB GE264 GE274 GE297 GE307 GE316 GE326)))
          have n18_ := Aside0.mk (blk_below (g := gb264) (o := .cells #[.slice A0_0 l0_0.length c0_0, .slice A0_1 l0_1.length c0_1] 24 (0, 0)) (zb BK264) hb)
          have n19_ := Aside0.mk (blk_below (g := gb274) (o := .cells #[.slice Ao31 t267.length co31, .slice Ao34 t270.length co34] 24 (0, 0)) (zb BK274) hb)
          have n20_ := Aside0.mk (blk_below (g := gb297) (o := .cells #[.slice Ao39 t289.length co39, .slice Ao43 t292.length co43] 24 (0, 0)) (zb BK297) hb)
          have n21_ := Aside0.mk (blk_below (g := gb307) (o := .cells #[.slice Ao48 t298.length co48, .slice Ao53 t301.length co53] 24 (0, 0)) (zb BK307) hb)
          have n22_ := Aside0.mk (blk_below (g := gb316) (o := .cells #[.slice Ao58 t308.length co58, .slice Ao64 t311.length co64] 24 (0, 0)) (zb BK316) hb)
          have n23_ := Aside0.mk (blk_below (g := gb326) (o := .cells #[.slice Ao69 t317.length co69, .slice Ao76 t320.length co76] 24 (0, 0)) (zb BK326) hb)
          have n24_ := Aside0.mk (below_step (zc6 HB GE264 GE274 GE297 GE307 GE316 GE326) hb)
          clear HO269
          clear HO272
          clear HO291
          clear HO294
          clear HO300
          clear HO303
          clear HO306
          clear HO310
          clear HO313
          clear HO319
          clear HO322
          clear HO325
          clear HO329
          clear HO332
          clear HO335
          clear HO338
          clear BK264
          clear BK274
          clear BK297
          clear BK307
          clear BK316
          clear BK326
          clear HB
          have HO269 := n0_
          have HO272 := n1_
          have HO291 := n2_
          have HO294 := n3_
          have HO300 := n4_
          have HO303 := n5_
          have HO306 := n6_
          have HO310 := n7_
          have HO313 := n8_
          have HO319 := n9_
          have HO322 := n10_
          have HO325 := n11_
          have HO329 := n12_
          have HO332 := n13_
          have HO335 := n14_
          have HO338 := n15_
          have HO342 := n16_
          have HO345 := n17_
          have BK264 := n18_
          have BK274 := n19_
          have BK297 := n20_
          have BK307 := n21_
          have BK316 := n22_
          have BK326 := n23_
          have HB := n24_
          clear n0_ n1_ n2_ n3_ n4_ n5_ n6_ n7_ n8_ n9_ n10_ n11_ n12_ n13_ n14_ n15_ n16_ n17_ n18_ n19_ n20_ n21_ n22_ n23_ n24_
          (try clear hb)
          (try clear hb2)
          (try clear hk)
          (try clear hi)
          (try clear ho0)
          (try clear ho1)
          refine hK.out _ _ ⟨(blk_cell BK297.out 0).trans rfl, (blk_cell BK297.out 1).trans rfl, (blk_cell BK264.out 0).trans rfl, (blk_cell BK264.out 1).trans rfl, (blk_cell BK316.out 0).trans rfl, (blk_cell BK316.out 1).trans rfl, (blk_cell BK326.out 0).trans rfl, (blk_cell BK326.out 1).trans rfl⟩ (fun hHeld => ?_)
          clear hK K
          refine norm_ (a' := ?_) ?_ ?_
          rotate_left
          ·show Act.put _ (some 99) _ = _
           simp only [Act.put, List.setIfInBounds_toArray, List.set_cons_zero, List.set_cons_succ, i64_w, i32_w]
           rfl
          refine one_ (i := 34) (N := some 101) #[true, true, true, true, true, true, true, true, true, true, true, true, true, true, true, true, true, true, true, true, true, true, true, true, true, true, true, true, true, true, true, true, true, true, true, false, false, false, false, false, false] rfl rfl (one_of HT_.out (by kernel_rfl)) (by decide) (fun K hK => ?_)
          refine goes_ Try.func12 (by kernel_rfl) rfl #[.agg #[.slice Ao69 t317.length co69, .slice Ao76 t320.length co76]] (by rfl) rfl rfl zm ?_
          with_reducible refine (handshakerlaw20_ref.calls (fun k_ => (k_ ≠ gb264 ∧ (k_ ≠ gb274 ∧ (k_ ≠ gb297 ∧ (k_ ≠ gb307 ∧ (k_ ≠ gb316 ∧ k_ ≠ gb326)))))) _ _ t317 (fun k_ => (k_ ≠ gb264 ∧ (k_ ≠ gb274 ∧ (k_ ≠ gb297 ∧ (k_ ≠ gb307 ∧ (k_ ≠ gb316 ∧ k_ ≠ gb326)))))) _ _ t320 t346 t349 _ ?side1 ?side2 A21.out).mono ?_
          (case side1 => exact HO319.out)
          (case side2 => exact HO322.out)
          rintro e w88 ⟨v347, v350, rfl, ho0, ho1, hb⟩
          refine ⟨_, rfl, ?_⟩
          have n0_ := Aside0.mk (Kd.V_below (zV HO269) hb)
          have n1_ := Aside0.mk (Kd.V_below (zV HO272) hb)
          have n2_ := Aside0.mk (Kd.V_below (zV HO291) hb)
          have n3_ := Aside0.mk (Kd.V_below (zV HO294) hb)
          have n4_ := Aside0.mk (Kd.V_below (zV HO300) hb)
          have n5_ := Aside0.mk (Kd.V_below (zV HO303) hb)
          have n6_ := Aside0.mk (Kd.V_below (zV HO306) hb)
          have n7_ := Aside0.mk (Kd.V_below (zV HO310) hb)
          have n8_ := Aside0.mk (Kd.V_below (zV HO313) hb)
          have n9_ := Aside0.mk (Kd.V_below (zV HO319) hb)
          have n10_ := Aside0.mk (Kd.V_below (zV HO322) hb)
          have n11_ := Aside0.mk (Kd.V_below (zV HO325) hb)
          have n12_ := Aside0.mk (Kd.V_below (zV HO329) hb)
          have n13_ := Aside0.mk (Kd.V_below (zV HO332) hb)
          have n14_ := Aside0.mk (Kd.V_below (zV HO335) hb)
          have n15_ := Aside0.mk (Kd.V_below (zV HO338) hb)
          have n16_ := Aside0.mk (Kd.V_below (zV HO342) hb)
          have n17_ := Aside0.mk (Kd.V_below (zV HO345) hb)
          have n18_ := Aside0.mk (Kd.V_lower (Kd.V_mono (ok' := fun k_ => k_ ≠ gb264 ∧ k_ ≠ gb274 ∧ k_ ≠ gb297 ∧ k_ ≠ gb307 ∧ k_ ≠ gb316 ∧ k_ ≠ gb326) ho0 (fun k_ hk_ => ⟨Or.elim hk_ (fun hs_ => Or.elim hs_ (fun hs_ => hs_.1) (fun hs_ => hs_.1)) (fun hn_ => (Kd.freshB (g := gb264) (o := .cells #[.slice A0_0 l0_0.length c0_0, .slice A0_1 l0_1.length c0_1] 24 (0, 0)) (zb BK264) k_ hn_)), Or.elim hk_ (fun hs_ => Or.elim hs_ (fun hs_ => hs_.2.1) (fun hs_ => hs_.2.1)) (fun hn_ => (Kd.freshB (g := gb274) (o := .cells #[.slice Ao31 t267.length co31, .slice Ao34 t270.length co34] 24 (0, 0)) (zb BK274) k_ hn_)), Or.elim hk_ (fun hs_ => Or.elim hs_ (fun hs_ => hs_.2.2.1) (fun hs_ => hs_.2.2.1)) (fun hn_ => (Kd.freshB (g := gb297) (o := .cells #[.slice Ao39 t289.length co39, .slice Ao43 t292.length co43] 24 (0, 0)) (zb BK297) k_ hn_)), Or.elim hk_ (fun hs_ => Or.elim hs_ (fun hs_ => hs_.2.2.2.1) (fun hs_ => hs_.2.2.2.1)) (fun hn_ => (Kd.freshB (g := gb307) (o := .cells #[.slice Ao48 t298.length co48, .slice Ao53 t301.length co53] 24 (0, 0)) (zb BK307) k_ hn_)), Or.elim hk_ (fun hs_ => Or.elim hs_ (fun hs_ => hs_.2.2.2.2.1) (fun hs_ => hs_.2.2.2.2.1)) (fun hn_ => (Kd.freshB (g := gb316) (o := .cells #[.slice Ao58 t308.length co58, .slice Ao64 t311.length co64] 24 (0, 0)) (zb BK316) k_ hn_)), Or.elim hk_ (fun hs_ => Or.elim hs_ (fun hs_ => hs_.2.2.2.2.2) (fun hs_ => hs_.2.2.2.2.2)) (fun hn_ => (Kd.freshB (g := gb326) (o := .cells #[.slice Ao69 t317.length co69, .slice Ao76 t320.length co76] 24 (0, 0)) (zb BK326) k_ hn_))⟩)) (below_size (zc6 HB GE264 GE274 GE297 GE307 GE316 GE326)))
          have n19_ := Aside0.mk (Kd.V_lower (Kd.V_mono (ok' := fun k_ => k_ ≠ gb264 ∧ k_ ≠ gb274 ∧ k_ ≠ gb297 ∧ k_ ≠ gb307 ∧ k_ ≠ gb316 ∧ k_ ≠ gb326) ho1 (fun k_ hk_ => ⟨Or.elim hk_ (fun hs_ => Or.elim hs_ (fun hs_ => hs_.1) (fun hs_ => hs_.1)) (fun hn_ => (Kd.freshB (g := gb264) (o := .cells #[.slice A0_0 l0_0.length c0_0, .slice A0_1 l0_1.length c0_1] 24 (0, 0)) (zb BK264) k_ hn_)), Or.elim hk_ (fun hs_ => Or.elim hs_ (fun hs_ => hs_.2.1) (fun hs_ => hs_.2.1)) (fun hn_ => (Kd.freshB (g := gb274) (o := .cells #[.slice Ao31 t267.length co31, .slice Ao34 t270.length co34] 24 (0, 0)) (zb BK274) k_ hn_)), Or.elim hk_ (fun hs_ => Or.elim hs_ (fun hs_ => hs_.2.2.1) (fun hs_ => hs_.2.2.1)) (fun hn_ => (Kd.freshB (g := gb297) (o := .cells #[.slice Ao39 t289.length co39, .slice Ao43 t292.length co43] 24 (0, 0)) (zb BK297) k_ hn_)), Or.elim hk_ (fun hs_ => Or.elim hs_ (fun hs_ => hs_.2.2.2.1) (fun hs_ => hs_.2.2.2.1)) (fun hn_ => (Kd.freshB (g := gb307) (o := .cells #[.slice Ao48 t298.length co48, .slice Ao53 t301.length co53] 24 (0, 0)) (zb BK307) k_ hn_)), Or.elim hk_ (fun hs_ => Or.elim hs_ (fun hs_ => hs_.2.2.2.2.1) (fun hs_ => hs_.2.2.2.2.1)) (fun hn_ => (Kd.freshB (g := gb316) (o := .cells #[.slice Ao58 t308.length co58, .slice Ao64 t311.length co64] 24 (0, 0)) (zb BK316) k_ hn_)), Or.elim hk_ (fun hs_ => Or.elim hs_ (fun hs_ => hs_.2.2.2.2.2) (fun hs_ => hs_.2.2.2.2.2)) (fun hn_ => (Kd.freshB (g := gb326) (o := .cells #[.slice Ao69 t317.length co69, .slice Ao76 t320.length co76] 24 (0, 0)) (zb BK326) k_ hn_))⟩)) (below_size (zc6 HB GE264 GE274 GE297 GE307 GE316 GE326)))
          have n20_ := Aside0.mk (blk_below (g := gb264) (o := .cells #[.slice A0_0 l0_0.length c0_0, .slice A0_1 l0_1.length c0_1] 24 (0, 0)) (zb BK264) hb)
          have n21_ := Aside0.mk (blk_below (g := gb274) (o := .cells #[.slice Ao31 t267.length co31, .slice Ao34 t270.length co34] 24 (0, 0)) (zb BK274) hb)
          have n22_ := Aside0.mk (blk_below (g := gb297) (o := .cells #[.slice Ao39 t289.length co39, .slice Ao43 t292.length co43] 24 (0, 0)) (zb BK297) hb)
          have n23_ := Aside0.mk (blk_below (g := gb307) (o := .cells #[.slice Ao48 t298.length co48, .slice Ao53 t301.length co53] 24 (0, 0)) (zb BK307) hb)
          have n24_ := Aside0.mk (blk_below (g := gb316) (o := .cells #[.slice Ao58 t308.length co58, .slice Ao64 t311.length co64] 24 (0, 0)) (zb BK316) hb)
          have n25_ := Aside0.mk (blk_below (g := gb326) (o := .cells #[.slice Ao69 t317.length co69, .slice Ao76 t320.length co76] 24 (0, 0)) (zb BK326) hb)
          have n26_ := Aside0.mk (below_step (zc6 HB GE264 GE274 GE297 GE307 GE316 GE326) hb)
          clear HO269
          clear HO272
          clear HO291
          clear HO294
          clear HO300
          clear HO303
          clear HO306
          clear HO310
          clear HO313
          clear HO319
          clear HO322
          clear HO325
          clear HO329
          clear HO332
          clear HO335
          clear HO338
          clear HO342
          clear HO345
          clear BK264
          clear BK274
          clear BK297
          clear BK307
          clear BK316
          clear BK326
          clear HB
          have HO269 := n0_
          have HO272 := n1_
          have HO291 := n2_
          have HO294 := n3_
          have HO300 := n4_
          have HO303 := n5_
          have HO306 := n6_
          have HO310 := n7_
          have HO313 := n8_
          have HO319 := n9_
          have HO322 := n10_
          have HO325 := n11_
          have HO329 := n12_
          have HO332 := n13_
          have HO335 := n14_
          have HO338 := n15_
          have HO342 := n16_
          have HO345 := n17_
          have HO348 := n18_
          have HO351 := n19_
          have BK264 := n20_
          have BK274 := n21_
          have BK297 := n22_
          have BK307 := n23_
          have BK316 := n24_
          have BK326 := n25_
          have HB := n26_
          clear n0_ n1_ n2_ n3_ n4_ n5_ n6_ n7_ n8_ n9_ n10_ n11_ n12_ n13_ n14_ n15_ n16_ n17_ n18_ n19_ n20_ n21_ n22_ n23_ n24_ n25_ n26_
          (try clear hb)
          (try clear hb2)
          (try clear hk)
          (try clear hi)
          (try clear ho0)
          (try clear ho1)
          obtain ⟨Ao89, co89, eo89⟩ := Kd.V_slice HO342.out
          (first | subst eo89 | (injection eo89 with f1_ f2_ f3_; have f4_ := f1_.symm; have f5_ := f3_.symm; clear f1_ f2_ f3_; subst f4_; subst f5_))
          obtain ⟨Ao90, co90, eo90⟩ := Kd.V_slice HO345.out
          (first | subst eo90 | (injection eo90 with f1_ f2_ f3_; have f4_ := f1_.symm; have f5_ := f3_.symm; clear f1_ f2_ f3_; subst f4_; subst f5_))
          obtain ⟨Ao91, co91, eo91⟩ := Kd.V_slice HO348.out
          (first | subst eo91 | (injection eo91 with f1_ f2_ f3_; have f4_ := f1_.symm; have f5_ := f3_.symm; clear f1_ f2_ f3_; subst f4_; subst f5_))
          obtain ⟨Ao92, co92, eo92⟩ := Kd.V_slice HO351.out
          (first | subst eo92 | (injection eo92 with f1_ f2_ f3_; have f4_ := f1_.symm; have f5_ := f3_.symm; clear f1_ f2_ f3_; subst f4_; subst f5_))
          refine hK.out _ _ ⟨(blk_cell BK297.out 0).trans rfl, (blk_cell BK297.out 1).trans rfl, (blk_cell BK264.out 0).trans rfl, (blk_cell BK264.out 1).trans rfl, (blk_cell BK316.out 0).trans rfl, (blk_cell BK316.out 1).trans rfl, (blk_cell BK326.out 0).trans rfl, (blk_cell BK326.out 1).trans rfl⟩ (fun hHeld => ?_)
          clear hK K
          refine norm_ (a' := ?_) ?_ ?_
          rotate_left
          ·show Act.put _ (some 101) _ = _
           simp only [Act.put, List.setIfInBounds_toArray, List.set_cons_zero, List.set_cons_succ, i64_w, i32_w]
           rfl
          refine one_ (i := 35) (N := some 102) #[true, true, true, true, true, true, true, true, true, true, true, true, true, true, true, true, true, true, true, true, true, true, true, true, true, true, true, true, true, true, true, true, true, true, true, true, false, false, false, false, false] rfl rfl (one_of HT_.out (by kernel_rfl)) (by decide) (fun K hK => ?_)
          refine goes_ Try.func21 (by kernel_rfl) rfl #[.agg #[.slice Ao89 t340.length co89, .slice Ao90 t343.length co90], .agg #[.slice Ao91 t346.length co91, .slice Ao92 t349.length co92]] (by rfl) rfl rfl zm ?_
          with_reducible refine (handshakerref20_Same.calls k _ _ t340 _ _ t343 _ _ t346 _ _ t349 true _ ?side1 ?side2 ?side3 ?side4 ?side5 ?side6 ?side7 ?side8 A22.out).mono ?_
          (case side1 => repeat (first | exact (Kd.V_reads' HO342.out).2.2 | (with_reducible refine Kd.C_alloc ?_ _) | (with_reducible refine Kd.C_drewN ?_ _) | (with_reducible refine Kd.C_drew ?_)))
          (case side2 => exact (Kd.V_reads' HO342.out).2.1)
          (case side3 => repeat (first | exact (Kd.V_reads' HO345.out).2.2 | (with_reducible refine Kd.C_alloc ?_ _) | (with_reducible refine Kd.C_drewN ?_ _) | (with_reducible refine Kd.C_drew ?_)))
          (case side4 => exact (Kd.V_reads' HO345.out).2.1)
          (case side5 => repeat (first | exact (Kd.V_reads' HO348.out).2.2 | (with_reducible refine Kd.C_alloc ?_ _) | (with_reducible refine Kd.C_drewN ?_ _) | (with_reducible refine Kd.C_drew ?_)))
          (case side6 => exact (Kd.V_reads' HO348.out).2.1)
          (case side7 => repeat (first | exact (Kd.V_reads' HO351.out).2.2 | (with_reducible refine Kd.C_alloc ?_ _) | (with_reducible refine Kd.C_drewN ?_ _) | (with_reducible refine Kd.C_drew ?_)))
          (case side8 => exact (Kd.V_reads' HO351.out).2.1)
          rintro e w93 ⟨rfl, hb⟩
          refine ⟨_, rfl, ?_⟩
          have n0_ := Aside0.mk (Kd.V_below (zV HO269) hb)
          have n1_ := Aside0.mk (Kd.V_below (zV HO272) hb)
          have n2_ := Aside0.mk (Kd.V_below (zV HO291) hb)
          have n3_ := Aside0.mk (Kd.V_below (zV HO294) hb)
          have n4_ := Aside0.mk (Kd.V_below (zV HO300) hb)
          have n5_ := Aside0.mk (Kd.V_below (zV HO303) hb)
          have n6_ := Aside0.mk (Kd.V_below (zV HO306) hb)
          have n7_ := Aside0.mk (Kd.V_below (zV HO310) hb)
          have n8_ := Aside0.mk (Kd.V_below (zV HO313) hb)
          have n9_ := Aside0.mk (Kd.V_below (zV HO319) hb)
          have n10_ := Aside0.mk (Kd.V_below (zV HO322) hb)
          have n11_ := Aside0.mk (Kd.V_below (zV HO325) hb)
          have n12_ := Aside0.mk (Kd.V_below (zV HO329) hb)
          have n13_ := Aside0.mk (Kd.V_below (zV HO332) hb)
          have n14_ := Aside0.mk (Kd.V_below (zV HO335) hb)
          have n15_ := Aside0.mk (Kd.V_below (zV HO338) hb)
          have n16_ := Aside0.mk (Kd.V_below (zV HO342) hb)
          have n17_ := Aside0.mk (Kd.V_below (zV HO345) hb)
          have n18_ := Aside0.mk (Kd.V_below (zV HO348) hb)
          have n19_ := Aside0.mk (Kd.V_below (zV HO351) hb)
          have n20_ := Aside0.mk (blk_below (g := gb264) (o := .cells #[.slice A0_0 l0_0.length c0_0, .slice A0_1 l0_1.length c0_1] 24 (0, 0)) (zb BK264) hb)
          have n21_ := Aside0.mk (blk_below (g := gb274) (o := .cells #[.slice Ao31 t267.length co31, .slice Ao34 t270.length co34] 24 (0, 0)) (zb BK274) hb)
          have n22_ := Aside0.mk (blk_below (g := gb297) (o := .cells #[.slice Ao39 t289.length co39, .slice Ao43 t292.length co43] 24 (0, 0)) (zb BK297) hb)
          have n23_ := Aside0.mk (blk_below (g := gb307) (o := .cells #[.slice Ao48 t298.length co48, .slice Ao53 t301.length co53] 24 (0, 0)) (zb BK307) hb)
          have n24_ := Aside0.mk (blk_below (g := gb316) (o := .cells #[.slice Ao58 t308.length co58, .slice Ao64 t311.length co64] 24 (0, 0)) (zb BK316) hb)
          have n25_ := Aside0.mk (blk_below (g := gb326) (o := .cells #[.slice Ao69 t317.length co69, .slice Ao76 t320.length co76] 24 (0, 0)) (zb BK326) hb)
          have n26_ := Aside0.mk (below_step (zc6 HB GE264 GE274 GE297 GE307 GE316 GE326) hb)
          clear HO269
          clear HO272
          clear HO291
          clear HO294
          clear HO300
          clear HO303
          clear HO306
          clear HO310
          clear HO313
          clear HO319
          clear HO322
          clear HO325
          clear HO329
          clear HO332
          clear HO335
          clear HO338
          clear HO342
          clear HO345
          clear HO348
          clear HO351
          clear BK264
          clear BK274
          clear BK297
          clear BK307
          clear BK316
          clear BK326
          clear HB
          have HO269 := n0_
          have HO272 := n1_
          have HO291 := n2_
          have HO294 := n3_
          have HO300 := n4_
          have HO303 := n5_
          have HO306 := n6_
          have HO310 := n7_
          have HO313 := n8_
          have HO319 := n9_
          have HO322 := n10_
          have HO325 := n11_
          have HO329 := n12_
          have HO332 := n13_
          have HO335 := n14_
          have HO338 := n15_
          have HO342 := n16_
          have HO345 := n17_
          have HO348 := n18_
          have HO351 := n19_
          have BK264 := n20_
          have BK274 := n21_
          have BK297 := n22_
          have BK307 := n23_
          have BK316 := n24_
          have BK326 := n25_
          have HB := n26_
          clear n0_ n1_ n2_ n3_ n4_ n5_ n6_ n7_ n8_ n9_ n10_ n11_ n12_ n13_ n14_ n15_ n16_ n17_ n18_ n19_ n20_ n21_ n22_ n23_ n24_ n25_ n26_
          (try clear hb)
          (try clear hb2)
          (try clear hk)
          (try clear hi)
          refine hK.out _ _ ⟨(blk_cell BK297.out 0).trans rfl, (blk_cell BK297.out 1).trans rfl, (blk_cell BK264.out 0).trans rfl, (blk_cell BK264.out 1).trans rfl, (blk_cell BK316.out 0).trans rfl, (blk_cell BK316.out 1).trans rfl, (blk_cell BK326.out 0).trans rfl, (blk_cell BK326.out 1).trans rfl⟩ (fun hHeld => ?_)
          clear hK K
          refine norm_ (a' := ?_) ?_ ?_
          rotate_left
          ·show Act.put _ (some 102) _ = _
           simp only [Act.put, List.setIfInBounds_toArray, List.set_cons_zero, List.set_cons_succ, i64_w, i32_w]
           rfl
          refine pure_ (i := 36) (N := some 103) (v := ?_) (a' := ?_) #[true, true, true, true, true, true, true, true, true, true, true, true, true, true, true, true, true, true, true, true, true, true, true, true, true, true, true, true, true, true, true, true, true, true, true, true, true, false, false, false, false] rfl rfl (any_of HT_.out (by kernel_rfl)) (fun _ _ _ h => h) (Or.inl ⟨by rfl, ?_⟩) ?_ ?_
          rotate_left
          ·intro w'
           go_simp
           with_reducible rfl
          rotate_left
          ·simp only [Act.put, List.setIfInBounds_toArray, List.set_cons_zero, List.set_cons_succ, i64_w, i32_w]
           rfl
          refine pure_ (i := 37) (N := some 104) (v := ?_) (a' := ?_) #[true, true, true, true, true, true, true, true, true, true, true, true, true, true, true, true, true, true, true, true, true, true, true, true, true, true, true, true, true, true, true, true, true, true, true, true, true, true, false, false, false] rfl rfl (any_of HT_.out (by kernel_rfl)) (fun _ _ _ h => h) (Or.inl ⟨by rfl, ?_⟩) ?_ ?_
          rotate_left
          ·intro w'
           go_simp
           with_reducible rfl
          rotate_left
          ·simp only [Act.put, List.setIfInBounds_toArray, List.set_cons_zero, List.set_cons_succ, i64_w, i32_w]
           rfl
          refine one_ (i := 38) (N := some 105) #[true, true, true, true, true, true, true, true, true, true, true, true, true, true, true, true, true, true, true, true, true, true, true, true, true, true, true, true, true, true, true, true, true, true, true, true, true, true, true, false, false] rfl rfl (one_of HT_.out (by kernel_rfl)) (by decide) (fun K hK => ?_)
          refine goes_ Try.func9 (by kernel_rfl) rfl #[] (by rfl) rfl rfl zm ?_
          with_reducible refine (handshakerlaw20_awake.calls k  t353 _ A24.out).mono ?_
          rintro e w94 ⟨rfl, hb⟩
          refine ⟨_, rfl, ?_⟩
          have n0_ := Aside0.mk (Kd.V_below (zV HO269) hb)
          have n1_ := Aside0.mk (Kd.V_below (zV HO272) hb)
          have n2_ := Aside0.mk (Kd.V_below (zV HO291) hb)
          have n3_ := Aside0.mk (Kd.V_below (zV HO294) hb)
          have n4_ := Aside0.mk (Kd.V_below (zV HO300) hb)
          have n5_ := Aside0.mk (Kd.V_below (zV HO303) hb)
          have n6_ := Aside0.mk (Kd.V_below (zV HO306) hb)
          have n7_ := Aside0.mk (Kd.V_below (zV HO310) hb)
          have n8_ := Aside0.mk (Kd.V_below (zV HO313) hb)
          have n9_ := Aside0.mk (Kd.V_below (zV HO319) hb)
          have n10_ := Aside0.mk (Kd.V_below (zV HO322) hb)
          have n11_ := Aside0.mk (Kd.V_below (zV HO325) hb)
          have n12_ := Aside0.mk (Kd.V_below (zV HO329) hb)
          have n13_ := Aside0.mk (Kd.V_below (zV HO332) hb)
          have n14_ := Aside0.mk (Kd.V_below (zV HO335) hb)
          have n15_ := Aside0.mk (Kd.V_below (zV HO338) hb)
          have n16_ := Aside0.mk (Kd.V_below (zV HO342) hb)
          have n17_ := Aside0.mk (Kd.V_below (zV HO345) hb)
          have n18_ := Aside0.mk (Kd.V_below (zV HO348) hb)
          have n19_ := Aside0.mk (Kd.V_below (zV HO351) hb)
          have n20_ := Aside0.mk (blk_below (g := gb264) (o := .cells #[.slice A0_0 l0_0.length c0_0, .slice A0_1 l0_1.length c0_1] 24 (0, 0)) (zb BK264) hb)
          have n21_ := Aside0.mk (blk_below (g := gb274) (o := .cells #[.slice Ao31 t267.length co31, .slice Ao34 t270.length co34] 24 (0, 0)) (zb BK274) hb)
          have n22_ := Aside0.mk (blk_below (g := gb297) (o := .cells #[.slice Ao39 t289.length co39, .slice Ao43 t292.length co43] 24 (0, 0)) (zb BK297) hb)
          have n23_ := Aside0.mk (blk_below (g := gb307) (o := .cells #[.slice Ao48 t298.length co48, .slice Ao53 t301.length co53] 24 (0, 0)) (zb BK307) hb)
          have n24_ := Aside0.mk (blk_below (g := gb316) (o := .cells #[.slice Ao58 t308.length co58, .slice Ao64 t311.length co64] 24 (0, 0)) (zb BK316) hb)
          have n25_ := Aside0.mk (blk_below (g := gb326) (o := .cells #[.slice Ao69 t317.length co69, .slice Ao76 t320.length co76] 24 (0, 0)) (zb BK326) hb)
          have n26_ := Aside0.mk (below_step (zc6 HB GE264 GE274 GE297 GE307 GE316 GE326) hb)
          clear HO269
          clear HO272
          clear HO291
          clear HO294
          clear HO300
          clear HO303
          clear HO306
          clear HO310
          clear HO313
          clear HO319
          clear HO322
          clear HO325
          clear HO329
          clear HO332
          clear HO335
          clear HO338
          clear HO342
          clear HO345
          clear HO348
          clear HO351
          clear BK264
          clear BK274
          clear BK297
          clear BK307
          clear BK316
          clear BK326
          clear HB
          have HO269 := n0_
          have HO272 := n1_
          have HO291 := n2_
          have HO294 := n3_
          have HO300 := n4_
          have HO303 := n5_
          have HO306 := n6_
          have HO310 := n7_
          have HO313 := n8_
          have HO319 := n9_
          have HO322 := n10_
          have HO325 := n11_
          have HO329 := n12_
          have HO332 := n13_
          have HO335 := n14_
          have HO338 := n15_
          have HO342 := n16_
          have HO345 := n17_
          have HO348 := n18_
          have HO351 := n19_
          have BK264 := n20_
          have BK274 := n21_
          have BK297 := n22_
          have BK307 := n23_
          have BK316 := n24_
          have BK326 := n25_
          have HB := n26_
          clear n0_ n1_ n2_ n3_ n4_ n5_ n6_ n7_ n8_ n9_ n10_ n11_ n12_ n13_ n14_ n15_ n16_ n17_ n18_ n19_ n20_ n21_ n22_ n23_ n24_ n25_ n26_
          (try clear hb)
          (try clear hb2)
          (try clear hk)
          (try clear hi)
          refine hK.out _ _ ⟨(blk_cell BK297.out 0).trans rfl, (blk_cell BK297.out 1).trans rfl, (blk_cell BK264.out 0).trans rfl, (blk_cell BK264.out 1).trans rfl, (blk_cell BK316.out 0).trans rfl, (blk_cell BK316.out 1).trans rfl, (blk_cell BK326.out 0).trans rfl, (blk_cell BK326.out 1).trans rfl⟩ (fun hHeld => ?_)
          clear hK K
          refine norm_ (a' := ?_) ?_ ?_
          rotate_left
          ·show Act.put _ (some 105) _ = _
           simp only [Act.put, List.setIfInBounds_toArray, List.set_cons_zero, List.set_cons_succ, i64_w, i32_w]
           rfl
          refine pure_ (i := 39) (N := some 106) (v := ?_) (a' := ?_) #[true, true, true, true, true, true, true, true, true, true, true, true, true, true, true, true, true, true, true, true, true, true, true, true, true, true, true, true, true, true, true, true, true, true, true, true, true, true, true, true, false] rfl rfl (any_of HT_.out (by kernel_rfl)) (fun _ _ _ h => h) (Or.inl ⟨by rfl, ?_⟩) ?_ ?_
          rotate_left
          ·intro w'
           go_simp
           with_reducible rfl
          rotate_left
          ·simp only [Act.put, List.setIfInBounds_toArray, List.set_cons_zero, List.set_cons_succ, i64_w, i32_w]
           rfl
          refine pure_ (i := 40) (N := some 4) (v := ?_) (a' := ?_) #[true, true, true, true, true, true, true, true, true, true, true, true, true, true, true, true, true, true, true, true, true, true, true, true, true, true, true, true, true, true, true, true, true, true, true, true, true, true, true, true, true] rfl rfl (any_of HT_.out (by kernel_rfl)) (fun _ _ _ h => h) (Or.inl ⟨by rfl, ?_⟩) ?_ ?_
          rotate_left
          ·intro w'
           go_simp
           with_reducible rfl
          rotate_left
          ·simp only [Act.put, List.setIfInBounds_toArray, List.set_cons_zero, List.set_cons_succ, i64_w, i32_w]
           rfl
          refine done_ (done_of HT_.out (by kernel_rfl)) ?_
          try go_wp2
          go_ret
          exact ⟨by first | rfl | (simp [errW_none, errW_some] <;> rfl) | (simp [*, errW_none, errW_some] <;> rfl), by repeat (first | (with_reducible first | exact HB.out | apply below_alloc | apply pw_below_drewN | apply below_drew1 | refine below_set ?_ GE264.out | refine below_set ?_ GE274.out | refine below_set ?_ GE297.out | refine below_set ?_ GE307.out | refine below_set ?_ GE316.out | refine below_set ?_ GE326.out) | exact HB.out)⟩
         ·replace c23 := Bool.eq_false_iff.mpr c23
          subst c23
          have H1 : (none) = some r := by rw [if_neg (show ¬ (false = true) by decide)] at H; exact H
          clear H
          have H := H1
          clear H1
          exact absurd H (by simp)
       ·rw [if_neg c18] at H
        exact absurd H (by simp)
      ·rw [if_neg c17] at H
       exact absurd H (by simp)
     ·replace c16 := Bool.eq_false_iff.mpr c16
      subst c16
      have H1 : (none) = some r := by rw [if_neg (show ¬ (false = true) by decide)] at H; exact H
      clear H
      have H := H1
      clear H1
      exact absurd H (by simp)
   ·rw [if_neg c11] at H
    exact absurd H (by simp)
  ·rw [if_neg c6] at H
   have c6b0 : (t273 == 0) = false := beq_eq_false_iff_ne.mpr c6
   have c6b1 : (t273 != 0) = true := bne_iff_ne.mpr c6
   replace H := Option.bind_eq_some_iff.mp H
   obtain ⟨⟨t275, t278⟩, A950, H⟩ := H
   replace H : ((handshakerlaw20_ref.f l0_0 l0_1).bind fun bt281 => ((handshakerref20_Same.f k t275 t278 bt281.1 bt281.2).bind fun t287 => (if t287 = true then ((handshakerlaw20_awake.f k).bind fun t288 => (some t288)) else (none)))) = some r := H
   have A95 := Aside0.mk A950
   clear A950
   replace H := Option.bind_eq_some_iff.mp H
   obtain ⟨⟨t281, t284⟩, A960, H⟩ := H
   replace H : ((handshakerref20_Same.f k t275 t278 t281 t284).bind fun t287 => (if t287 = true then ((handshakerlaw20_awake.f k).bind fun t288 => (some t288)) else (none))) = some r := H
   have A96 := Aside0.mk A960
   clear A960
   replace H := Option.bind_eq_some_iff.mp H
   obtain ⟨t287, A970, H⟩ := H
   replace H : (if t287 = true then ((handshakerlaw20_awake.f k).bind fun t288 => (some t288)) else (none)) = some r := H
   have A97 := Aside0.mk A970
   clear A970
   by_cases c98 : t287 = true
   ·subst c98
    have H1 : ((handshakerlaw20_awake.f k).bind fun t288 => (some t288)) = some r := by rw [if_pos rfl] at H; exact H
    clear H
    have H := H1
    clear H1
    replace H := Option.bind_eq_some_iff.mp H
    obtain ⟨t288, A990, H⟩ := H
    replace H : (some t288) = some r := H
    have A99 := Aside0.mk A990
    clear A990
    obtain rfl := Option.some.inj H
    go_enter Try.func7, Try.ntmps7
    try go_wp2_with (first | ((with_reducible refine gate_dst (N := 2) rfl ?_); (try (refine gate_guard (by rfl) ?_; dsimp only)); refine box_event ?hg (N := 2) ?hd (cs := #[.slice A0_0 l0_0.length c0_0, .slice A0_1 l0_1.length c0_1]) (t := 24) ?hr ?_; (case hd => rfl); (case hg => rfl); (case hr => first | (go_simp; done) | (go_simp; rfl)); intro gb264 hg w100 hbox hb; have n0_ := Aside0.mk (below_step (zc0 HB) hb); have n1_ := Aside0.mk (hbox); have n2_ := Aside0.mk ((by rw [hg]; exact (below_size (zc0 HB)) : w.heap.size ≤ gb264)); have n3_ := Aside0.mk ((by rw [hg]; exact (below_size (zc0 HB)) : w.heap.size ≤ gb264)); clear HB; have HB := n0_; have BK264 := n1_; have GW264 := n2_; have GE264 := n3_; clear n0_ n1_ n2_ n3_; clear hb hbox hg; have hcz101_0 : w100.cell? ⟨gb264, 0, none⟩ = some (.slice A0_0 l0_0.length c0_0) := (blk_cell BK264.out 0).trans rfl; have hcz101_1 : w100.cell? ⟨gb264, 1, none⟩ = some (.slice A0_1 l0_1.length c0_1) := (blk_cell BK264.out 1).trans rfl; have hfz101_0 := blk_frozen BK264.out 0; have hfz101_1 := blk_frozen BK264.out 1) | ((with_reducible refine gate_callee (f := 8) rfl ?_); refine goesL_ (some 18) rfl rfl Try.func8 (by kernel_rfl) rfl #[.agg #[.slice A0_0 l0_0.length c0_0, .slice A0_1 l0_1.length c0_1]] rfl zm ?_; (with_reducible refine (handshakerlaw20_small.calls _ _ l0_0 _ _ l0_1 true _ ?side1 ?side2 ?side3 ?side4 A3.out).mono ?_); (case side1 => repeat (first | exact (Kd.C_below HR0_0.out HB.out) | (with_reducible refine Kd.C_alloc ?_ _) | (with_reducible refine Kd.C_drewN ?_ _) | (with_reducible refine Kd.C_drew ?_))); (case side2 => exact HC0_0.out); (case side3 => repeat (first | exact (Kd.C_below HR0_1.out HB.out) | (with_reducible refine Kd.C_alloc ?_ _) | (with_reducible refine Kd.C_drewN ?_ _) | (with_reducible refine Kd.C_drew ?_))); (case side4 => exact HC0_1.out); rintro e w102 ⟨rfl, hb⟩; refine ⟨_, rfl, ?_⟩; have n0_ := Aside0.mk (blk_below (g := gb264) (o := .cells #[.slice A0_0 l0_0.length c0_0, .slice A0_1 l0_1.length c0_1] 24 (0, 0)) (zb BK264) hb); have n1_ := Aside0.mk (below_step (zc1 HB GE264) hb); clear BK264; clear HB; have BK264 := n0_; have HB := n1_; clear n0_ n1_; (try clear hb); (try clear hb2); (try clear hk); (try clear hi); have hcz103_0 : w102.cell? ⟨gb264, 0, none⟩ = some (.slice A0_0 l0_0.length c0_0) := (blk_cell BK264.out 0).trans rfl; have hcz103_1 : w102.cell? ⟨gb264, 1, none⟩ = some (.slice A0_1 l0_1.length c0_1) := (blk_cell BK264.out 1).trans rfl; have hfz103_0 := blk_frozen BK264.out 0; have hfz103_1 := blk_frozen BK264.out 1) | ((with_reducible refine gate_callee (f := 10) rfl ?_); refine goesL_ (some 24) rfl rfl Try.func10 (by kernel_rfl) rfl #[.agg #[.slice A0_0 l0_0.length c0_0, .slice A0_1 l0_1.length c0_1], .int .i64 a1] rfl zm ?_; (with_reducible refine (cond_Wait.calls k (fun k_ => k_ < w.heap.size) _ _ l0_0 (fun k_ => k_ < w.heap.size) _ _ l0_1 a1 t267 t270 t273 _ ?side1 ?side2 A5.out).mono ?_); (case side1 => exact Kd.V_mk HC0_0.out (Kd.F_below (Kd.C_F (Kd.heap_int .i64) HR0_0.out) (zc1 HB GE264))); (case side2 => exact Kd.V_mk HC0_1.out (Kd.F_below (Kd.C_F (Kd.heap_int .i64) HR0_1.out) (zc1 HB GE264))); rintro e w104 ⟨v268, v271, rfl, ho0, ho1, hb⟩; refine ⟨_, rfl, ?_⟩; have n0_ := Aside0.mk (Kd.V_lower (Kd.V_mono (ok' := fun k_ => k_ ≠ gb264) ho0 (fun k_ hk_ => Or.elim hk_ (fun hs_ => Or.elim hs_ (fun hs_ => fun e_ => Nat.not_le.2 hs_ (by rw [e_]; exact GW264.out)) (fun hs_ => fun e_ => Nat.not_le.2 hs_ (by rw [e_]; exact GW264.out))) (fun hn_ => (Kd.freshB (g := gb264) (o := .cells #[.slice A0_0 l0_0.length c0_0, .slice A0_1 l0_1.length c0_1] 24 (0, 0)) (zb BK264) k_ hn_)))) (below_size (zc1 HB GE264))); have n1_ := Aside0.mk (Kd.V_lower (Kd.V_mono (ok' := fun k_ => k_ ≠ gb264) ho1 (fun k_ hk_ => Or.elim hk_ (fun hs_ => Or.elim hs_ (fun hs_ => fun e_ => Nat.not_le.2 hs_ (by rw [e_]; exact GW264.out)) (fun hs_ => fun e_ => Nat.not_le.2 hs_ (by rw [e_]; exact GW264.out))) (fun hn_ => (Kd.freshB (g := gb264) (o := .cells #[.slice A0_0 l0_0.length c0_0, .slice A0_1 l0_1.length c0_1] 24 (0, 0)) (zb BK264) k_ hn_)))) (below_size (zc1 HB GE264))); have n2_ := Aside0.mk (blk_below (g := gb264) (o := .cells #[.slice A0_0 l0_0.length c0_0, .slice A0_1 l0_1.length c0_1] 24 (0, 0)) (zb BK264) hb); have n3_ := Aside0.mk (below_step (zc1 HB GE264) hb); clear BK264; clear HB; have HO269 := n0_; have HO272 := n1_; have BK264 := n2_; have HB := n3_; clear n0_ n1_ n2_ n3_; (try clear hb); (try clear hb2); (try clear hk); (try clear hi); (try clear ho0); (try clear ho1)) | ((with_reducible refine gate_dst (N := 5) rfl ?_); (try (refine gate_guard (by rfl) ?_; dsimp only)); refine box_event ?hg (N := 5) ?hd (cs := #[.slice none 0 0, .slice none 0 0]) (t := 24) ?hr ?_; (case hd => rfl); (case hg => rfl); (case hr => first | (go_simp; done) | (go_simp; rfl)); intro gb274 hg w105 hbox hb; have n0_ := Aside0.mk (Kd.V_below (Kd.V_elderB (zV HO269) gb274 (Nat.le_of_eq hg.symm)) hb); have n1_ := Aside0.mk (Kd.V_below (Kd.V_elderB (zV HO272) gb274 (Nat.le_of_eq hg.symm)) hb); have n2_ := Aside0.mk (blk_below (g := gb264) (o := .cells #[.slice A0_0 l0_0.length c0_0, .slice A0_1 l0_1.length c0_1] 24 (0, 0)) (zb BK264) hb); have n3_ := Aside0.mk (below_step (zc1 HB GE264) hb); have n4_ := Aside0.mk (hbox); have n5_ := Aside0.mk ((by rw [hg]; exact (below_size (zc1 HB GE264)) : w.heap.size ≤ gb274)); have n6_ := Aside0.mk ((by rw [hg]; exact (below_size (zc1 HB GE264)) : w.heap.size ≤ gb274)); have n7_ := Aside0.mk ((by rw [hg]; exact Nat.ne_of_lt (blk_lt (g := gb264) (o := .cells #[.slice A0_0 l0_0.length c0_0, .slice A0_1 l0_1.length c0_1] 24 (0, 0)) (zb BK264)) : gb264 ≠ gb274)); have n8_ := Aside0.mk ((by rw [hg]; exact Nat.ne_of_gt (blk_lt (g := gb264) (o := .cells #[.slice A0_0 l0_0.length c0_0, .slice A0_1 l0_1.length c0_1] 24 (0, 0)) (zb BK264)) : gb274 ≠ gb264)); clear HO269; clear HO272; clear BK264; clear HB; have HO269 := n0_; have HO272 := n1_; have BK264 := n2_; have HB := n3_; have BK274 := n4_; have GW274 := n5_; have GE274 := n6_; have NB264_274 := n7_; have NB274_264 := n8_; clear n0_ n1_ n2_ n3_ n4_ n5_ n6_ n7_ n8_; clear hb hbox hg; obtain ⟨Ao106, co106, eo106⟩ := Kd.V_slice HO269.out; subst eo106; have hnb107 := NB274_264.out; have hnc107 := NB264_274.out; have hcz108_0 : w105.cell? ⟨gb274, 0, none⟩ = some (.slice none 0 0) := (blk_cell BK274.out 0).trans rfl; have hcz108_1 : w105.cell? ⟨gb274, 1, none⟩ = some (.slice none 0 0) := (blk_cell BK274.out 1).trans rfl; have hfz108_0 := blk_frozen BK274.out 0; have hfz108_1 := blk_frozen BK274.out 1; obtain ⟨Ao109, co109, eo109⟩ := Kd.V_slice HO272.out; subst eo109))
    have n0_ : Aside0 (Kd.V (Kd.int .i64) 3 ((w105.setCell ⟨gb274, 0, none⟩ (.slice Ao106 t267.length co106)).setCell ⟨gb274, 1, none⟩ (.slice Ao109 t270.length co109)) w.heap.size (fun k_ => k_ ≠ gb264 ∧ k_ ≠ gb274) (.slice Ao106 t267.length co106) t267) := ⟨by (with_reducible repeat (first | apply Kd.V_alloc | apply Kd.V_drewN | apply Kd.V_drew)); exact Kd.V_mono (Kd.V_far (p := ⟨gb274, 1, none⟩) (Kd.V_far (p := ⟨gb274, 0, none⟩) (Kd.V_mono HO269.out (fun k_ hk => (⟨hk, hk.2⟩ : _ ∧ k_ ≠ gb274))) (fun _ hk => hk.2) (.slice Ao106 t267.length co106)) (fun _ hk => hk.2) (.slice Ao109 t270.length co109)) (fun _ hk => ⟨hk.1.1, hk.1.2⟩)⟩
    have n1_ : Aside0 (Kd.V (Kd.int .i64) 3 ((w105.setCell ⟨gb274, 0, none⟩ (.slice Ao106 t267.length co106)).setCell ⟨gb274, 1, none⟩ (.slice Ao109 t270.length co109)) w.heap.size (fun k_ => k_ ≠ gb264 ∧ k_ ≠ gb274) (.slice Ao109 t270.length co109) t270) := ⟨by (with_reducible repeat (first | apply Kd.V_alloc | apply Kd.V_drewN | apply Kd.V_drew)); exact Kd.V_mono (Kd.V_far (p := ⟨gb274, 1, none⟩) (Kd.V_far (p := ⟨gb274, 0, none⟩) (Kd.V_mono HO272.out (fun k_ hk => (⟨hk, hk.2⟩ : _ ∧ k_ ≠ gb274))) (fun _ hk => hk.2) (.slice Ao106 t267.length co106)) (fun _ hk => hk.2) (.slice Ao109 t270.length co109)) (fun _ hk => ⟨hk.1.1, hk.1.2⟩)⟩
    have n2_ : Aside0 (((w105.setCell ⟨gb274, 0, none⟩ (.slice Ao106 t267.length co106)).setCell ⟨gb274, 1, none⟩ (.slice Ao109 t270.length co109)).heap[gb264]? = some (.cells #[.slice A0_0 l0_0.length c0_0, .slice A0_1 l0_1.length c0_1] 24 (0, 0))) := ⟨by (with_reducible repeat (first | refine blk_drewN ?_ _ | refine blk_drew ?_ | refine blk_alloc ?_ _)); refine blk_far ?_ NB264_274.out _; (with_reducible repeat (first | refine blk_drewN ?_ _ | refine blk_drew ?_ | refine blk_alloc ?_ _)); refine blk_far ?_ NB264_274.out _; (with_reducible repeat (first | refine blk_drewN ?_ _ | refine blk_drew ?_ | refine blk_alloc ?_ _)); exact BK264.out⟩
    have n3_ : Aside0 (((w105.setCell ⟨gb274, 0, none⟩ (.slice Ao106 t267.length co106)).setCell ⟨gb274, 1, none⟩ (.slice Ao109 t270.length co109)).heap[gb274]? = some (.cells #[.slice Ao106 t267.length co106, .slice Ao109 t270.length co109] 24 (0, 0))) := ⟨by (with_reducible repeat (first | refine blk_drewN ?_ _ | refine blk_drew ?_ | refine blk_alloc ?_ _)); refine blk_put (cs := #[.slice Ao106 t267.length co106, .slice none 0 0]) ?_ 1 _ rfl; (with_reducible repeat (first | refine blk_drewN ?_ _ | refine blk_drew ?_ | refine blk_alloc ?_ _)); refine blk_put (cs := #[.slice none 0 0, .slice none 0 0]) ?_ 0 _ rfl; (with_reducible repeat (first | refine blk_drewN ?_ _ | refine blk_drew ?_ | refine blk_alloc ?_ _)); exact BK274.out⟩
    have n4_ : Aside0 (Below w.heap.size w ((w105.setCell ⟨gb274, 0, none⟩ (.slice Ao106 t267.length co106)).setCell ⟨gb274, 1, none⟩ (.slice Ao109 t270.length co109))) := ⟨by repeat (first | (with_reducible first | exact HB.out | apply below_alloc | apply pw_below_drewN | apply below_drew1 | refine below_set ?_ GE264.out | refine below_set ?_ GE274.out) | exact HB.out)⟩
    (try clear HO269)
    (try clear HO272)
    (try clear BK264)
    (try clear BK274)
    (try clear HB)
    generalize ((w105.setCell ⟨gb274, 0, none⟩ (.slice Ao106 t267.length co106)).setCell ⟨gb274, 1, none⟩ (.slice Ao109 t270.length co109)) = w110 at n0_ n1_ n2_ n3_ n4_ ⊢
    have HO269 := n0_
    have HO272 := n1_
    have BK264 := n2_
    have BK274 := n3_
    have HB := n4_
    clear n0_ n1_ n2_ n3_ n4_
    have n0_ := Aside0.mk (Kd.V_drew HO269.out)
    have n1_ := Aside0.mk (Kd.V_drew HO272.out)
    have n2_ := Aside0.mk (blk_drew BK264.out)
    have n3_ := Aside0.mk (blk_drew BK274.out)
    have n4_ := Aside0.mk (below_drew1 HB.out)
    clear HO269
    clear HO272
    clear BK264
    clear BK274
    clear HB
    have HO269 := n0_
    have HO272 := n1_
    have BK264 := n2_
    have BK274 := n3_
    have HB := n4_
    clear n0_ n1_ n2_ n3_ n4_
    refine start_ (n := 9) (S := fun w' => w'.cell? ⟨gb274, 0, none⟩ = some (.slice Ao106 t267.length co106) ∧ w'.cell? ⟨gb274, 1, none⟩ = some (.slice Ao109 t270.length co109) ∧ w'.cell? ⟨gb264, 0, none⟩ = some (.slice A0_0 l0_0.length c0_0) ∧ w'.cell? ⟨gb264, 1, none⟩ = some (.slice A0_1 l0_1.length c0_1)) (ds := []) #[false, false, false, false, false, false, false, false, false] (by kernel_rfl) rfl rfl ⟨(blk_cell BK274.out 0).trans rfl, (blk_cell BK274.out 1).trans rfl, (blk_cell BK264.out 0).trans rfl, (blk_cell BK264.out 1).trans rfl⟩ (fun hHeld => ?_); refine with_tabW handshakerlaw20_CondLeaves.tab5 handshakerlaw20_CondLeaves.bits5 (fun HT_ HW_ => ?_)
    generalize w110.drew = w111 at HO269 HO272 BK264 BK274 HB hHeld ⊢
    refine take_ (i := 0) (N := some 29) (v := ?_) (a' := ?_) #[true, false, false, false, false, false, false, false, false] rfl rfl (take_ofW HT_.out HW_.out (by kernel_rfl)) (fun _ _ _ h => h) (Or.inl ⟨by rfl, ?_⟩) hHeld ?_ ?_
    rotate_left
    ·rintro w' ⟨s0, s1, s2, s3⟩
     go_simp
     with_reducible rfl
    rotate_left
    ·simp only [Act.put, List.setIfInBounds_toArray, List.set_cons_zero, List.set_cons_succ, i64_w, i32_w]
     rfl
    refine take_ (i := 2) (N := some 31) (v := ?_) (a' := ?_) #[true, false, true, false, false, false, false, false, false] rfl rfl (take_ofW HT_.out HW_.out (by kernel_rfl)) (fun _ _ _ h => h) (Or.inl ⟨by rfl, ?_⟩) hHeld ?_ ?_
    rotate_left
    ·rintro w' ⟨s0, s1, s2, s3⟩
     go_simp
     with_reducible rfl
    rotate_left
    ·simp only [Act.put, List.setIfInBounds_toArray, List.set_cons_zero, List.set_cons_succ, i64_w, i32_w]
     rfl
    refine one_ (i := 1) (N := some 30) #[true, true, true, false, false, false, false, false, false] rfl rfl (one_of HT_.out (by kernel_rfl)) (by decide) (fun K hK => ?_)
    refine goes_ Try.func12 (by kernel_rfl) rfl #[.agg #[.slice Ao106 t267.length co106, .slice Ao109 t270.length co109]] (by rfl) rfl rfl zm ?_
    with_reducible refine (handshakerlaw20_ref.calls (fun k_ => (k_ ≠ gb264 ∧ k_ ≠ gb274)) _ _ t267 (fun k_ => (k_ ≠ gb264 ∧ k_ ≠ gb274)) _ _ t270 t275 t278 _ ?side1 ?side2 A95.out).mono ?_
    (case side1 => exact HO269.out)
    (case side2 => exact HO272.out)
    rintro e w112 ⟨v276, v279, rfl, ho0, ho1, hb⟩
    refine ⟨_, rfl, ?_⟩
    have n0_ := Aside0.mk (Kd.V_below (zV HO269) hb)
    have n1_ := Aside0.mk (Kd.V_below (zV HO272) hb)
    have n2_ := Aside0.mk (Kd.V_lower (Kd.V_mono (ok' := fun k_ => k_ ≠ gb264 ∧ k_ ≠ gb274) ho0 (fun k_ hk_ => ⟨Or.elim hk_ (fun hs_ => Or.elim hs_ (fun hs_ => hs_.1) (fun hs_ => hs_.1)) (fun hn_ => (Kd.freshB (g := gb264) (o := .cells #[.slice A0_0 l0_0.length c0_0, .slice A0_1 l0_1.length c0_1] 24 (0, 0)) (zb BK264) k_ hn_)), Or.elim hk_ (fun hs_ => Or.elim hs_ (fun hs_ => hs_.2) (fun hs_ => hs_.2)) (fun hn_ => (Kd.freshB (g := gb274) (o := .cells #[.slice Ao106 t267.length co106, .slice Ao109 t270.length co109] 24 (0, 0)) (zb BK274) k_ hn_))⟩)) (below_size (zc2 HB GE264 GE274)))
    have n3_ := Aside0.mk (Kd.V_lower (Kd.V_mono (ok' := fun k_ => k_ ≠ gb264 ∧ k_ ≠ gb274) ho1 (fun k_ hk_ => ⟨Or.elim hk_ (fun hs_ => Or.elim hs_ (fun hs_ => hs_.1) (fun hs_ => hs_.1)) (fun hn_ => (Kd.freshB (g := gb264) (o := .cells #[.slice A0_0 l0_0.length c0_0, .slice A0_1 l0_1.length c0_1] 24 (0, 0)) (zb BK264) k_ hn_)), Or.elim hk_ (fun hs_ => Or.elim hs_ (fun hs_ => hs_.2) (fun hs_ => hs_.2)) (fun hn_ => (Kd.freshB (g := gb274) (o := .cells #[.slice Ao106 t267.length co106, .slice Ao109 t270.length co109] 24 (0, 0)) (zb BK274) k_ hn_))⟩)) (below_size (zc2 HB GE264 GE274)))
    have n4_ := Aside0.mk (blk_below (g := gb264) (o := .cells #[.slice A0_0 l0_0.length c0_0, .slice A0_1 l0_1.length c0_1] 24 (0, 0)) (zb BK264) hb)
    have n5_ := Aside0.mk (blk_below (g := gb274) (o := .cells #[.slice Ao106 t267.length co106, .slice Ao109 t270.length co109] 24 (0, 0)) (zb BK274) hb)
    have n6_ := Aside0.mk (below_step (zc2 HB GE264 GE274) hb)
    clear HO269
    clear HO272
    clear BK264
    clear BK274
    clear HB
    have HO269 := n0_
    have HO272 := n1_
    have HO277 := n2_
    have HO280 := n3_
    have BK264 := n4_
    have BK274 := n5_
    have HB := n6_
    clear n0_ n1_ n2_ n3_ n4_ n5_ n6_
    (try clear hb)
    (try clear hb2)
    (try clear hk)
    (try clear hi)
    (try clear ho0)
    (try clear ho1)
    refine hK.out _ _ ⟨(blk_cell BK274.out 0).trans rfl, (blk_cell BK274.out 1).trans rfl, (blk_cell BK264.out 0).trans rfl, (blk_cell BK264.out 1).trans rfl⟩ (fun hHeld => ?_)
    clear hK K
    refine norm_ (a' := ?_) ?_ ?_
    rotate_left
    ·show Act.put _ (some 30) _ = _
     simp only [Act.put, List.setIfInBounds_toArray, List.set_cons_zero, List.set_cons_succ, i64_w, i32_w]
     rfl
    refine one_ (i := 3) (N := some 32) #[true, true, true, true, false, false, false, false, false] rfl rfl (one_of HT_.out (by kernel_rfl)) (by decide) (fun K hK => ?_)
    refine goes_ Try.func12 (by kernel_rfl) rfl #[.agg #[.slice A0_0 l0_0.length c0_0, .slice A0_1 l0_1.length c0_1]] (by rfl) rfl rfl zm ?_
    with_reducible refine (handshakerlaw20_ref.calls (fun k_ => k_ < w.heap.size) _ _ l0_0 (fun k_ => k_ < w.heap.size) _ _ l0_1 t281 t284 _ ?side1 ?side2 A96.out).mono ?_
    (case side1 => exact Kd.V_mk HC0_0.out (Kd.F_below (Kd.C_F (Kd.heap_int .i64) HR0_0.out) (zc2 HB GE264 GE274)))
    (case side2 => exact Kd.V_mk HC0_1.out (Kd.F_below (Kd.C_F (Kd.heap_int .i64) HR0_1.out) (zc2 HB GE264 GE274)))
    rintro e w113 ⟨v282, v285, rfl, ho0, ho1, hb⟩
    refine ⟨_, rfl, ?_⟩
    have n0_ := Aside0.mk (Kd.V_below (zV HO269) hb)
    have n1_ := Aside0.mk (Kd.V_below (zV HO272) hb)
    have n2_ := Aside0.mk (Kd.V_below (zV HO277) hb)
    have n3_ := Aside0.mk (Kd.V_below (zV HO280) hb)
    have n4_ := Aside0.mk (Kd.V_lower (Kd.V_mono (ok' := fun k_ => k_ ≠ gb264 ∧ k_ ≠ gb274) ho0 (fun k_ hk_ => ⟨Or.elim hk_ (fun hs_ => Or.elim hs_ (fun hs_ => fun e_ => Nat.not_le.2 hs_ (by rw [e_]; exact GW264.out)) (fun hs_ => fun e_ => Nat.not_le.2 hs_ (by rw [e_]; exact GW264.out))) (fun hn_ => (Kd.freshB (g := gb264) (o := .cells #[.slice A0_0 l0_0.length c0_0, .slice A0_1 l0_1.length c0_1] 24 (0, 0)) (zb BK264) k_ hn_)), Or.elim hk_ (fun hs_ => Or.elim hs_ (fun hs_ => fun e_ => Nat.not_le.2 hs_ (by rw [e_]; exact GW274.out)) (fun hs_ => fun e_ => Nat.not_le.2 hs_ (by rw [e_]; exact GW274.out))) (fun hn_ => (Kd.freshB (g := gb274) (o := .cells #[.slice Ao106 t267.length co106, .slice Ao109 t270.length co109] 24 (0, 0)) (zb BK274) k_ hn_))⟩)) (below_size (zc2 HB GE264 GE274)))
    have n5_ := Aside0.mk (Kd.V_lower (Kd.V_mono (ok' := fun k_ => k_ ≠ gb264 ∧ k_ ≠ gb274) ho1 (fun k_ hk_ => ⟨Or.elim hk_ (fun hs_ => Or.elim hs_ (fun hs_ => fun e_ => Nat.not_le.2 hs_ (by rw [e_]; exact GW264.out)) (fun hs_ => fun e_ => Nat.not_le.2 hs_ (by rw [e_]; exact GW264.out))) (fun hn_ => (Kd.freshB (g := gb264) (o := .cells #[.slice A0_0 l0_0.length c0_0, .slice A0_1 l0_1.length c0_1] 24 (0, 0)) (zb BK264) k_ hn_)), Or.elim hk_ (fun hs_ => Or.elim hs_ (fun hs_ => fun e_ => Nat.not_le.2 hs_ (by rw [e_]; exact GW274.out)) (fun hs_ => fun e_ => Nat.not_le.2 hs_ (by rw [e_]; exact GW274.out))) (fun hn_ => (Kd.freshB (g := gb274) (o := .cells #[.slice Ao106 t267.length co106, .slice Ao109 t270.length co109] 24 (0, 0)) (zb BK274) k_ hn_))⟩)) (below_size (zc2 HB GE264 GE274)))
    have n6_ := Aside0.mk (blk_below (g := gb264) (o := .cells #[.slice A0_0 l0_0.length c0_0, .slice A0_1 l0_1.length c0_1] 24 (0, 0)) (zb BK264) hb)
    have n7_ := Aside0.mk (blk_below (g := gb274) (o := .cells #[.slice Ao106 t267.length co106, .slice Ao109 t270.length co109] 24 (0, 0)) (zb BK274) hb)
    have n8_ := Aside0.mk (below_step (zc2 HB GE264 GE274) hb)
    clear HO269
    clear HO272
    clear HO277
    clear HO280
    clear BK264
    clear BK274
    clear HB
    have HO269 := n0_
    have HO272 := n1_
    have HO277 := n2_
    have HO280 := n3_
    have HO283 := n4_
    have HO286 := n5_
    have BK264 := n6_
    have BK274 := n7_
    have HB := n8_
    clear n0_ n1_ n2_ n3_ n4_ n5_ n6_ n7_ n8_
    (try clear hb)
    (try clear hb2)
    (try clear hk)
    (try clear hi)
    (try clear ho0)
    (try clear ho1)
    obtain ⟨Ao114, co114, eo114⟩ := Kd.V_slice HO277.out
    (first | subst eo114 | (injection eo114 with f1_ f2_ f3_; have f4_ := f1_.symm; have f5_ := f3_.symm; clear f1_ f2_ f3_; subst f4_; subst f5_))
    obtain ⟨Ao115, co115, eo115⟩ := Kd.V_slice HO280.out
    (first | subst eo115 | (injection eo115 with f1_ f2_ f3_; have f4_ := f1_.symm; have f5_ := f3_.symm; clear f1_ f2_ f3_; subst f4_; subst f5_))
    obtain ⟨Ao116, co116, eo116⟩ := Kd.V_slice HO283.out
    (first | subst eo116 | (injection eo116 with f1_ f2_ f3_; have f4_ := f1_.symm; have f5_ := f3_.symm; clear f1_ f2_ f3_; subst f4_; subst f5_))
    obtain ⟨Ao117, co117, eo117⟩ := Kd.V_slice HO286.out
    (first | subst eo117 | (injection eo117 with f1_ f2_ f3_; have f4_ := f1_.symm; have f5_ := f3_.symm; clear f1_ f2_ f3_; subst f4_; subst f5_))
    refine hK.out _ _ ⟨(blk_cell BK274.out 0).trans rfl, (blk_cell BK274.out 1).trans rfl, (blk_cell BK264.out 0).trans rfl, (blk_cell BK264.out 1).trans rfl⟩ (fun hHeld => ?_)
    clear hK K
    refine norm_ (a' := ?_) ?_ ?_
    rotate_left
    ·show Act.put _ (some 32) _ = _
     simp only [Act.put, List.setIfInBounds_toArray, List.set_cons_zero, List.set_cons_succ, i64_w, i32_w]
     rfl
    refine one_ (i := 4) (N := some 33) #[true, true, true, true, true, false, false, false, false] rfl rfl (one_of HT_.out (by kernel_rfl)) (by decide) (fun K hK => ?_)
    refine goes_ Try.func21 (by kernel_rfl) rfl #[.agg #[.slice Ao114 t275.length co114, .slice Ao115 t278.length co115], .agg #[.slice Ao116 t281.length co116, .slice Ao117 t284.length co117]] (by rfl) rfl rfl zm ?_
    with_reducible refine (handshakerref20_Same.calls k _ _ t275 _ _ t278 _ _ t281 _ _ t284 true _ ?side1 ?side2 ?side3 ?side4 ?side5 ?side6 ?side7 ?side8 A97.out).mono ?_
    (case side1 => repeat (first | exact (Kd.V_reads' HO277.out).2.2 | (with_reducible refine Kd.C_alloc ?_ _) | (with_reducible refine Kd.C_drewN ?_ _) | (with_reducible refine Kd.C_drew ?_)))
    (case side2 => exact (Kd.V_reads' HO277.out).2.1)
    (case side3 => repeat (first | exact (Kd.V_reads' HO280.out).2.2 | (with_reducible refine Kd.C_alloc ?_ _) | (with_reducible refine Kd.C_drewN ?_ _) | (with_reducible refine Kd.C_drew ?_)))
    (case side4 => exact (Kd.V_reads' HO280.out).2.1)
    (case side5 => repeat (first | exact (Kd.V_reads' HO283.out).2.2 | (with_reducible refine Kd.C_alloc ?_ _) | (with_reducible refine Kd.C_drewN ?_ _) | (with_reducible refine Kd.C_drew ?_)))
    (case side6 => exact (Kd.V_reads' HO283.out).2.1)
    (case side7 => repeat (first | exact (Kd.V_reads' HO286.out).2.2 | (with_reducible refine Kd.C_alloc ?_ _) | (with_reducible refine Kd.C_drewN ?_ _) | (with_reducible refine Kd.C_drew ?_)))
    (case side8 => exact (Kd.V_reads' HO286.out).2.1)
    rintro e w118 ⟨rfl, hb⟩
    refine ⟨_, rfl, ?_⟩
    have n0_ := Aside0.mk (Kd.V_below (zV HO269) hb)
    have n1_ := Aside0.mk (Kd.V_below (zV HO272) hb)
    have n2_ := Aside0.mk (Kd.V_below (zV HO277) hb)
    have n3_ := Aside0.mk (Kd.V_below (zV HO280) hb)
    have n4_ := Aside0.mk (Kd.V_below (zV HO283) hb)
    have n5_ := Aside0.mk (Kd.V_below (zV HO286) hb)
    have n6_ := Aside0.mk (blk_below (g := gb264) (o := .cells #[.slice A0_0 l0_0.length c0_0, .slice A0_1 l0_1.length c0_1] 24 (0, 0)) (zb BK264) hb)
    have n7_ := Aside0.mk (blk_below (g := gb274) (o := .cells #[.slice Ao106 t267.length co106, .slice Ao109 t270.length co109] 24 (0, 0)) (zb BK274) hb)
    have n8_ := Aside0.mk (below_step (zc2 HB GE264 GE274) hb)
    clear HO269
    clear HO272
    clear HO277
    clear HO280
    clear HO283
    clear HO286
    clear BK264
    clear BK274
    clear HB
    have HO269 := n0_
    have HO272 := n1_
    have HO277 := n2_
    have HO280 := n3_
    have HO283 := n4_
    have HO286 := n5_
    have BK264 := n6_
    have BK274 := n7_
    have HB := n8_
    clear n0_ n1_ n2_ n3_ n4_ n5_ n6_ n7_ n8_
    (try clear hb)
    (try clear hb2)
    (try clear hk)
    (try clear hi)
    refine hK.out _ _ ⟨(blk_cell BK274.out 0).trans rfl, (blk_cell BK274.out 1).trans rfl, (blk_cell BK264.out 0).trans rfl, (blk_cell BK264.out 1).trans rfl⟩ (fun hHeld => ?_)
    clear hK K
    refine norm_ (a' := ?_) ?_ ?_
    rotate_left
    ·show Act.put _ (some 33) _ = _
     simp only [Act.put, List.setIfInBounds_toArray, List.set_cons_zero, List.set_cons_succ, i64_w, i32_w]
     rfl
    refine pure_ (i := 5) (N := some 34) (v := ?_) (a' := ?_) #[true, true, true, true, true, true, false, false, false] rfl rfl (any_of HT_.out (by kernel_rfl)) (fun _ _ _ h => h) (Or.inl ⟨by rfl, ?_⟩) ?_ ?_
    rotate_left
    ·intro w'
     go_simp
     with_reducible rfl
    rotate_left
    ·simp only [Act.put, List.setIfInBounds_toArray, List.set_cons_zero, List.set_cons_succ, i64_w, i32_w]
     rfl
    refine one_ (i := 6) (N := some 35) #[true, true, true, true, true, true, true, false, false] rfl rfl (one_of HT_.out (by kernel_rfl)) (by decide) (fun K hK => ?_)
    refine goes_ Try.func9 (by kernel_rfl) rfl #[] (by rfl) rfl rfl zm ?_
    with_reducible refine (handshakerlaw20_awake.calls k  t288 _ A99.out).mono ?_
    rintro e w119 ⟨rfl, hb⟩
    refine ⟨_, rfl, ?_⟩
    have n0_ := Aside0.mk (Kd.V_below (zV HO269) hb)
    have n1_ := Aside0.mk (Kd.V_below (zV HO272) hb)
    have n2_ := Aside0.mk (Kd.V_below (zV HO277) hb)
    have n3_ := Aside0.mk (Kd.V_below (zV HO280) hb)
    have n4_ := Aside0.mk (Kd.V_below (zV HO283) hb)
    have n5_ := Aside0.mk (Kd.V_below (zV HO286) hb)
    have n6_ := Aside0.mk (blk_below (g := gb264) (o := .cells #[.slice A0_0 l0_0.length c0_0, .slice A0_1 l0_1.length c0_1] 24 (0, 0)) (zb BK264) hb)
    have n7_ := Aside0.mk (blk_below (g := gb274) (o := .cells #[.slice Ao106 t267.length co106, .slice Ao109 t270.length co109] 24 (0, 0)) (zb BK274) hb)
    have n8_ := Aside0.mk (below_step (zc2 HB GE264 GE274) hb)
    clear HO269
    clear HO272
    clear HO277
    clear HO280
    clear HO283
    clear HO286
    clear BK264
    clear BK274
    clear HB
    have HO269 := n0_
    have HO272 := n1_
    have HO277 := n2_
    have HO280 := n3_
    have HO283 := n4_
    have HO286 := n5_
    have BK264 := n6_
    have BK274 := n7_
    have HB := n8_
    clear n0_ n1_ n2_ n3_ n4_ n5_ n6_ n7_ n8_
    (try clear hb)
    (try clear hb2)
    (try clear hk)
    (try clear hi)
    refine hK.out _ _ ⟨(blk_cell BK274.out 0).trans rfl, (blk_cell BK274.out 1).trans rfl, (blk_cell BK264.out 0).trans rfl, (blk_cell BK264.out 1).trans rfl⟩ (fun hHeld => ?_)
    clear hK K
    refine norm_ (a' := ?_) ?_ ?_
    rotate_left
    ·show Act.put _ (some 35) _ = _
     simp only [Act.put, List.setIfInBounds_toArray, List.set_cons_zero, List.set_cons_succ, i64_w, i32_w]
     rfl
    refine pure_ (i := 7) (N := some 36) (v := ?_) (a' := ?_) #[true, true, true, true, true, true, true, true, false] rfl rfl (any_of HT_.out (by kernel_rfl)) (fun _ _ _ h => h) (Or.inl ⟨by rfl, ?_⟩) ?_ ?_
    rotate_left
    ·intro w'
     go_simp
     with_reducible rfl
    rotate_left
    ·simp only [Act.put, List.setIfInBounds_toArray, List.set_cons_zero, List.set_cons_succ, i64_w, i32_w]
     rfl
    refine pure_ (i := 8) (N := some 4) (v := ?_) (a' := ?_) #[true, true, true, true, true, true, true, true, true] rfl rfl (any_of HT_.out (by kernel_rfl)) (fun _ _ _ h => h) (Or.inl ⟨by rfl, ?_⟩) ?_ ?_
    rotate_left
    ·intro w'
     go_simp
     with_reducible rfl
    rotate_left
    ·simp only [Act.put, List.setIfInBounds_toArray, List.set_cons_zero, List.set_cons_succ, i64_w, i32_w]
     rfl
    refine done_ (done_of HT_.out (by kernel_rfl)) ?_
    try go_wp2
    go_ret
    exact ⟨by first | rfl | (simp [errW_none, errW_some] <;> rfl) | (simp [*, errW_none, errW_some] <;> rfl), by repeat (first | (with_reducible first | exact HB.out | apply below_alloc | apply pw_below_drewN | apply below_drew1 | refine below_set ?_ GE264.out | refine below_set ?_ GE274.out) | exact HB.out)⟩
   ·replace c98 := Bool.eq_false_iff.mpr c98
    subst c98
    have H1 : (none) = some r := by rw [if_neg (show ¬ (false = true) by decide)] at H; exact H
    clear H
    have H := H1
    clear H1
    exact absurd H (by simp)
 ·replace c4 := Bool.eq_false_iff.mpr c4
  subst c4
  have H1 : ((handshakerlaw20_awake.f k).bind fun t266 => (some t266)) = some r := by rw [if_neg (show ¬ (false = true) by decide)] at H; exact H
  clear H
  have H := H1
  clear H1
  replace H := Option.bind_eq_some_iff.mp H
  obtain ⟨t266, A1200, H⟩ := H
  replace H : (some t266) = some r := H
  have A120 := Aside0.mk A1200
  clear A1200
  obtain rfl := Option.some.inj H
  go_enter Try.func7, Try.ntmps7
  go_wp2_with (first | ((with_reducible refine gate_dst (N := 2) rfl ?_); (try (refine gate_guard (by rfl) ?_; dsimp only)); refine box_event ?hg (N := 2) ?hd (cs := #[.slice A0_0 l0_0.length c0_0, .slice A0_1 l0_1.length c0_1]) (t := 24) ?hr ?_; (case hd => rfl); (case hg => rfl); (case hr => first | (go_simp; done) | (go_simp; rfl)); intro gb264 hg w121 hbox hb; have n0_ := Aside0.mk (below_step (zc0 HB) hb); have n1_ := Aside0.mk (hbox); have n2_ := Aside0.mk ((by rw [hg]; exact (below_size (zc0 HB)) : w.heap.size ≤ gb264)); have n3_ := Aside0.mk ((by rw [hg]; exact (below_size (zc0 HB)) : w.heap.size ≤ gb264)); clear HB; have HB := n0_; have BK264 := n1_; have GW264 := n2_; have GE264 := n3_; clear n0_ n1_ n2_ n3_; clear hb hbox hg; have hcz122_0 : w121.cell? ⟨gb264, 0, none⟩ = some (.slice A0_0 l0_0.length c0_0) := (blk_cell BK264.out 0).trans rfl; have hcz122_1 : w121.cell? ⟨gb264, 1, none⟩ = some (.slice A0_1 l0_1.length c0_1) := (blk_cell BK264.out 1).trans rfl; have hfz122_0 := blk_frozen BK264.out 0; have hfz122_1 := blk_frozen BK264.out 1) | ((with_reducible refine gate_callee (f := 8) rfl ?_); refine goesL_ (some 18) rfl rfl Try.func8 (by kernel_rfl) rfl #[.agg #[.slice A0_0 l0_0.length c0_0, .slice A0_1 l0_1.length c0_1]] rfl zm ?_; (with_reducible refine (handshakerlaw20_small.calls _ _ l0_0 _ _ l0_1 false _ ?side1 ?side2 ?side3 ?side4 A3.out).mono ?_); (case side1 => repeat (first | exact (Kd.C_below HR0_0.out HB.out) | (with_reducible refine Kd.C_alloc ?_ _) | (with_reducible refine Kd.C_drewN ?_ _) | (with_reducible refine Kd.C_drew ?_))); (case side2 => exact HC0_0.out); (case side3 => repeat (first | exact (Kd.C_below HR0_1.out HB.out) | (with_reducible refine Kd.C_alloc ?_ _) | (with_reducible refine Kd.C_drewN ?_ _) | (with_reducible refine Kd.C_drew ?_))); (case side4 => exact HC0_1.out); rintro e w123 ⟨rfl, hb⟩; refine ⟨_, rfl, ?_⟩; have n0_ := Aside0.mk (blk_below (g := gb264) (o := .cells #[.slice A0_0 l0_0.length c0_0, .slice A0_1 l0_1.length c0_1] 24 (0, 0)) (zb BK264) hb); have n1_ := Aside0.mk (below_step (zc1 HB GE264) hb); clear BK264; clear HB; have BK264 := n0_; have HB := n1_; clear n0_ n1_; (try clear hb); (try clear hb2); (try clear hk); (try clear hi)) | ((with_reducible refine gate_callee (f := 9) rfl ?_); refine goesL_ (some 20) rfl rfl Try.func9 (by kernel_rfl) rfl #[] rfl zm ?_; (with_reducible refine (handshakerlaw20_awake.calls k  t266 _ A120.out).mono ?_); rintro e w124 ⟨rfl, hb⟩; refine ⟨_, rfl, ?_⟩; have n0_ := Aside0.mk (blk_below (g := gb264) (o := .cells #[.slice A0_0 l0_0.length c0_0, .slice A0_1 l0_1.length c0_1] 24 (0, 0)) (zb BK264) hb); have n1_ := Aside0.mk (below_step (zc1 HB GE264) hb); clear BK264; clear HB; have BK264 := n0_; have HB := n1_; clear n0_ n1_; (try clear hb); (try clear hb2); (try clear hk); (try clear hi)))
  go_ret
  exact ⟨by first | rfl | (simp [errW_none, errW_some] <;> rfl) | (simp [*, errW_none, errW_some] <;> rfl), by repeat (first | (with_reducible first | exact HB.out | apply below_alloc | apply pw_below_drewN | apply below_drew1 | refine below_set ?_ GE264.out) | exact HB.out)⟩

end Go.Proofs.Ytllmfahkiabkcaa.PCondLeaves
