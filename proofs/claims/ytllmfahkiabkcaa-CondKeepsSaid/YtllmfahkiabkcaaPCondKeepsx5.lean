/- Lean functions that say what functions of the given program compute, and proofs by walking the code that each call does just that; no condition but those that each statement names. -/
import Derived.Test.YtllmfahkiabkcaaPCondKeepsx0
import Derived.Test.YtllmfahkiabkcaaPCondKeepsx1
import Derived.Test.YtllmfahkiabkcaaPCondKeepsx2
import Derived.Test.YtllmfahkiabkcaaPCondKeepsx3
import Derived.Test.YtllmfahkiabkcaaPCondKeepsx4
namespace Go.Proofs.Ytllmfahkiabkcaa.PCondKeeps
open Go.RowKit Go.Proofs.YtllmfahkiabkcaaW.PrintWords Go.Proofs.YtllmfahkiabkcaaW.PrintLast Go.Proofs.YtllmfahkiabkcaaW.PrintMore
attribute [local go_sem] max2_int min2_int max_two min_two max_three min_three max_four min_four   -- for this text's walks alone
set_option linter.unusedVariables false
set_option linter.unusedSimpArgs false

/-! ### handshakerlaw20_CondKeeps: function 4 -/
mutual
def handshakerlaw20_CondKeeps.l0 : Nat → Int → Int → Int → List Int → List (S48) → Int → Int → List Int → List Int → Option (Bool)
 | 0, _, _, _, _, _, _, _, _, _ => none
 | k + 1, x4, x5, x6, x7, x33, x34, x35, x259000, x259001 => if x35 < x34 then (if 0 ≤ x35 then (if x35 < (x33.length : Int) then (if (Int.tmod ((rd_T48 x33 x35).f0) 4) = 0 then ((cond_Wait.f k x259000 x259001 (wrap64 (1 + (wrap64 (Int.tmod ((rd_T48 x33 x35).f1) 8))))).bind fun bt262 => (if bt262.2.2 = 0 then (if x7.length < 17592186044416 then (handshakerlaw20_CondKeeps.j2 k x4 x5 x6 (x7 ++ [wrap64 (1 + (wrap64 (Int.tmod ((rd_T48 x33 x35).f1) 8)))]) x33 x34 x35 bt262.1 bt262.2.1) else (none)) else (handshakerlaw20_CondKeeps.j2 k x4 x5 x6 x7 x33 x34 x35 bt262.1 bt262.2.1))) else (if (Int.tmod ((rd_T48 x33 x35).f0) 4) = 1 then ((cond_Go.f k x259000 x259001 (wrap64 (1 + (wrap64 (Int.tmod ((rd_T48 x33 x35).f1) 8))))).bind fun bt273 => (if bt273.2.2 = 0 then (handshakerlaw20_CondKeeps.j2 k x4 (wrap64 (x5 + 1)) x6 x7 x33 x34 x35 bt273.1 bt273.2.1) else (handshakerlaw20_CondKeeps.j2 k x4 x5 x6 x7 x33 x34 x35 bt273.1 bt273.2.1))) else (if (Int.tmod ((rd_T48 x33 x35).f0) 4) = 2 then ((cond_Leave.f k x259000 x259001 (wrap64 (1 + (wrap64 (Int.tmod ((rd_T48 x33 x35).f1) 8))))).bind fun bt281 => (if bt281.2.2.2 = 0 then (if bt281.2.2.1 = true then (handshakerlaw20_CondKeeps.j1 k x4 x5 x6 x7 x33 x34 x35 false x259000 x259001 bt281.1 bt281.2.1) else (handshakerlaw20_CondKeeps.j1 k x4 x5 x6 x7 x33 x34 x35 (decide ((bt281.2.1.length : Int) < (x259001.length : Int))) x259000 x259001 bt281.1 bt281.2.1)) else (handshakerlaw20_CondKeeps.j1 k x4 x5 x6 x7 x33 x34 x35 false x259000 x259001 bt281.1 bt281.2.1))) else ((cond_Signal.f k x259000 x259001 1).bind fun bt290 => (handshakerlaw20_CondKeeps.j2 k (wrap64 (x4 + (bt290.2.2.length : Int))) x5 x6 x7 x33 x34 x35 bt290.1 bt290.2.1))))) else (none)) else (none)) else ((handshakerlaw20_awake.f k).bind fun t259 => (some t259))
def handshakerlaw20_CondKeeps.j2 : Nat → Int → Int → Int → List Int → List (S48) → Int → Int → List Int → List Int → Option (Bool)
 | 0, _, _, _, _, _, _, _, _, _ => none
 | k + 1, x4, x5, x6, x7, x33, x34, x35, x259000, x259001 => (cond_Right.f k x259000 x259001).bind fun t300 => (if t300 = true then (handshakerlaw20_CondKeeps.j3 k x4 x5 x6 x7 x33 x34 x35 (x4 != (wrap64 ((wrap64 (x5 + x6)) + (x259001.length : Int)))) x259000 x259001) else (none))
def handshakerlaw20_CondKeeps.j3 : Nat → Int → Int → Int → List Int → List (S48) → Int → Int → Bool → List Int → List Int → Option (Bool)
 | 0, _, _, _, _, _, _, _, _, _, _ => none
 | k + 1, x4, x5, x6, x7, x33, x34, x35, x130, x259000, x259001 => if x130 = true then (none) else (handshakerlaw20_CondKeeps.l1 k x4 x5 x6 x7 x33 x34 x35 x259001 (x259001.length : Int) 0 x259000 x259001)
def handshakerlaw20_CondKeeps.l1 : Nat → Int → Int → Int → List Int → List (S48) → Int → Int → List Int → Int → Int → List Int → List Int → Option (Bool)
 | 0, _, _, _, _, _, _, _, _, _, _, _, _ => none
 | k + 1, x4, x5, x6, x7, x33, x34, x35, x132, x133, x134, x259000, x259001 => if x134 < x133 then (if 0 ≤ x134 then (if x134 < (x132.length : Int) then (handshakerlaw20_CondKeeps.l2 k x4 x5 x6 x7 (rd x132 x134) x33 x34 x35 x132 x133 x134 x259000 (x259000.length : Int) 0 x259000 x259001) else (none)) else (none)) else (handshakerlaw20_CondKeeps.l0 k x4 x5 x6 x7 x33 x34 (wrap64 (x35 + 1)) x259000 x259001)
def handshakerlaw20_CondKeeps.l2 : Nat → Int → Int → Int → List Int → Int → List (S48) → Int → Int → List Int → Int → Int → List Int → Int → Int → List Int → List Int → Option (Bool)
 | 0, _, _, _, _, _, _, _, _, _, _, _, _, _, _, _, _ => none
 | k + 1, x4, x5, x6, x7, x22, x33, x34, x35, x132, x133, x134, x139, x140, x141, x259000, x259001 => if x141 < x140 then (if 0 ≤ x141 then (if x141 < (x139.length : Int) then (handshakerlaw20_CondKeeps.l3 k x4 x5 x6 x7 x22 (rd x139 x141) (-1) (-1) x33 x34 x35 x132 x133 x134 x139 x140 x141 x7 (x7.length : Int) 0 x259000 x259001) else (none)) else (none)) else (handshakerlaw20_CondKeeps.l1 k x4 x5 x6 x7 x33 x34 x35 x132 x133 (wrap64 (x134 + 1)) x259000 x259001)
def handshakerlaw20_CondKeeps.l3 : Nat → Int → Int → Int → List Int → Int → Int → Int → Int → List (S48) → Int → Int → List Int → Int → Int → List Int → Int → Int → List Int → Int → Int → List Int → List Int → Option (Bool)
 | 0, _, _, _, _, _, _, _, _, _, _, _, _, _, _, _, _, _, _, _, _, _, _ => none
 | k + 1, x4, x5, x6, x7, x22, x24, x25, x26, x33, x34, x35, x132, x133, x134, x139, x140, x141, x145, x146, x147, x259000, x259001 => if x147 < x146 then (if 0 ≤ x147 then (if x147 < (x145.length : Int) then (if (rd x145 x147) = x22 then (if (rd x145 x147) = x24 then (handshakerlaw20_CondKeeps.l3 k x4 x5 x6 x7 x22 x24 x147 x147 x33 x34 x35 x132 x133 x134 x139 x140 x141 x145 x146 (wrap64 (x147 + 1)) x259000 x259001) else (handshakerlaw20_CondKeeps.l3 k x4 x5 x6 x7 x22 x24 x147 x26 x33 x34 x35 x132 x133 x134 x139 x140 x141 x145 x146 (wrap64 (x147 + 1)) x259000 x259001)) else (if (rd x145 x147) = x24 then (handshakerlaw20_CondKeeps.l3 k x4 x5 x6 x7 x22 x24 x25 x147 x33 x34 x35 x132 x133 x134 x139 x140 x141 x145 x146 (wrap64 (x147 + 1)) x259000 x259001) else (handshakerlaw20_CondKeeps.l3 k x4 x5 x6 x7 x22 x24 x25 x26 x33 x34 x35 x132 x133 x134 x139 x140 x141 x145 x146 (wrap64 (x147 + 1)) x259000 x259001))) else (none)) else (none)) else (if x25 > x26 then (none) else (handshakerlaw20_CondKeeps.l2 k x4 x5 x6 x7 x22 x33 x34 x35 x132 x133 x134 x139 x140 (wrap64 (x141 + 1)) x259000 x259001))
def handshakerlaw20_CondKeeps.j1 : Nat → Int → Int → Int → List Int → List (S48) → Int → Int → Bool → List Int → List Int → List Int → List Int → Option (Bool)
 | 0, _, _, _, _, _, _, _, _, _, _, _, _ => none
 | k + 1, x4, x5, x6, x7, x33, x34, x35, x109, x259000, x259001, x290000, x290001 => if x109 = true then (if (x259000.length : Int) > 0 then (none) else (handshakerlaw20_CondKeeps.j2 k x4 x5 (wrap64 (x6 + 1)) x7 x33 x34 x35 x290000 x290001)) else (handshakerlaw20_CondKeeps.j2 k x4 x5 x6 x7 x33 x34 x35 x290000 x290001)
end
def handshakerlaw20_CondKeeps.f (k : Nat) (l0 : List (S48)) : Option (Bool) := if (l0.length : Int) > 60 then ((handshakerlaw20_awake.f k).bind fun t257 => (some t257)) else (handshakerlaw20_CondKeeps.l0 k 0 0 0 ([] : List Int) l0 (l0.length : Int) 0 ([] : List Int) ([] : List Int))
theorem handshakerlaw20_CondKeeps.mono_l : ∀ k, (∀ y0 y1 y2 y3 y4 y5 y6 y7 y8, LeO (handshakerlaw20_CondKeeps.l0 k y0 y1 y2 y3 y4 y5 y6 y7 y8) (handshakerlaw20_CondKeeps.l0 (k + 1) y0 y1 y2 y3 y4 y5 y6 y7 y8)) ∧ (∀ y0 y1 y2 y3 y4 y5 y6 y7 y8, LeO (handshakerlaw20_CondKeeps.j2 k y0 y1 y2 y3 y4 y5 y6 y7 y8) (handshakerlaw20_CondKeeps.j2 (k + 1) y0 y1 y2 y3 y4 y5 y6 y7 y8)) ∧ (∀ y0 y1 y2 y3 y4 y5 y6 y7 y8 y9, LeO (handshakerlaw20_CondKeeps.j3 k y0 y1 y2 y3 y4 y5 y6 y7 y8 y9) (handshakerlaw20_CondKeeps.j3 (k + 1) y0 y1 y2 y3 y4 y5 y6 y7 y8 y9)) ∧ (∀ y0 y1 y2 y3 y4 y5 y6 y7 y8 y9 y10 y11, LeO (handshakerlaw20_CondKeeps.l1 k y0 y1 y2 y3 y4 y5 y6 y7 y8 y9 y10 y11) (handshakerlaw20_CondKeeps.l1 (k + 1) y0 y1 y2 y3 y4 y5 y6 y7 y8 y9 y10 y11)) ∧ (∀ y0 y1 y2 y3 y4 y5 y6 y7 y8 y9 y10 y11 y12 y13 y14 y15, LeO (handshakerlaw20_CondKeeps.l2 k y0 y1 y2 y3 y4 y5 y6 y7 y8 y9 y10 y11 y12 y13 y14 y15) (handshakerlaw20_CondKeeps.l2 (k + 1) y0 y1 y2 y3 y4 y5 y6 y7 y8 y9 y10 y11 y12 y13 y14 y15)) ∧ (∀ y0 y1 y2 y3 y4 y5 y6 y7 y8 y9 y10 y11 y12 y13 y14 y15 y16 y17 y18 y19 y20 y21, LeO (handshakerlaw20_CondKeeps.l3 k y0 y1 y2 y3 y4 y5 y6 y7 y8 y9 y10 y11 y12 y13 y14 y15 y16 y17 y18 y19 y20 y21) (handshakerlaw20_CondKeeps.l3 (k + 1) y0 y1 y2 y3 y4 y5 y6 y7 y8 y9 y10 y11 y12 y13 y14 y15 y16 y17 y18 y19 y20 y21)) ∧ (∀ y0 y1 y2 y3 y4 y5 y6 y7 y8 y9 y10 y11, LeO (handshakerlaw20_CondKeeps.j1 k y0 y1 y2 y3 y4 y5 y6 y7 y8 y9 y10 y11) (handshakerlaw20_CondKeeps.j1 (k + 1) y0 y1 y2 y3 y4 y5 y6 y7 y8 y9 y10 y11))
 | 0 => ⟨fun _ _ _ _ _ _ _ _ _ r h => by simp [handshakerlaw20_CondKeeps.l0] at h, fun _ _ _ _ _ _ _ _ _ r h => by simp [handshakerlaw20_CondKeeps.j2] at h, fun _ _ _ _ _ _ _ _ _ _ r h => by simp [handshakerlaw20_CondKeeps.j3] at h, fun _ _ _ _ _ _ _ _ _ _ _ _ r h => by simp [handshakerlaw20_CondKeeps.l1] at h, fun _ _ _ _ _ _ _ _ _ _ _ _ _ _ _ _ r h => by simp [handshakerlaw20_CondKeeps.l2] at h, fun _ _ _ _ _ _ _ _ _ _ _ _ _ _ _ _ _ _ _ _ _ _ r h => by simp [handshakerlaw20_CondKeeps.l3] at h, fun _ _ _ _ _ _ _ _ _ _ _ _ r h => by simp [handshakerlaw20_CondKeeps.j1] at h⟩
 | k + 1 => by
  obtain ⟨ih0, ih1, ih2, ih3, ih4, ih5, ih6⟩ := handshakerlaw20_CondKeeps.mono_l k
  refine ⟨?_, ?_, ?_, ?_, ?_, ?_, ?_⟩
  ·intro y0 y1 y2 y3 y4 y5 y6 y7 y8
   unfold handshakerlaw20_CondKeeps.l0
   repeat' first
   | (with_reducible exact ih0 _ _ _ _ _ _ _ _ _)
   | (with_reducible exact ih1 _ _ _ _ _ _ _ _ _)
   | (with_reducible exact ih2 _ _ _ _ _ _ _ _ _ _)
   | (with_reducible exact ih3 _ _ _ _ _ _ _ _ _ _ _ _)
   | (with_reducible exact ih4 _ _ _ _ _ _ _ _ _ _ _ _ _ _ _ _)
   | (with_reducible exact ih5 _ _ _ _ _ _ _ _ _ _ _ _ _ _ _ _ _ _ _ _ _ _)
   | (with_reducible exact ih6 _ _ _ _ _ _ _ _ _ _ _ _)
   | (with_reducible exact cond_Go.mono _ _ _ _)
   | (with_reducible exact cond_Leave.mono _ _ _ _)
   | (with_reducible exact cond_Right.mono _ _ _)
   | (with_reducible exact cond_Signal.mono _ _ _ _)
   | (with_reducible exact cond_Wait.mono _ _ _ _)
   | (with_reducible exact handshakerlaw20_awake.mono _)
   | (with_reducible exact LeO.refl _)
   | (with_reducible exact LeO.none _)
   | (with_reducible refine LeO.ite ?_ ?_)
   | (with_reducible refine LeO.bind ?_ (fun _ => ?_))
   | exact ih0 _ _ _ _ _ _ _ _ _
   | exact ih1 _ _ _ _ _ _ _ _ _
   | exact ih2 _ _ _ _ _ _ _ _ _ _
   | exact ih3 _ _ _ _ _ _ _ _ _ _ _ _
   | exact ih4 _ _ _ _ _ _ _ _ _ _ _ _ _ _ _ _
   | exact ih5 _ _ _ _ _ _ _ _ _ _ _ _ _ _ _ _ _ _ _ _ _ _
   | exact ih6 _ _ _ _ _ _ _ _ _ _ _ _
   | exact cond_Go.mono _ _ _ _
   | exact cond_Leave.mono _ _ _ _
   | exact cond_Right.mono _ _ _
   | exact cond_Signal.mono _ _ _ _
   | exact cond_Wait.mono _ _ _ _
   | exact handshakerlaw20_awake.mono _
   | exact LeO.none _
   | refine LeO.ite ?_ ?_
   | refine LeO.bind ?_ (fun _ => ?_)
  ·intro y0 y1 y2 y3 y4 y5 y6 y7 y8
   unfold handshakerlaw20_CondKeeps.j2
   repeat' first
   | (with_reducible exact ih0 _ _ _ _ _ _ _ _ _)
   | (with_reducible exact ih1 _ _ _ _ _ _ _ _ _)
   | (with_reducible exact ih2 _ _ _ _ _ _ _ _ _ _)
   | (with_reducible exact ih3 _ _ _ _ _ _ _ _ _ _ _ _)
   | (with_reducible exact ih4 _ _ _ _ _ _ _ _ _ _ _ _ _ _ _ _)
   | (with_reducible exact ih5 _ _ _ _ _ _ _ _ _ _ _ _ _ _ _ _ _ _ _ _ _ _)
   | (with_reducible exact ih6 _ _ _ _ _ _ _ _ _ _ _ _)
   | (with_reducible exact cond_Go.mono _ _ _ _)
   | (with_reducible exact cond_Leave.mono _ _ _ _)
   | (with_reducible exact cond_Right.mono _ _ _)
   | (with_reducible exact cond_Signal.mono _ _ _ _)
   | (with_reducible exact cond_Wait.mono _ _ _ _)
   | (with_reducible exact handshakerlaw20_awake.mono _)
   | (with_reducible exact LeO.refl _)
   | (with_reducible exact LeO.none _)
   | (with_reducible refine LeO.ite ?_ ?_)
   | (with_reducible refine LeO.bind ?_ (fun _ => ?_))
   | exact ih0 _ _ _ _ _ _ _ _ _
   | exact ih1 _ _ _ _ _ _ _ _ _
   | exact ih2 _ _ _ _ _ _ _ _ _ _
   | exact ih3 _ _ _ _ _ _ _ _ _ _ _ _
   | exact ih4 _ _ _ _ _ _ _ _ _ _ _ _ _ _ _ _
   | exact ih5 _ _ _ _ _ _ _ _ _ _ _ _ _ _ _ _ _ _ _ _ _ _
   | exact ih6 _ _ _ _ _ _ _ _ _ _ _ _
   | exact cond_Go.mono _ _ _ _
   | exact cond_Leave.mono _ _ _ _
   | exact cond_Right.mono _ _ _
   | exact cond_Signal.mono _ _ _ _
   | exact cond_Wait.mono _ _ _ _
   | exact handshakerlaw20_awake.mono _
   | exact LeO.none _
   | refine LeO.ite ?_ ?_
   | refine LeO.bind ?_ (fun _ => ?_)
  ·intro y0 y1 y2 y3 y4 y5 y6 y7 y8 y9
   unfold handshakerlaw20_CondKeeps.j3
   repeat' first
   | (with_reducible exact ih0 _ _ _ _ _ _ _ _ _)
   | (with_reducible exact ih1 _ _ _ _ _ _ _ _ _)
   | (with_reducible exact ih2 _ _ _ _ _ _ _ _ _ _)
   | (with_reducible exact ih3 _ _ _ _ _ _ _ _ _ _ _ _)
   | (with_reducible exact ih4 _ _ _ _ _ _ _ _ _ _ _ _ _ _ _ _)
   | (with_reducible exact ih5 _ _ _ _ _ _ _ _ _ _ _ _ _ _ _ _ _ _ _ _ _ _)
   | (with_reducible exact ih6 _ _ _ _ _ _ _ _ _ _ _ _)
   | (with_reducible exact cond_Go.mono _ _ _ _)
   | (with_reducible exact cond_Leave.mono _ _ _ _)
   | (with_reducible exact cond_Right.mono _ _ _)
   | (with_reducible exact cond_Signal.mono _ _ _ _)
   | (with_reducible exact cond_Wait.mono _ _ _ _)
   | (with_reducible exact handshakerlaw20_awake.mono _)
   | (with_reducible exact LeO.refl _)
   | (with_reducible exact LeO.none _)
   | (with_reducible refine LeO.ite ?_ ?_)
   | (with_reducible refine LeO.bind ?_ (fun _ => ?_))
   | exact ih0 _ _ _ _ _ _ _ _ _
   | exact ih1 _ _ _ _ _ _ _ _ _
   | exact ih2 _ _ _ _ _ _ _ _ _ _
   | exact ih3 _ _ _ _ _ _ _ _ _ _ _ _
   | exact ih4 _ _ _ _ _ _ _ _ _ _ _ _ _ _ _ _
   | exact ih5 _ _ _ _ _ _ _ _ _ _ _ _ _ _ _ _ _ _ _ _ _ _
   | exact ih6 _ _ _ _ _ _ _ _ _ _ _ _
   | exact cond_Go.mono _ _ _ _
   | exact cond_Leave.mono _ _ _ _
   | exact cond_Right.mono _ _ _
   | exact cond_Signal.mono _ _ _ _
   | exact cond_Wait.mono _ _ _ _
   | exact handshakerlaw20_awake.mono _
   | exact LeO.none _
   | refine LeO.ite ?_ ?_
   | refine LeO.bind ?_ (fun _ => ?_)
  ·intro y0 y1 y2 y3 y4 y5 y6 y7 y8 y9 y10 y11
   unfold handshakerlaw20_CondKeeps.l1
   repeat' first
   | (with_reducible exact ih0 _ _ _ _ _ _ _ _ _)
   | (with_reducible exact ih1 _ _ _ _ _ _ _ _ _)
   | (with_reducible exact ih2 _ _ _ _ _ _ _ _ _ _)
   | (with_reducible exact ih3 _ _ _ _ _ _ _ _ _ _ _ _)
   | (with_reducible exact ih4 _ _ _ _ _ _ _ _ _ _ _ _ _ _ _ _)
   | (with_reducible exact ih5 _ _ _ _ _ _ _ _ _ _ _ _ _ _ _ _ _ _ _ _ _ _)
   | (with_reducible exact ih6 _ _ _ _ _ _ _ _ _ _ _ _)
   | (with_reducible exact cond_Go.mono _ _ _ _)
   | (with_reducible exact cond_Leave.mono _ _ _ _)
   | (with_reducible exact cond_Right.mono _ _ _)
   | (with_reducible exact cond_Signal.mono _ _ _ _)
   | (with_reducible exact cond_Wait.mono _ _ _ _)
   | (with_reducible exact handshakerlaw20_awake.mono _)
   | (with_reducible exact LeO.refl _)
   | (with_reducible exact LeO.none _)
   | (with_reducible refine LeO.ite ?_ ?_)
   | (with_reducible refine LeO.bind ?_ (fun _ => ?_))
   | exact ih0 _ _ _ _ _ _ _ _ _
   | exact ih1 _ _ _ _ _ _ _ _ _
   | exact ih2 _ _ _ _ _ _ _ _ _ _
   | exact ih3 _ _ _ _ _ _ _ _ _ _ _ _
   | exact ih4 _ _ _ _ _ _ _ _ _ _ _ _ _ _ _ _
   | exact ih5 _ _ _ _ _ _ _ _ _ _ _ _ _ _ _ _ _ _ _ _ _ _
   | exact ih6 _ _ _ _ _ _ _ _ _ _ _ _
   | exact cond_Go.mono _ _ _ _
   | exact cond_Leave.mono _ _ _ _
   | exact cond_Right.mono _ _ _
   | exact cond_Signal.mono _ _ _ _
   | exact cond_Wait.mono _ _ _ _
   | exact handshakerlaw20_awake.mono _
   | exact LeO.none _
   | refine LeO.ite ?_ ?_
   | refine LeO.bind ?_ (fun _ => ?_)
  ·intro y0 y1 y2 y3 y4 y5 y6 y7 y8 y9 y10 y11 y12 y13 y14 y15
   unfold handshakerlaw20_CondKeeps.l2
   repeat' first
   | (with_reducible exact ih0 _ _ _ _ _ _ _ _ _)
   | (with_reducible exact ih1 _ _ _ _ _ _ _ _ _)
   | (with_reducible exact ih2 _ _ _ _ _ _ _ _ _ _)
   | (with_reducible exact ih3 _ _ _ _ _ _ _ _ _ _ _ _)
   | (with_reducible exact ih4 _ _ _ _ _ _ _ _ _ _ _ _ _ _ _ _)
   | (with_reducible exact ih5 _ _ _ _ _ _ _ _ _ _ _ _ _ _ _ _ _ _ _ _ _ _)
   | (with_reducible exact ih6 _ _ _ _ _ _ _ _ _ _ _ _)
   | (with_reducible exact cond_Go.mono _ _ _ _)
   | (with_reducible exact cond_Leave.mono _ _ _ _)
   | (with_reducible exact cond_Right.mono _ _ _)
   | (with_reducible exact cond_Signal.mono _ _ _ _)
   | (with_reducible exact cond_Wait.mono _ _ _ _)
   | (with_reducible exact handshakerlaw20_awake.mono _)
   | (with_reducible exact LeO.refl _)
   | (with_reducible exact LeO.none _)
   | (with_reducible refine LeO.ite ?_ ?_)
   | (with_reducible refine LeO.bind ?_ (fun _ => ?_))
   | exact ih0 _ _ _ _ _ _ _ _ _
   | exact ih1 _ _ _ _ _ _ _ _ _
   | exact ih2 _ _ _ _ _ _ _ _ _ _
   | exact ih3 _ _ _ _ _ _ _ _ _ _ _ _
   | exact ih4 _ _ _ _ _ _ _ _ _ _ _ _ _ _ _ _
   | exact ih5 _ _ _ _ _ _ _ _ _ _ _ _ _ _ _ _ _ _ _ _ _ _
   | exact ih6 _ _ _ _ _ _ _ _ _ _ _ _
   | exact cond_Go.mono _ _ _ _
   | exact cond_Leave.mono _ _ _ _
   | exact cond_Right.mono _ _ _
   | exact cond_Signal.mono _ _ _ _
   | exact cond_Wait.mono _ _ _ _
   | exact handshakerlaw20_awake.mono _
   | exact LeO.none _
   | refine LeO.ite ?_ ?_
   | refine LeO.bind ?_ (fun _ => ?_)
  ·intro y0 y1 y2 y3 y4 y5 y6 y7 y8 y9 y10 y11 y12 y13 y14 y15 y16 y17 y18 y19 y20 y21
   unfold handshakerlaw20_CondKeeps.l3
   repeat' first
   | (with_reducible exact ih0 _ _ _ _ _ _ _ _ _)
   | (with_reducible exact ih1 _ _ _ _ _ _ _ _ _)
   | (with_reducible exact ih2 _ _ _ _ _ _ _ _ _ _)
   | (with_reducible exact ih3 _ _ _ _ _ _ _ _ _ _ _ _)
   | (with_reducible exact ih4 _ _ _ _ _ _ _ _ _ _ _ _ _ _ _ _)
   | (with_reducible exact ih5 _ _ _ _ _ _ _ _ _ _ _ _ _ _ _ _ _ _ _ _ _ _)
   | (with_reducible exact ih6 _ _ _ _ _ _ _ _ _ _ _ _)
   | (with_reducible exact cond_Go.mono _ _ _ _)
   | (with_reducible exact cond_Leave.mono _ _ _ _)
   | (with_reducible exact cond_Right.mono _ _ _)
   | (with_reducible exact cond_Signal.mono _ _ _ _)
   | (with_reducible exact cond_Wait.mono _ _ _ _)
   | (with_reducible exact handshakerlaw20_awake.mono _)
   | (with_reducible exact LeO.refl _)
   | (with_reducible exact LeO.none _)
   | (with_reducible refine LeO.ite ?_ ?_)
   | (with_reducible refine LeO.bind ?_ (fun _ => ?_))
   | exact ih0 _ _ _ _ _ _ _ _ _
   | exact ih1 _ _ _ _ _ _ _ _ _
   | exact ih2 _ _ _ _ _ _ _ _ _ _
   | exact ih3 _ _ _ _ _ _ _ _ _ _ _ _
   | exact ih4 _ _ _ _ _ _ _ _ _ _ _ _ _ _ _ _
   | exact ih5 _ _ _ _ _ _ _ _ _ _ _ _ _ _ _ _ _ _ _ _ _ _
   | exact ih6 _ _ _ _ _ _ _ _ _ _ _ _
   | exact cond_Go.mono _ _ _ _
   | exact cond_Leave.mono _ _ _ _
   | exact cond_Right.mono _ _ _
   | exact cond_Signal.mono _ _ _ _
   | exact cond_Wait.mono _ _ _ _
   | exact handshakerlaw20_awake.mono _
   | exact LeO.none _
   | refine LeO.ite ?_ ?_
   | refine LeO.bind ?_ (fun _ => ?_)
  ·intro y0 y1 y2 y3 y4 y5 y6 y7 y8 y9 y10 y11
   unfold handshakerlaw20_CondKeeps.j1
   repeat' first
   | (with_reducible exact ih0 _ _ _ _ _ _ _ _ _)
   | (with_reducible exact ih1 _ _ _ _ _ _ _ _ _)
   | (with_reducible exact ih2 _ _ _ _ _ _ _ _ _ _)
   | (with_reducible exact ih3 _ _ _ _ _ _ _ _ _ _ _ _)
   | (with_reducible exact ih4 _ _ _ _ _ _ _ _ _ _ _ _ _ _ _ _)
   | (with_reducible exact ih5 _ _ _ _ _ _ _ _ _ _ _ _ _ _ _ _ _ _ _ _ _ _)
   | (with_reducible exact ih6 _ _ _ _ _ _ _ _ _ _ _ _)
   | (with_reducible exact cond_Go.mono _ _ _ _)
   | (with_reducible exact cond_Leave.mono _ _ _ _)
   | (with_reducible exact cond_Right.mono _ _ _)
   | (with_reducible exact cond_Signal.mono _ _ _ _)
   | (with_reducible exact cond_Wait.mono _ _ _ _)
   | (with_reducible exact handshakerlaw20_awake.mono _)
   | (with_reducible exact LeO.refl _)
   | (with_reducible exact LeO.none _)
   | (with_reducible refine LeO.ite ?_ ?_)
   | (with_reducible refine LeO.bind ?_ (fun _ => ?_))
   | exact ih0 _ _ _ _ _ _ _ _ _
   | exact ih1 _ _ _ _ _ _ _ _ _
   | exact ih2 _ _ _ _ _ _ _ _ _ _
   | exact ih3 _ _ _ _ _ _ _ _ _ _ _ _
   | exact ih4 _ _ _ _ _ _ _ _ _ _ _ _ _ _ _ _
   | exact ih5 _ _ _ _ _ _ _ _ _ _ _ _ _ _ _ _ _ _ _ _ _ _
   | exact ih6 _ _ _ _ _ _ _ _ _ _ _ _
   | exact cond_Go.mono _ _ _ _
   | exact cond_Leave.mono _ _ _ _
   | exact cond_Right.mono _ _ _
   | exact cond_Signal.mono _ _ _ _
   | exact cond_Wait.mono _ _ _ _
   | exact handshakerlaw20_awake.mono _
   | exact LeO.none _
   | refine LeO.ite ?_ ?_
   | refine LeO.bind ?_ (fun _ => ?_)
theorem handshakerlaw20_CondKeeps.mono : ∀ a0 k, LeO (handshakerlaw20_CondKeeps.f k a0) (handshakerlaw20_CondKeeps.f (k + 1) a0) := by
 intro a0 k
 obtain ⟨ih0, ih1, ih2, ih3, ih4, ih5, ih6⟩ := handshakerlaw20_CondKeeps.mono_l k
 unfold handshakerlaw20_CondKeeps.f
 repeat' first
   | (with_reducible exact ih0 _ _ _ _ _ _ _ _ _)
   | (with_reducible exact ih1 _ _ _ _ _ _ _ _ _)
   | (with_reducible exact ih2 _ _ _ _ _ _ _ _ _ _)
   | (with_reducible exact ih3 _ _ _ _ _ _ _ _ _ _ _ _)
   | (with_reducible exact ih4 _ _ _ _ _ _ _ _ _ _ _ _ _ _ _ _)
   | (with_reducible exact ih5 _ _ _ _ _ _ _ _ _ _ _ _ _ _ _ _ _ _ _ _ _ _)
   | (with_reducible exact ih6 _ _ _ _ _ _ _ _ _ _ _ _)
   | (with_reducible exact cond_Go.mono _ _ _ _)
   | (with_reducible exact cond_Leave.mono _ _ _ _)
   | (with_reducible exact cond_Right.mono _ _ _)
   | (with_reducible exact cond_Signal.mono _ _ _ _)
   | (with_reducible exact cond_Wait.mono _ _ _ _)
   | (with_reducible exact handshakerlaw20_awake.mono _)
   | (with_reducible exact LeO.refl _)
   | (with_reducible exact LeO.none _)
   | (with_reducible refine LeO.ite ?_ ?_)
   | (with_reducible refine LeO.bind ?_ (fun _ => ?_))
   | exact ih0 _ _ _ _ _ _ _ _ _
   | exact ih1 _ _ _ _ _ _ _ _ _
   | exact ih2 _ _ _ _ _ _ _ _ _ _
   | exact ih3 _ _ _ _ _ _ _ _ _ _ _ _
   | exact ih4 _ _ _ _ _ _ _ _ _ _ _ _ _ _ _ _
   | exact ih5 _ _ _ _ _ _ _ _ _ _ _ _ _ _ _ _ _ _ _ _ _ _
   | exact ih6 _ _ _ _ _ _ _ _ _ _ _ _
   | exact cond_Go.mono _ _ _ _
   | exact cond_Leave.mono _ _ _ _
   | exact cond_Right.mono _ _ _
   | exact cond_Signal.mono _ _ _ _
   | exact cond_Wait.mono _ _ _ _
   | exact handshakerlaw20_awake.mono _
   | exact LeO.none _
   | refine LeO.ite ?_ ?_
   | refine LeO.bind ?_ (fun _ => ?_)
set_option maxHeartbeats 8000000 in
set_option maxRecDepth 100000 in
theorem handshakerlaw20_CondKeeps.calls (k : Nat) (A0 : Option Addr) (c0 : Nat) (l0 : List (S48)) (r : Bool) (w : World) (hr0 : Kd.C k48 w A0 l0.length l0) (hc0 : l0.length ≤ c0) (h : handshakerlaw20_CondKeeps.f k l0 = some r) :
  Calls Try.prog 4 #[.slice A0 l0.length c0] w fun e w' => e = .returned (.bool r) ∧ Below w.heap.size w w' := by
 have hu24 := Try.underlying24
 have hu48 := Try.underlying48
 have HR0 := Aside0.mk hr0
 have HC0 := Aside0.mk hc0
 clear hr0 hc0
 have HB := Aside0.mk (Below.refl w.heap.size w)
 have H : (if (l0.length : Int) > 60 then ((handshakerlaw20_awake.f k).bind fun t257 => (some t257)) else (handshakerlaw20_CondKeeps.l0 k 0 0 0 ([] : List Int) l0 (l0.length : Int) 0 ([] : List Int) ([] : List Int))) = some r := h
 clear h
 by_cases c2 : (l0.length : Int) > 60
 ·rw [if_pos c2] at H
  have c2b0 : decide (60 < (l0.length : Int)) = true := decide_eq_true c2
  have c2b1 : decide (60 < l0.length) = true := decide_eq_true (by omega)
  clear c2
  replace H := Option.bind_eq_some_iff.mp H
  obtain ⟨t257, A30, H⟩ := H
  replace H : (some t257) = some r := H
  have A3 := Aside0.mk A30
  clear A30
  obtain rfl := Option.some.inj H
  go_enter Try.func4, Try.ntmps4
  go_wp2_with (first | ((with_reducible refine gate_callee (f := 9) rfl ?_); refine goesL_ (some 32) rfl rfl Try.func9 (by kernel_rfl) rfl #[] rfl zm ?_; (with_reducible refine (handshakerlaw20_awake.calls k  t257 _ A3.out).mono ?_); rintro e w4 ⟨rfl, hb⟩; refine ⟨_, rfl, ?_⟩; have n0_ := Aside0.mk (below_step (zc0 HB) hb); clear HB; have HB := n0_; clear n0_; (try clear hb); (try clear hb2); (try clear hk); (try clear hi)))
  go_ret
  exact ⟨by first | rfl | (simp [errW_none, errW_some] <;> rfl) | (simp [*, errW_none, errW_some] <;> rfl), by repeat (first | (with_reducible first | exact HB.out | apply below_alloc | apply pw_below_drewN | apply below_drew1) | exact HB.out)⟩
 ·rw [if_neg c2] at H
  have c2b0 : decide (60 < (l0.length : Int)) = false := decide_eq_false c2
  have c2b1 : decide (60 < l0.length) = false := decide_eq_false (by omega)
  clear c2
  have H' := Aside0.mk H
  clear H
  go_enter Try.func4, Try.ntmps4
  go_wp2_with (first | ((with_reducible refine gate_dst (N := 3) rfl ?_); (try (refine gate_guard (by rfl) ?_; dsimp only)); refine box_event ?hg (N := 3) ?hd (cs := #[.slice none 0 0, .slice none 0 0]) (t := 24) ?hr ?_; (case hd => rfl); (case hg => rfl); (case hr => first | (go_simp; done) | (go_simp; rfl)); intro gb258 hg w5 hbox hb; have n0_ := Aside0.mk (below_step (zc0 HB) hb); have n1_ := Aside0.mk (hbox); have n2_ := Aside0.mk ((by rw [hg]; exact (below_size (zc0 HB)) : w.heap.size ≤ gb258)); have n3_ := Aside0.mk ((by rw [hg]; exact (below_size (zc0 HB)) : w.heap.size ≤ gb258)); clear HB; have HB := n0_; have BK258 := n1_; have GW258 := n2_; have GE258 := n3_; clear n0_ n1_ n2_ n3_; clear hb hbox hg))
  go_loopg [4, 5, 6, 7, 35] k (fun kq v4 v5 v6 v7 v35 w' => ∃ (x4_1 : Int) (x5_1 : Int) (x6_1 : Int) (x7_1 : List Int) (x35_1 : Int) (x259000_1 : List Int) (x259001_1 : List Int) (u259000 : Value) (u259001 : Value), v4 = .int .i64 x4_1 ∧ v5 = .int .i64 x5_1 ∧ v6 = .int .i64 x6_1 ∧ v35 = .int .i64 x35_1 ∧ Aside0 (handshakerlaw20_CondKeeps.l0 kq x4_1 x5_1 x6_1 x7_1 l0 (l0.length : Int) x35_1 x259000_1 x259001_1 = some r) ∧ Aside0 (kq ≤ k) ∧ Aside0 (Kd.R (Kd.int .i64) 3 w' w.heap.size (fun _ => True) v7 x7_1) ∧ Aside0 (Kd.V (Kd.int .i64) 3 w' w.heap.size (fun k_ => some k_ ≠ (v7 : Value).ownBlock ∧ k_ ≠ gb258) u259000 x259000_1) ∧ Aside0 (Kd.V (Kd.int .i64) 3 w' w.heap.size (fun k_ => some k_ ≠ (v7 : Value).ownBlock ∧ k_ ≠ gb258) u259001 x259001_1) ∧ Aside0 (w'.heap[gb258]? = some (.cells #[u259000, u259001] 24 (0, 0))) ∧ Aside0 (Below w.heap.size w w'))
  case atStart => exact ⟨(0), (0), (0), (([] : List Int)), (0), (([] : List Int)), (([] : List Int)), (.slice none 0 0), (.slice none 0 0), (by first | rfl | (simp; done) | (simp [*]; done)), (by first | rfl | (simp; done) | (simp [*]; done)), (by first | rfl | (simp; done) | (simp [*]; done)), (by first | rfl | (simp; done) | (simp [*]; done)), H', ⟨Nat.le_refl _⟩, ⟨by first | exact Kd.R_nil _ _ _ _ _ | exact Kd.N_nil _ _ _ _ _ | exact Kd.V_nil _ _ _ _ _ | exact Kd.Q_nil _ _ _ _ _ | exact Kd.S_nil _ _ _ _ _⟩, ⟨Kd.V_nil _ _ _ _ _⟩, ⟨Kd.V_nil _ _ _ _ _⟩, ⟨by (with_reducible repeat (first | refine blk_drewN ?_ _ | refine blk_drew ?_ | refine blk_alloc ?_ _)); exact BK258.out⟩, ⟨by repeat (first | (with_reducible first | exact HB.out | apply below_alloc | apply pw_below_drewN | apply below_drew1 | refine below_set ?_ GE258.out) | exact HB.out)⟩⟩
  case round =>
   clear H'
   try clear c2
   try clear c2b0
   try clear c2b1
   try clear p2
   try clear c4
   obtain ⟨x4_1, x5_1, x6_1, x7_1, x35_1, x259000_1, x259001_1, u259000, u259001, rfl, rfl, rfl, rfl, HA, HK1, HO_7, HO_259000, HO_259001, BK258, HB⟩ := hrel
   cases gk with
   | zero => exact absurd HA.out (by simp [handshakerlaw20_CondKeeps.l0])
   | succ k1 =>
    have H := HA.out
    clear HA
    simp only [handshakerlaw20_CondKeeps.l0] at H
    by_cases c6 : x35_1 < (l0.length : Int)
    ·rw [if_pos c6] at H
     have c6b0 : decide (x35_1 < (l0.length : Int)) = true := decide_eq_true c6
     clear c6
     by_cases c7 : 0 ≤ x35_1
     ·rw [if_pos c7] at H
      have c7b0 : decide (0 ≤ x35_1) = true := decide_eq_true c7
      clear c7
      by_cases c8 : x35_1 < (l0.length : Int)
      ·rw [if_pos c8] at H
       have c8b0 : decide (x35_1 < (l0.length : Int)) = true := decide_eq_true c8
       clear c8
       have HC9 := Aside0.mk H
       clear H
       have p260 : 0 ≤ (x35_1 : Int) := of_decide_eq_true (by first | (with_reducible assumption) | assumption)
       have q260 : x35_1 < (l0.length : Int) := of_decide_eq_true (by first | (with_reducible assumption) | assumption)
       obtain ⟨ad260, e260, hx260_0, hx260_1⟩ := at_T48 HR0.out x35_1 p260 q260
       cases e260
       replace hx260_0 := (HB.out.cell (World.block_lt_of_cell? w _ hx260_0)).trans hx260_0
       replace hx260_1 := (HB.out.cell (World.block_lt_of_cell? w _ hx260_1)).trans hx260_1
       replace p260 := eq_true p260
       replace q260 := eq_true q260
       go_upto_block 2 with (first | ((with_reducible refine gate_dst (N := 9) rfl ?_); (try (refine gate_guard (by rfl) ?_; dsimp only)); refine box_event ?hg (N := 9) ?hd (cs := #[.int .u8 0, .int .u8 0]) (t := 48) ?hr ?_; (case hd => rfl); (case hg => rfl); (case hr => first | (go_simp; done) | (go_simp; rfl)); intro gb261 hg w10 hbox hb; have n0_ := Aside0.mk (Kd.R_below (zR HO_7) hb); have n1_ := Aside0.mk (Kd.V_below (Kd.V_elderB (zV HO_259000) gb261 (Nat.le_of_eq hg.symm)) hb); have n2_ := Aside0.mk (Kd.V_below (Kd.V_elderB (zV HO_259001) gb261 (Nat.le_of_eq hg.symm)) hb); have n3_ := Aside0.mk (blk_below (g := gb258) (o := .cells #[u259000, u259001] 24 (0, 0)) (zb BK258) hb); have n4_ := Aside0.mk (below_step (zc1 HB GE258) hb); have n5_ := Aside0.mk (hbox); have n6_ := Aside0.mk ((by rw [hg]; exact (below_size (zc1 HB GE258)) : w.heap.size ≤ gb261)); have n7_ := Aside0.mk ((by rw [hg]; exact (below_size (zc1 HB GE258)) : w.heap.size ≤ gb261)); have n8_ := Aside0.mk ((by rw [hg]; exact Nat.ne_of_lt (blk_lt (g := gb258) (o := .cells #[u259000, u259001] 24 (0, 0)) (zb BK258)) : gb258 ≠ gb261)); have n9_ := Aside0.mk ((by rw [hg]; exact Nat.ne_of_gt (blk_lt (g := gb258) (o := .cells #[u259000, u259001] 24 (0, 0)) (zb BK258)) : gb261 ≠ gb258)); clear HO_7; clear HO_259000; clear HO_259001; clear BK258; clear HB; have HO_7 := n0_; have HO_259000 := n1_; have HO_259001 := n2_; have BK258 := n3_; have HB := n4_; have BK261 := n5_; have GW261 := n6_; have GE261 := n7_; have NB258_261 := n8_; have NB261_258 := n9_; clear n0_ n1_ n2_ n3_ n4_ n5_ n6_ n7_ n8_ n9_; clear hb hbox hg; have hnb11 := NB261_258.out; have hnc11 := NB258_261.out; have hcz12_0 : w10.cell? ⟨gb261, 0, none⟩ = some (.int .u8 0) := (blk_cell BK261.out 0).trans rfl; have hcz12_1 : w10.cell? ⟨gb261, 1, none⟩ = some (.int .u8 0) := (blk_cell BK261.out 1).trans rfl; have hfz12_0 := blk_frozen BK261.out 0; have hfz12_1 := blk_frozen BK261.out 1; have hcz13_0 : w10.cell? ⟨gb258, 0, none⟩ = some (u259000) := (blk_cell BK258.out 0).trans rfl; have hcz13_1 : w10.cell? ⟨gb258, 1, none⟩ = some (u259001) := (blk_cell BK258.out 1).trans rfl; have hfz13_0 := blk_frozen BK258.out 0; have hfz13_1 := blk_frozen BK258.out 1; obtain ⟨Ao14, co14, eo14⟩ := Kd.V_slice HO_259001.out; subst eo14))
       (try simp only [Act.put, List.setIfInBounds_toArray, List.set_cons_zero, List.set_cons_succ])
       go_cut [4, 5, 6, 7] (fun v4 v5 v6 v7 wc => ∃ (kq : Nat) (x4_8 : Int) (x5_8 : Int) (x6_8 : Int) (x7_8 : List Int) (x259000_8 : List Int) (x259001_8 : List Int) (u259000 : Value) (u259001 : Value), v4 = .int .i64 x4_8 ∧ v5 = .int .i64 x5_8 ∧ v6 = .int .i64 x6_8 ∧ Aside0 (handshakerlaw20_CondKeeps.j2 kq x4_8 x5_8 x6_8 x7_8 l0 (l0.length : Int) x35_1 x259000_8 x259001_8 = some r) ∧ Aside0 (kq ≤ k1) ∧ Aside0 (Kd.R (Kd.int .i64) 3 wc w.heap.size (fun _ => True) v7 x7_8) ∧ Aside0 (Kd.V (Kd.int .i64) 3 wc w.heap.size (fun k_ => some k_ ≠ (v7 : Value).ownBlock ∧ k_ ≠ gb258 ∧ k_ ≠ gb261) u259000 x259000_8) ∧ Aside0 (Kd.V (Kd.int .i64) 3 wc w.heap.size (fun k_ => some k_ ≠ (v7 : Value).ownBlock ∧ k_ ≠ gb258 ∧ k_ ≠ gb261) u259001 x259001_8) ∧ Aside0 (wc.heap[gb258]? = some (.cells #[u259000, u259001] 24 (0, 0))) ∧ Aside0 (wc.heap[gb261]? = some (.cells #[.int .u8 ((rd_T48 l0 x35_1).f0), .int .u8 ((rd_T48 l0 x35_1).f1)] 48 (0, 0))) ∧ Aside0 (Below w.heap.size w wc))
       case first =>
        have H := HC9.out
        clear HC9
        by_cases c15 : (Int.tmod ((rd_T48 l0 x35_1).f0) 4) = 0
        ·rw [if_pos c15] at H
         have c15b0 : ((Int.tmod ((rd_T48 l0 x35_1).f0) 4) == 0) = true := beq_iff_eq.mpr c15
         have c15b1 : ((Int.tmod ((rd_T48 l0 x35_1).f0) 4) != 0) = false := bne_eq_false_iff_eq.mpr c15
         clear c15
         (first | rw [c15b0] | (simp only [i64_w, i32_w]; rw [c15b0]) | skip)
         replace H := Option.bind_eq_some_iff.mp H
         obtain ⟨⟨t262, t265, t268⟩, A160, H⟩ := H
         replace H : (if t268 = 0 then (if x7_1.length < 17592186044416 then (handshakerlaw20_CondKeeps.j2 k1 x4_1 x5_1 x6_1 (x7_1 ++ [wrap64 (1 + (wrap64 (Int.tmod ((rd_T48 l0 x35_1).f1) 8)))]) l0 (l0.length : Int) x35_1 t262 t265) else (none)) else (handshakerlaw20_CondKeeps.j2 k1 x4_1 x5_1 x6_1 x7_1 l0 (l0.length : Int) x35_1 t262 t265)) = some r := H
         have A16 := Aside0.mk A160
         clear A160
         by_cases c17 : t268 = 0
         ·rw [if_pos c17] at H
          have c17b0 : (t268 == 0) = true := beq_iff_eq.mpr c17
          have c17b1 : (t268 != 0) = false := bne_eq_false_iff_eq.mpr c17
          clear c17
          by_cases c18 : x7_1.length < 17592186044416
          ·rw [if_pos c18] at H
           have LMc18 := Aside0.mk c18
           clear c18
           obtain ⟨y270, hy270⟩ : ∃ y_ : List Int, y_ = (x7_1 ++ [wrap64 (1 + (wrap64 (Int.tmod ((rd_T48 l0 x35_1).f1) 8)))]) := ⟨_, rfl⟩
           replace H : (handshakerlaw20_CondKeeps.j2 k1 x4_1 x5_1 x6_1 y270 l0 (l0.length : Int) x35_1 t262 t265) = some r := by first | (rw [hy270]; with_reducible exact H) | (have H2_ := (Option.bind_some _ _).symm.trans H; rw [hy270]; with_reducible exact H2_) | (have H2_ := (Option.bind_some _ _).symm.trans H; with_reducible exact H2_) | with_reducible exact H | (rw [hy270]; exact H) | exact H
           have Ny270 := Aside0.mk hy270
           clear hy270
           have H' := Aside0.mk H
           clear H
           have hnb19 := NB258_261.out
           have hnc19 := NB261_258.out
           have hcz20_0 : w10.cell? ⟨gb258, 0, none⟩ = some (u259000) := (blk_cell BK258.out 0).trans rfl
           have hcz20_1 : w10.cell? ⟨gb258, 1, none⟩ = some (.slice Ao14 x259001_1.length co14) := (blk_cell BK258.out 1).trans rfl
           have hfz20_0 := blk_frozen BK258.out 0
           have hfz20_1 := blk_frozen BK258.out 1
           obtain ⟨Ao21, co21, eo21⟩ := Kd.V_slice HO_259000.out
           subst eo21
           go_wp2_with (first | ((with_reducible refine gate_callee (f := 10) rfl ?_); refine goesL_ (some 65) rfl rfl Try.func10 (by kernel_rfl) rfl #[.agg #[.slice Ao21 x259000_1.length co21, .slice Ao14 x259001_1.length co14], .int .i64 (wrap64 (1 + (wrap64 (Int.tmod ((rd_T48 l0 x35_1).f1) 8))))] rfl zm ?_; (with_reducible refine (cond_Wait.calls k1 (fun k_ => ((some k_ ≠ (u7 : Value).ownBlock ∧ k_ ≠ gb258) ∧ k_ ≠ gb261)) _ _ x259000_1 (fun k_ => ((some k_ ≠ (u7 : Value).ownBlock ∧ k_ ≠ gb258) ∧ k_ ≠ gb261)) _ _ x259001_1 (wrap64 (1 + (wrap64 (Int.tmod ((rd_T48 l0 x35_1).f1) 8)))) t262 t265 t268 _ ?side1 ?side2 A16.out).mono ?_); (case side1 => exact (by (with_reducible repeat (first | apply Kd.V_alloc | apply Kd.V_drewN | apply Kd.V_drew)); exact (Kd.V_mono (Kd.V_far (p := ⟨gb261, 1, none⟩) (Kd.V_far (p := ⟨gb261, 0, none⟩) (Kd.V_mono HO_259000.out (fun k_ hk => (⟨hk, hk.2⟩ : _ ∧ k_ ≠ gb261))) (fun _ hk => hk.2) (.int .u8 ((rd_T48 l0 x35_1).f0))) (fun _ hk => hk.2) (.int .u8 ((rd_T48 l0 x35_1).f1))) (fun _ h_ => h_.1)))); (case side2 => exact (by (with_reducible repeat (first | apply Kd.V_alloc | apply Kd.V_drewN | apply Kd.V_drew)); exact (Kd.V_mono (Kd.V_far (p := ⟨gb261, 1, none⟩) (Kd.V_far (p := ⟨gb261, 0, none⟩) (Kd.V_mono HO_259001.out (fun k_ hk => (⟨hk, hk.2⟩ : _ ∧ k_ ≠ gb261))) (fun _ hk => hk.2) (.int .u8 ((rd_T48 l0 x35_1).f0))) (fun _ hk => hk.2) (.int .u8 ((rd_T48 l0 x35_1).f1))) (fun _ h_ => h_.1)))); rintro e w22 ⟨v263, v266, rfl, ho0, ho1, hb⟩; refine ⟨_, rfl, ?_⟩; have n0_ := Aside0.mk (Kd.R_below (by (with_reducible repeat (first | apply Kd.R_alloc | apply Kd.R_drewN | apply Kd.R_drew)); exact (Kd.R_mono (Kd.R_far (p := ⟨gb261, 1, none⟩) (Kd.R_far (p := ⟨gb261, 0, none⟩) (Kd.R_types HO_7.out BK261.out (by decide)) (fun _ hk => hk.2) (.int .u8 ((rd_T48 l0 x35_1).f0))) (fun _ hk => hk.2) (.int .u8 ((rd_T48 l0 x35_1).f1))) (fun _ h_ => h_.1))) hb); have n1_ := Aside0.mk (Kd.V_below (by (with_reducible repeat (first | apply Kd.V_alloc | apply Kd.V_drewN | apply Kd.V_drew)); exact (Kd.V_mono (Kd.V_far (p := ⟨gb261, 1, none⟩) (Kd.V_far (p := ⟨gb261, 0, none⟩) (Kd.V_mono HO_259000.out (fun k_ hk => (⟨hk, hk.2⟩ : _ ∧ k_ ≠ gb261))) (fun _ hk => hk.2) (.int .u8 ((rd_T48 l0 x35_1).f0))) (fun _ hk => hk.2) (.int .u8 ((rd_T48 l0 x35_1).f1))) (fun _ h_ => h_.1))) hb); have n2_ := Aside0.mk (Kd.V_below (by (with_reducible repeat (first | apply Kd.V_alloc | apply Kd.V_drewN | apply Kd.V_drew)); exact (Kd.V_mono (Kd.V_far (p := ⟨gb261, 1, none⟩) (Kd.V_far (p := ⟨gb261, 0, none⟩) (Kd.V_mono HO_259001.out (fun k_ hk => (⟨hk, hk.2⟩ : _ ∧ k_ ≠ gb261))) (fun _ hk => hk.2) (.int .u8 ((rd_T48 l0 x35_1).f0))) (fun _ hk => hk.2) (.int .u8 ((rd_T48 l0 x35_1).f1))) (fun _ h_ => h_.1))) hb); have n3_ := Aside0.mk (Kd.V_lower (Kd.V_mono (ok' := fun k_ => some k_ ≠ (u7 : Value).ownBlock ∧ k_ ≠ gb258 ∧ k_ ≠ gb261) ho0 (fun k_ hk_ => ⟨Or.elim hk_ (fun hs_ => Or.elim hs_ (fun hs_ => hs_.1.1) (fun hs_ => hs_.1.1)) (fun hn_ => (Kd.fresh' (Kd.R_lt (by (with_reducible repeat (first | apply Kd.R_alloc | apply Kd.R_drewN | apply Kd.R_drew)); exact (Kd.R_mono (Kd.R_far (p := ⟨gb261, 1, none⟩) (Kd.R_far (p := ⟨gb261, 0, none⟩) (Kd.R_types HO_7.out BK261.out (by decide)) (fun _ hk => hk.2) (.int .u8 ((rd_T48 l0 x35_1).f0))) (fun _ hk => hk.2) (.int .u8 ((rd_T48 l0 x35_1).f1))) (fun _ h_ => h_.1)))) k_ hn_)), Or.elim hk_ (fun hs_ => Or.elim hs_ (fun hs_ => hs_.1.2) (fun hs_ => hs_.1.2)) (fun hn_ => (Kd.freshB (g := gb258) (o := .cells #[.slice Ao21 x259000_1.length co21, .slice Ao14 x259001_1.length co14] 24 (0, 0)) (by (with_reducible repeat (first | refine blk_drewN ?_ _ | refine blk_drew ?_ | refine blk_alloc ?_ _)); refine blk_far ?_ NB258_261.out _; (with_reducible repeat (first | refine blk_drewN ?_ _ | refine blk_drew ?_ | refine blk_alloc ?_ _)); refine blk_far ?_ NB258_261.out _; (with_reducible repeat (first | refine blk_drewN ?_ _ | refine blk_drew ?_ | refine blk_alloc ?_ _)); exact BK258.out) k_ hn_)), Or.elim hk_ (fun hs_ => Or.elim hs_ (fun hs_ => hs_.2) (fun hs_ => hs_.2)) (fun hn_ => (Kd.freshB (g := gb261) (o := .cells #[.int .u8 ((rd_T48 l0 x35_1).f0), .int .u8 ((rd_T48 l0 x35_1).f1)] 48 (0, 0)) (by (with_reducible repeat (first | refine blk_drewN ?_ _ | refine blk_drew ?_ | refine blk_alloc ?_ _)); refine blk_put (cs := #[.int .u8 ((rd_T48 l0 x35_1).f0), .int .u8 0]) ?_ 1 _ rfl; (with_reducible repeat (first | refine blk_drewN ?_ _ | refine blk_drew ?_ | refine blk_alloc ?_ _)); refine blk_put (cs := #[.int .u8 0, .int .u8 0]) ?_ 0 _ rfl; (with_reducible repeat (first | refine blk_drewN ?_ _ | refine blk_drew ?_ | refine blk_alloc ?_ _)); exact BK261.out) k_ hn_))⟩)) (below_size (zc2 HB GE258 GE261))); have n4_ := Aside0.mk (Kd.V_lower (Kd.V_mono (ok' := fun k_ => some k_ ≠ (u7 : Value).ownBlock ∧ k_ ≠ gb258 ∧ k_ ≠ gb261) ho1 (fun k_ hk_ => ⟨Or.elim hk_ (fun hs_ => Or.elim hs_ (fun hs_ => hs_.1.1) (fun hs_ => hs_.1.1)) (fun hn_ => (Kd.fresh' (Kd.R_lt (by (with_reducible repeat (first | apply Kd.R_alloc | apply Kd.R_drewN | apply Kd.R_drew)); exact (Kd.R_mono (Kd.R_far (p := ⟨gb261, 1, none⟩) (Kd.R_far (p := ⟨gb261, 0, none⟩) (Kd.R_types HO_7.out BK261.out (by decide)) (fun _ hk => hk.2) (.int .u8 ((rd_T48 l0 x35_1).f0))) (fun _ hk => hk.2) (.int .u8 ((rd_T48 l0 x35_1).f1))) (fun _ h_ => h_.1)))) k_ hn_)), Or.elim hk_ (fun hs_ => Or.elim hs_ (fun hs_ => hs_.1.2) (fun hs_ => hs_.1.2)) (fun hn_ => (Kd.freshB (g := gb258) (o := .cells #[.slice Ao21 x259000_1.length co21, .slice Ao14 x259001_1.length co14] 24 (0, 0)) (by (with_reducible repeat (first | refine blk_drewN ?_ _ | refine blk_drew ?_ | refine blk_alloc ?_ _)); refine blk_far ?_ NB258_261.out _; (with_reducible repeat (first | refine blk_drewN ?_ _ | refine blk_drew ?_ | refine blk_alloc ?_ _)); refine blk_far ?_ NB258_261.out _; (with_reducible repeat (first | refine blk_drewN ?_ _ | refine blk_drew ?_ | refine blk_alloc ?_ _)); exact BK258.out) k_ hn_)), Or.elim hk_ (fun hs_ => Or.elim hs_ (fun hs_ => hs_.2) (fun hs_ => hs_.2)) (fun hn_ => (Kd.freshB (g := gb261) (o := .cells #[.int .u8 ((rd_T48 l0 x35_1).f0), .int .u8 ((rd_T48 l0 x35_1).f1)] 48 (0, 0)) (by (with_reducible repeat (first | refine blk_drewN ?_ _ | refine blk_drew ?_ | refine blk_alloc ?_ _)); refine blk_put (cs := #[.int .u8 ((rd_T48 l0 x35_1).f0), .int .u8 0]) ?_ 1 _ rfl; (with_reducible repeat (first | refine blk_drewN ?_ _ | refine blk_drew ?_ | refine blk_alloc ?_ _)); refine blk_put (cs := #[.int .u8 0, .int .u8 0]) ?_ 0 _ rfl; (with_reducible repeat (first | refine blk_drewN ?_ _ | refine blk_drew ?_ | refine blk_alloc ?_ _)); exact BK261.out) k_ hn_))⟩)) (below_size (zc2 HB GE258 GE261))); have n5_ := Aside0.mk (blk_below (g := gb258) (o := .cells #[.slice Ao21 x259000_1.length co21, .slice Ao14 x259001_1.length co14] 24 (0, 0)) (by (with_reducible repeat (first | refine blk_drewN ?_ _ | refine blk_drew ?_ | refine blk_alloc ?_ _)); refine blk_far ?_ NB258_261.out _; (with_reducible repeat (first | refine blk_drewN ?_ _ | refine blk_drew ?_ | refine blk_alloc ?_ _)); refine blk_far ?_ NB258_261.out _; (with_reducible repeat (first | refine blk_drewN ?_ _ | refine blk_drew ?_ | refine blk_alloc ?_ _)); exact BK258.out) hb); have n6_ := Aside0.mk (blk_below (g := gb261) (o := .cells #[.int .u8 ((rd_T48 l0 x35_1).f0), .int .u8 ((rd_T48 l0 x35_1).f1)] 48 (0, 0)) (by (with_reducible repeat (first | refine blk_drewN ?_ _ | refine blk_drew ?_ | refine blk_alloc ?_ _)); refine blk_put (cs := #[.int .u8 ((rd_T48 l0 x35_1).f0), .int .u8 0]) ?_ 1 _ rfl; (with_reducible repeat (first | refine blk_drewN ?_ _ | refine blk_drew ?_ | refine blk_alloc ?_ _)); refine blk_put (cs := #[.int .u8 0, .int .u8 0]) ?_ 0 _ rfl; (with_reducible repeat (first | refine blk_drewN ?_ _ | refine blk_drew ?_ | refine blk_alloc ?_ _)); exact BK261.out) hb); have n7_ := Aside0.mk (below_step (zc2 HB GE258 GE261) hb); clear HO_7; clear HO_259000; clear HO_259001; clear BK258; clear BK261; clear HB; have HO_7 := n0_; have HO_259000 := n1_; have HO_259001 := n2_; have HO264 := n3_; have HO267 := n4_; have BK258 := n5_; have BK261 := n6_; have HB := n7_; clear n0_ n1_ n2_ n3_ n4_ n5_ n6_ n7_; (try clear hb); (try clear hb2); (try clear hk); (try clear hi); (try clear ho0); (try clear ho1)) | ((with_reducible refine gate_dst (N := 12) rfl ?_); (try (refine gate_guard (by rfl) ?_; dsimp only)); refine box_event ?hg (N := 12) ?hd (cs := #[.slice none 0 0, .slice none 0 0]) (t := 24) ?hr ?_; (case hd => rfl); (case hg => rfl); (case hr => first | (go_simp; done) | (go_simp; rfl)); intro gb269 hg w23 hbox hb; have n0_ := Aside0.mk (Kd.R_below (zR HO_7) hb); have n1_ := Aside0.mk (Kd.V_below (Kd.V_elderB (zV HO_259000) gb269 (Nat.le_of_eq hg.symm)) hb); have n2_ := Aside0.mk (Kd.V_below (Kd.V_elderB (zV HO_259001) gb269 (Nat.le_of_eq hg.symm)) hb); have n3_ := Aside0.mk (Kd.V_below (Kd.V_elderB (zV HO264) gb269 (Nat.le_of_eq hg.symm)) hb); have n4_ := Aside0.mk (Kd.V_below (Kd.V_elderB (zV HO267) gb269 (Nat.le_of_eq hg.symm)) hb); have n5_ := Aside0.mk (blk_below (g := gb258) (o := .cells #[.slice Ao21 x259000_1.length co21, .slice Ao14 x259001_1.length co14] 24 (0, 0)) (zb BK258) hb); have n6_ := Aside0.mk (blk_below (g := gb261) (o := .cells #[.int .u8 ((rd_T48 l0 x35_1).f0), .int .u8 ((rd_T48 l0 x35_1).f1)] 48 (0, 0)) (zb BK261) hb); have n7_ := Aside0.mk (below_step (zc2 HB GE258 GE261) hb); have n8_ := Aside0.mk (hbox); have n9_ := Aside0.mk ((by rw [hg]; exact (below_size (zc2 HB GE258 GE261)) : w.heap.size ≤ gb269)); have n10_ := Aside0.mk ((by rw [hg]; exact (below_size (zc2 HB GE258 GE261)) : w.heap.size ≤ gb269)); have n11_ := Aside0.mk ((by rw [hg]; exact Nat.ne_of_lt (blk_lt (g := gb258) (o := .cells #[.slice Ao21 x259000_1.length co21, .slice Ao14 x259001_1.length co14] 24 (0, 0)) (zb BK258)) : gb258 ≠ gb269)); have n12_ := Aside0.mk ((by rw [hg]; exact Nat.ne_of_gt (blk_lt (g := gb258) (o := .cells #[.slice Ao21 x259000_1.length co21, .slice Ao14 x259001_1.length co14] 24 (0, 0)) (zb BK258)) : gb269 ≠ gb258)); have n13_ := Aside0.mk ((by rw [hg]; exact Nat.ne_of_lt (blk_lt (g := gb261) (o := .cells #[.int .u8 ((rd_T48 l0 x35_1).f0), .int .u8 ((rd_T48 l0 x35_1).f1)] 48 (0, 0)) (zb BK261)) : gb261 ≠ gb269)); have n14_ := Aside0.mk ((by rw [hg]; exact Nat.ne_of_gt (blk_lt (g := gb261) (o := .cells #[.int .u8 ((rd_T48 l0 x35_1).f0), .int .u8 ((rd_T48 l0 x35_1).f1)] 48 (0, 0)) (zb BK261)) : gb269 ≠ gb261)); clear HO_7; clear HO_259000; clear HO_259001; clear HO264; clear HO267; clear BK258; clear BK261; clear HB; have HO_7 := n0_; have HO_259000 := n1_; have HO_259001 := n2_; have HO264 := n3_; have HO267 := n4_; have BK258 := n5_; have BK261 := n6_; have HB := n7_; have BK269 := n8_; have GW269 := n9_; have GE269 := n10_; have NB258_269 := n11_; have NB269_258 := n12_; have NB261_269 := n13_; have NB269_261 := n14_; clear n0_ n1_ n2_ n3_ n4_ n5_ n6_ n7_ n8_ n9_ n10_ n11_ n12_ n13_ n14_; clear hb hbox hg; obtain ⟨Ao24, co24, eo24⟩ := Kd.V_slice HO264.out; subst eo24; have hnb25 := NB269_258.out; have hnc25 := NB258_269.out; have hnb26 := NB269_261.out; have hnc26 := NB261_269.out; have hcz27_0 : w23.cell? ⟨gb269, 0, none⟩ = some (.slice none 0 0) := (blk_cell BK269.out 0).trans rfl; have hcz27_1 : w23.cell? ⟨gb269, 1, none⟩ = some (.slice none 0 0) := (blk_cell BK269.out 1).trans rfl; have hfz27_0 := blk_frozen BK269.out 0; have hfz27_1 := blk_frozen BK269.out 1; obtain ⟨Ao28, co28, eo28⟩ := Kd.V_slice HO267.out; subst eo28) | ((with_reducible refine gate_builtin (b := .append) (xs := #[.tmp 70, .tmp 72]) rfl ?_); (try (refine gate_guard (by rfl) ?_; dsimp only)); at_builtin; refine Kd.R_append (Kd.int .i64) (w0 := w) w.heap.size rfl (.tmp 70) (.tmp 72) 22 3 (.int .i64 0) 8 rfl Try.underlying22 info3 rfl (by decide) (by omega) u7 x7_1 (wrap64 (1 + (wrap64 (Int.tmod ((rd_T48 l0 x35_1).f1) 8)))) [.int .i64 (wrap64 (1 + (wrap64 (Int.tmod ((rd_T48 l0 x35_1).f1) 8))))] (fun _ => True) (fun _ => False) rfl (by first | (go_simp; done) | (go_simp; rfl)) ?aP (fun _ hk => hk.elim) ?aF ?aO ?aB ?aS ?aL ?_; (case aP => exact rfl); (case aB => exact (zc3 HB GE258 GE261 GE269)); (case aF => exact (fun _ _ => trivial)); (case aO => exact (by (with_reducible repeat (first | apply Kd.R_alloc | apply Kd.R_drewN | apply Kd.R_drew)); exact Kd.R_mono (Kd.R_far (p := ⟨gb269, 1, none⟩) (Kd.R_far (p := ⟨gb269, 0, none⟩) (Kd.R_types HO_7.out BK269.out (by decide)) (fun _ hk => hk.2) (.slice Ao24 t262.length co24)) (fun _ hk => hk.2) (.slice Ao28 t265.length co28)) (fun _ hk => trivial))); (case aS => exact (below_size (zc3 HB GE258 GE261 GE269))); (case aL => have := LMc18.out; omega); intro v271 w29 ho hb hg hat; rw [← Ny270.out] at ho; have n0_ := Aside0.mk (Kd.V_afterv (ok := (fun k_ => k_ ≠ gb258 ∧ k_ ≠ gb261 ∧ k_ ≠ gb269)) (by (with_reducible repeat (first | apply Kd.V_alloc | apply Kd.V_drewN | apply Kd.V_drew)); exact Kd.V_mono (Kd.V_far (p := ⟨gb269, 1, none⟩) (Kd.V_far (p := ⟨gb269, 0, none⟩) (Kd.V_mono HO_259000.out (fun k_ hk => (⟨hk, hk.2⟩ : _ ∧ k_ ≠ gb269))) (fun _ hk => hk.2) (.slice Ao24 t262.length co24)) (fun _ hk => hk.2) (.slice Ao28 t265.length co28)) (fun _ hk => ⟨⟨hk.1.1.1.2, ⟨hk.1.1.2, hk.1.2⟩⟩, hk.1.1.1.1⟩)) hg hat); have n1_ := Aside0.mk (Kd.V_afterv (ok := (fun k_ => k_ ≠ gb258 ∧ k_ ≠ gb261 ∧ k_ ≠ gb269)) (by (with_reducible repeat (first | apply Kd.V_alloc | apply Kd.V_drewN | apply Kd.V_drew)); exact Kd.V_mono (Kd.V_far (p := ⟨gb269, 1, none⟩) (Kd.V_far (p := ⟨gb269, 0, none⟩) (Kd.V_mono HO_259001.out (fun k_ hk => (⟨hk, hk.2⟩ : _ ∧ k_ ≠ gb269))) (fun _ hk => hk.2) (.slice Ao24 t262.length co24)) (fun _ hk => hk.2) (.slice Ao28 t265.length co28)) (fun _ hk => ⟨⟨hk.1.1.1.2, ⟨hk.1.1.2, hk.1.2⟩⟩, hk.1.1.1.1⟩)) hg hat); have n2_ := Aside0.mk (blk_grown (g := gb258) (o := .cells #[.slice Ao21 x259000_1.length co21, .slice Ao14 x259001_1.length co14] 24 (0, 0)) (by (with_reducible repeat (first | refine blk_drewN ?_ _ | refine blk_drew ?_ | refine blk_alloc ?_ _)); refine blk_far ?_ NB258_269.out _; (with_reducible repeat (first | refine blk_drewN ?_ _ | refine blk_drew ?_ | refine blk_alloc ?_ _)); refine blk_far ?_ NB258_269.out _; (with_reducible repeat (first | refine blk_drewN ?_ _ | refine blk_drew ?_ | refine blk_alloc ?_ _)); exact BK258.out) hg (Kd.R_ne HO_7.out BK258.out (by decide))); have n3_ := Aside0.mk (blk_grown (g := gb261) (o := .cells #[.int .u8 ((rd_T48 l0 x35_1).f0), .int .u8 ((rd_T48 l0 x35_1).f1)] 48 (0, 0)) (by (with_reducible repeat (first | refine blk_drewN ?_ _ | refine blk_drew ?_ | refine blk_alloc ?_ _)); refine blk_far ?_ NB261_269.out _; (with_reducible repeat (first | refine blk_drewN ?_ _ | refine blk_drew ?_ | refine blk_alloc ?_ _)); refine blk_far ?_ NB261_269.out _; (with_reducible repeat (first | refine blk_drewN ?_ _ | refine blk_drew ?_ | refine blk_alloc ?_ _)); exact BK261.out) hg (Kd.R_ne HO_7.out BK261.out (by decide))); have n4_ := Aside0.mk (Kd.V_afterv (ok := (fun k_ => k_ ≠ gb258 ∧ k_ ≠ gb261 ∧ k_ ≠ gb269)) (by (with_reducible repeat (first | apply Kd.V_alloc | apply Kd.V_drewN | apply Kd.V_drew)); exact Kd.V_mono (Kd.V_far (p := ⟨gb269, 1, none⟩) (Kd.V_far (p := ⟨gb269, 0, none⟩) (Kd.V_mono HO264.out (fun k_ hk => (⟨hk, hk.2⟩ : _ ∧ k_ ≠ gb269))) (fun _ hk => hk.2) (.slice Ao24 t262.length co24)) (fun _ hk => hk.2) (.slice Ao28 t265.length co28)) (fun _ hk => ⟨⟨hk.1.1.2.1, ⟨hk.1.1.2.2, hk.1.2⟩⟩, hk.1.1.1⟩)) hg hat); have n5_ := Aside0.mk (Kd.V_afterv (ok := (fun k_ => k_ ≠ gb258 ∧ k_ ≠ gb261 ∧ k_ ≠ gb269)) (by (with_reducible repeat (first | apply Kd.V_alloc | apply Kd.V_drewN | apply Kd.V_drew)); exact Kd.V_mono (Kd.V_far (p := ⟨gb269, 1, none⟩) (Kd.V_far (p := ⟨gb269, 0, none⟩) (Kd.V_mono HO267.out (fun k_ hk => (⟨hk, hk.2⟩ : _ ∧ k_ ≠ gb269))) (fun _ hk => hk.2) (.slice Ao24 t262.length co24)) (fun _ hk => hk.2) (.slice Ao28 t265.length co28)) (fun _ hk => ⟨⟨hk.1.1.2.1, ⟨hk.1.1.2.2, hk.1.2⟩⟩, hk.1.1.1⟩)) hg hat); have n6_ := Aside0.mk (blk_grown (g := gb269) (o := .cells #[.slice Ao24 t262.length co24, .slice Ao28 t265.length co28] 24 (0, 0)) (by (with_reducible repeat (first | refine blk_drewN ?_ _ | refine blk_drew ?_ | refine blk_alloc ?_ _)); refine blk_put (cs := #[.slice Ao24 t262.length co24, .slice none 0 0]) ?_ 1 _ rfl; (with_reducible repeat (first | refine blk_drewN ?_ _ | refine blk_drew ?_ | refine blk_alloc ?_ _)); refine blk_put (cs := #[.slice none 0 0, .slice none 0 0]) ?_ 0 _ rfl; (with_reducible repeat (first | refine blk_drewN ?_ _ | refine blk_drew ?_ | refine blk_alloc ?_ _)); exact BK269.out) hg (Kd.R_ne HO_7.out BK269.out (by decide))); have n7_ := Aside0.mk (hb); have n8_ := Aside0.mk (ho); clear HO_259000; clear HO_259001; clear BK258; clear BK261; clear HO264; clear HO267; clear BK269; clear HB; clear HO_7; have HO_259000 := n0_; have HO_259001 := n1_; have BK258 := n2_; have BK261 := n3_; have HO264 := n4_; have HO267 := n5_; have BK269 := n6_; have HB := n7_; have HO272 := n8_; clear n0_ n1_ n2_ n3_ n4_ n5_ n6_ n7_ n8_; clear ho hb hg hat; have hcz30_0 : w29.cell? ⟨gb269, 0, none⟩ = some (.slice Ao24 t262.length co24) := (blk_cell BK269.out 0).trans rfl; have hcz30_1 : w29.cell? ⟨gb269, 1, none⟩ = some (.slice Ao28 t265.length co28) := (blk_cell BK269.out 1).trans rfl; have hfz30_0 := blk_frozen BK269.out 0; have hfz30_1 := blk_frozen BK269.out 1; have hcz31_0 : w29.cell? ⟨gb258, 0, none⟩ = some (.slice Ao21 x259000_1.length co21) := (blk_cell BK258.out 0).trans rfl; have hcz31_1 : w29.cell? ⟨gb258, 1, none⟩ = some (.slice Ao14 x259001_1.length co14) := (blk_cell BK258.out 1).trans rfl; have hfz31_0 := blk_frozen BK258.out 0; have hfz31_1 := blk_frozen BK258.out 1))
           go_meet
           case rel => exact ⟨_, (x4_1), (x5_1), (x6_1), (y270), (t262), (t265), (.slice Ao24 t262.length co24), (.slice Ao28 t265.length co28), (by first | rfl | (simp; done) | (simp [*]; done)), (by first | rfl | (simp; done) | (simp [*]; done)), (by first | rfl | (simp; done) | (simp [*]; done)), H', ⟨by have := HK1.out; first | omega | exact Nat.le_refl _⟩, ⟨by (with_reducible repeat (first | apply Kd.R_alloc | apply Kd.R_drewN | apply Kd.R_drew)); exact Kd.R_mono (Kd.R_far (p := ⟨gb258, 1, none⟩) (Kd.R_far (p := ⟨gb258, 0, none⟩) (Kd.R_types HO272.out BK258.out (by decide)) (fun _ hk => hk.2) (.slice Ao24 t262.length co24)) (fun _ hk => hk.2) (.slice Ao28 t265.length co28)) (fun _ hk => trivial)⟩, ⟨by (with_reducible repeat (first | apply Kd.V_alloc | apply Kd.V_drewN | apply Kd.V_drew)); exact Kd.V_mono (Kd.V_far (p := ⟨gb258, 1, none⟩) (Kd.V_far (p := ⟨gb258, 0, none⟩) (Kd.V_mono HO264.out (fun k_ hk => (⟨hk, hk.1.1⟩ : _ ∧ k_ ≠ gb258))) (fun _ hk => hk.2) (.slice Ao24 t262.length co24)) (fun _ hk => hk.2) (.slice Ao28 t265.length co28)) (fun _ hk => ⟨hk.1.2, ⟨hk.1.1.1, hk.1.1.2.1⟩⟩)⟩, ⟨by (with_reducible repeat (first | apply Kd.V_alloc | apply Kd.V_drewN | apply Kd.V_drew)); exact Kd.V_mono (Kd.V_far (p := ⟨gb258, 1, none⟩) (Kd.V_far (p := ⟨gb258, 0, none⟩) (Kd.V_mono HO267.out (fun k_ hk => (⟨hk, hk.1.1⟩ : _ ∧ k_ ≠ gb258))) (fun _ hk => hk.2) (.slice Ao24 t262.length co24)) (fun _ hk => hk.2) (.slice Ao28 t265.length co28)) (fun _ hk => ⟨hk.1.2, ⟨hk.1.1.1, hk.1.1.2.1⟩⟩)⟩, ⟨by (with_reducible repeat (first | refine blk_drewN ?_ _ | refine blk_drew ?_ | refine blk_alloc ?_ _)); refine blk_put (cs := #[.slice Ao24 t262.length co24, .slice Ao14 x259001_1.length co14]) ?_ 1 _ rfl; (with_reducible repeat (first | refine blk_drewN ?_ _ | refine blk_drew ?_ | refine blk_alloc ?_ _)); refine blk_put (cs := #[.slice Ao21 x259000_1.length co21, .slice Ao14 x259001_1.length co14]) ?_ 0 _ rfl; (with_reducible repeat (first | refine blk_drewN ?_ _ | refine blk_drew ?_ | refine blk_alloc ?_ _)); exact BK258.out⟩, ⟨by (with_reducible repeat (first | refine blk_drewN ?_ _ | refine blk_drew ?_ | refine blk_alloc ?_ _)); refine blk_far ?_ NB261_258.out _; (with_reducible repeat (first | refine blk_drewN ?_ _ | refine blk_drew ?_ | refine blk_alloc ?_ _)); refine blk_far ?_ NB261_258.out _; (with_reducible repeat (first | refine blk_drewN ?_ _ | refine blk_drew ?_ | refine blk_alloc ?_ _)); exact BK261.out⟩, ⟨by repeat (first | (with_reducible first | exact HB.out | apply below_alloc | apply pw_below_drewN | apply below_drew1 | refine below_set ?_ GE258.out | refine below_set ?_ GE261.out | refine below_set ?_ GE269.out) | exact HB.out)⟩⟩
          ·rw [if_neg c18] at H
           exact absurd H (by simp)
         ·rw [if_neg c17] at H
          have c17b0 : (t268 == 0) = false := beq_eq_false_iff_ne.mpr c17
          have c17b1 : (t268 != 0) = true := bne_iff_ne.mpr c17
          have H' := Aside0.mk H
          clear H
          have hnb32 := NB258_261.out
          have hnc32 := NB261_258.out
          have hcz33_0 : w10.cell? ⟨gb258, 0, none⟩ = some (u259000) := (blk_cell BK258.out 0).trans rfl
          have hcz33_1 : w10.cell? ⟨gb258, 1, none⟩ = some (.slice Ao14 x259001_1.length co14) := (blk_cell BK258.out 1).trans rfl
          have hfz33_0 := blk_frozen BK258.out 0
          have hfz33_1 := blk_frozen BK258.out 1
          obtain ⟨Ao34, co34, eo34⟩ := Kd.V_slice HO_259000.out
          subst eo34
          go_wp2_with (first | ((with_reducible refine gate_callee (f := 10) rfl ?_); refine goesL_ (some 65) rfl rfl Try.func10 (by kernel_rfl) rfl #[.agg #[.slice Ao34 x259000_1.length co34, .slice Ao14 x259001_1.length co14], .int .i64 (wrap64 (1 + (wrap64 (Int.tmod ((rd_T48 l0 x35_1).f1) 8))))] rfl zm ?_; (with_reducible refine (cond_Wait.calls k1 (fun k_ => ((some k_ ≠ (u7 : Value).ownBlock ∧ k_ ≠ gb258) ∧ k_ ≠ gb261)) _ _ x259000_1 (fun k_ => ((some k_ ≠ (u7 : Value).ownBlock ∧ k_ ≠ gb258) ∧ k_ ≠ gb261)) _ _ x259001_1 (wrap64 (1 + (wrap64 (Int.tmod ((rd_T48 l0 x35_1).f1) 8)))) t262 t265 t268 _ ?side1 ?side2 A16.out).mono ?_); (case side1 => exact (by (with_reducible repeat (first | apply Kd.V_alloc | apply Kd.V_drewN | apply Kd.V_drew)); exact (Kd.V_mono (Kd.V_far (p := ⟨gb261, 1, none⟩) (Kd.V_far (p := ⟨gb261, 0, none⟩) (Kd.V_mono HO_259000.out (fun k_ hk => (⟨hk, hk.2⟩ : _ ∧ k_ ≠ gb261))) (fun _ hk => hk.2) (.int .u8 ((rd_T48 l0 x35_1).f0))) (fun _ hk => hk.2) (.int .u8 ((rd_T48 l0 x35_1).f1))) (fun _ h_ => h_.1)))); (case side2 => exact (by (with_reducible repeat (first | apply Kd.V_alloc | apply Kd.V_drewN | apply Kd.V_drew)); exact (Kd.V_mono (Kd.V_far (p := ⟨gb261, 1, none⟩) (Kd.V_far (p := ⟨gb261, 0, none⟩) (Kd.V_mono HO_259001.out (fun k_ hk => (⟨hk, hk.2⟩ : _ ∧ k_ ≠ gb261))) (fun _ hk => hk.2) (.int .u8 ((rd_T48 l0 x35_1).f0))) (fun _ hk => hk.2) (.int .u8 ((rd_T48 l0 x35_1).f1))) (fun _ h_ => h_.1)))); rintro e w35 ⟨v263, v266, rfl, ho0, ho1, hb⟩; refine ⟨_, rfl, ?_⟩; have n0_ := Aside0.mk (Kd.R_below (by (with_reducible repeat (first | apply Kd.R_alloc | apply Kd.R_drewN | apply Kd.R_drew)); exact (Kd.R_mono (Kd.R_far (p := ⟨gb261, 1, none⟩) (Kd.R_far (p := ⟨gb261, 0, none⟩) (Kd.R_types HO_7.out BK261.out (by decide)) (fun _ hk => hk.2) (.int .u8 ((rd_T48 l0 x35_1).f0))) (fun _ hk => hk.2) (.int .u8 ((rd_T48 l0 x35_1).f1))) (fun _ h_ => h_.1))) hb); have n1_ := Aside0.mk (Kd.V_below (by (with_reducible repeat (first | apply Kd.V_alloc | apply Kd.V_drewN | apply Kd.V_drew)); exact (Kd.V_mono (Kd.V_far (p := ⟨gb261, 1, none⟩) (Kd.V_far (p := ⟨gb261, 0, none⟩) (Kd.V_mono HO_259000.out (fun k_ hk => (⟨hk, hk.2⟩ : _ ∧ k_ ≠ gb261))) (fun _ hk => hk.2) (.int .u8 ((rd_T48 l0 x35_1).f0))) (fun _ hk => hk.2) (.int .u8 ((rd_T48 l0 x35_1).f1))) (fun _ h_ => h_.1))) hb); have n2_ := Aside0.mk (Kd.V_below (by (with_reducible repeat (first | apply Kd.V_alloc | apply Kd.V_drewN | apply Kd.V_drew)); exact (Kd.V_mono (Kd.V_far (p := ⟨gb261, 1, none⟩) (Kd.V_far (p := ⟨gb261, 0, none⟩) (Kd.V_mono HO_259001.out (fun k_ hk => (⟨hk, hk.2⟩ : _ ∧ k_ ≠ gb261))) (fun _ hk => hk.2) (.int .u8 ((rd_T48 l0 x35_1).f0))) (fun _ hk => hk.2) (.int .u8 ((rd_T48 l0 x35_1).f1))) (fun _ h_ => h_.1))) hb); have n3_ := Aside0.mk (Kd.V_lower (Kd.V_mono (ok' := fun k_ => some k_ ≠ (u7 : Value).ownBlock ∧ k_ ≠ gb258 ∧ k_ ≠ gb261) ho0 (fun k_ hk_ => ⟨Or.elim hk_ (fun hs_ => Or.elim hs_ (fun hs_ => hs_.1.1) (fun hs_ => hs_.1.1)) (fun hn_ => (Kd.fresh' (Kd.R_lt (by (with_reducible repeat (first | apply Kd.R_alloc | apply Kd.R_drewN | apply Kd.R_drew)); exact (Kd.R_mono (Kd.R_far (p := ⟨gb261, 1, none⟩) (Kd.R_far (p := ⟨gb261, 0, none⟩) (Kd.R_types HO_7.out BK261.out (by decide)) (fun _ hk => hk.2) (.int .u8 ((rd_T48 l0 x35_1).f0))) (fun _ hk => hk.2) (.int .u8 ((rd_T48 l0 x35_1).f1))) (fun _ h_ => h_.1)))) k_ hn_)), Or.elim hk_ (fun hs_ => Or.elim hs_ (fun hs_ => hs_.1.2) (fun hs_ => hs_.1.2)) (fun hn_ => (Kd.freshB (g := gb258) (o := .cells #[.slice Ao34 x259000_1.length co34, .slice Ao14 x259001_1.length co14] 24 (0, 0)) (by (with_reducible repeat (first | refine blk_drewN ?_ _ | refine blk_drew ?_ | refine blk_alloc ?_ _)); refine blk_far ?_ NB258_261.out _; (with_reducible repeat (first | refine blk_drewN ?_ _ | refine blk_drew ?_ | refine blk_alloc ?_ _)); refine blk_far ?_ NB258_261.out _; (with_reducible repeat (first | refine blk_drewN ?_ _ | refine blk_drew ?_ | refine blk_alloc ?_ _)); exact BK258.out) k_ hn_)), Or.elim hk_ (fun hs_ => Or.elim hs_ (fun hs_ => hs_.2) (fun hs_ => hs_.2)) (fun hn_ => (Kd.freshB (g := gb261) (o := .cells #[.int .u8 ((rd_T48 l0 x35_1).f0), .int .u8 ((rd_T48 l0 x35_1).f1)] 48 (0, 0)) (by (with_reducible repeat (first | refine blk_drewN ?_ _ | refine blk_drew ?_ | refine blk_alloc ?_ _)); refine blk_put (cs := #[.int .u8 ((rd_T48 l0 x35_1).f0), .int .u8 0]) ?_ 1 _ rfl; (with_reducible repeat (first | refine blk_drewN ?_ _ | refine blk_drew ?_ | refine blk_alloc ?_ _)); refine blk_put (cs := #[.int .u8 0, .int .u8 0]) ?_ 0 _ rfl; (with_reducible repeat (first | refine blk_drewN ?_ _ | refine blk_drew ?_ | refine blk_alloc ?_ _)); exact BK261.out) k_ hn_))⟩)) (below_size (zc2 HB GE258 GE261))); have n4_ := Aside0.mk (Kd.V_lower (Kd.V_mono (ok' := fun k_ => some k_ ≠ (u7 : Value).ownBlock ∧ k_ ≠ gb258 ∧ k_ ≠ gb261) ho1 (fun k_ hk_ => ⟨Or.elim hk_ (fun hs_ => Or.elim hs_ (fun hs_ => hs_.1.1) (fun hs_ => hs_.1.1)) (fun hn_ => (Kd.fresh' (Kd.R_lt (by (with_reducible repeat (first | apply Kd.R_alloc | apply Kd.R_drewN | apply Kd.R_drew)); exact (Kd.R_mono (Kd.R_far (p := ⟨gb261, 1, none⟩) (Kd.R_far (p := ⟨gb261, 0, none⟩) (Kd.R_types HO_7.out BK261.out (by decide)) (fun _ hk => hk.2) (.int .u8 ((rd_T48 l0 x35_1).f0))) (fun _ hk => hk.2) (.int .u8 ((rd_T48 l0 x35_1).f1))) (fun _ h_ => h_.1)))) k_ hn_)), Or.elim hk_ (fun hs_ => Or.elim hs_ (fun hs_ => hs_.1.2) (fun hs_ => hs_.1.2)) (fun hn_ => (Kd.freshB (g := gb258) (o := .cells #[.slice Ao34 x259000_1.length co34, .slice Ao14 x259001_1.length co14] 24 (0, 0)) (by (with_reducible repeat (first | refine blk_drewN ?_ _ | refine blk_drew ?_ | refine blk_alloc ?_ _)); refine blk_far ?_ NB258_261.out _; (with_reducible repeat (first | refine blk_drewN ?_ _ | refine blk_drew ?_ | refine blk_alloc ?_ _)); refine blk_far ?_ NB258_261.out _; (with_reducible repeat (first | refine blk_drewN ?_ _ | refine blk_drew ?_ | refine blk_alloc ?_ _)); exact BK258.out) k_ hn_)), Or.elim hk_ (fun hs_ => Or.elim hs_ (fun hs_ => hs_.2) (fun hs_ => hs_.2)) (fun hn_ => (Kd.freshB (g := gb261) (o := .cells #[.int .u8 ((rd_T48 l0 x35_1).f0), .int .u8 ((rd_T48 l0 x35_1).f1)] 48 (0, 0)) (by (with_reducible repeat (first | refine blk_drewN ?_ _ | refine blk_drew ?_ | refine blk_alloc ?_ _)); refine blk_put (cs := #[.int .u8 ((rd_T48 l0 x35_1).f0), .int .u8 0]) ?_ 1 _ rfl; (with_reducible repeat (first | refine blk_drewN ?_ _ | refine blk_drew ?_ | refine blk_alloc ?_ _)); refine blk_put (cs := #[.int .u8 0, .int .u8 0]) ?_ 0 _ rfl; (with_reducible repeat (first | refine blk_drewN ?_ _ | refine blk_drew ?_ | refine blk_alloc ?_ _)); exact BK261.out) k_ hn_))⟩)) (below_size (zc2 HB GE258 GE261))); have n5_ := Aside0.mk (blk_below (g := gb258) (o := .cells #[.slice Ao34 x259000_1.length co34, .slice Ao14 x259001_1.length co14] 24 (0, 0)) (by (with_reducible repeat (first | refine blk_drewN ?_ _ | refine blk_drew ?_ | refine blk_alloc ?_ _)); refine blk_far ?_ NB258_261.out _; (with_reducible repeat (first | refine blk_drewN ?_ _ | refine blk_drew ?_ | refine blk_alloc ?_ _)); refine blk_far ?_ NB258_261.out _; (with_reducible repeat (first | refine blk_drewN ?_ _ | refine blk_drew ?_ | refine blk_alloc ?_ _)); exact BK258.out) hb); have n6_ := Aside0.mk (blk_below (g := gb261) (o := .cells #[.int .u8 ((rd_T48 l0 x35_1).f0), .int .u8 ((rd_T48 l0 x35_1).f1)] 48 (0, 0)) (by (with_reducible repeat (first | refine blk_drewN ?_ _ | refine blk_drew ?_ | refine blk_alloc ?_ _)); refine blk_put (cs := #[.int .u8 ((rd_T48 l0 x35_1).f0), .int .u8 0]) ?_ 1 _ rfl; (with_reducible repeat (first | refine blk_drewN ?_ _ | refine blk_drew ?_ | refine blk_alloc ?_ _)); refine blk_put (cs := #[.int .u8 0, .int .u8 0]) ?_ 0 _ rfl; (with_reducible repeat (first | refine blk_drewN ?_ _ | refine blk_drew ?_ | refine blk_alloc ?_ _)); exact BK261.out) hb); have n7_ := Aside0.mk (below_step (zc2 HB GE258 GE261) hb); clear HO_7; clear HO_259000; clear HO_259001; clear BK258; clear BK261; clear HB; have HO_7 := n0_; have HO_259000 := n1_; have HO_259001 := n2_; have HO264 := n3_; have HO267 := n4_; have BK258 := n5_; have BK261 := n6_; have HB := n7_; clear n0_ n1_ n2_ n3_ n4_ n5_ n6_ n7_; (try clear hb); (try clear hb2); (try clear hk); (try clear hi); (try clear ho0); (try clear ho1)) | ((with_reducible refine gate_dst (N := 12) rfl ?_); (try (refine gate_guard (by rfl) ?_; dsimp only)); refine box_event ?hg (N := 12) ?hd (cs := #[.slice none 0 0, .slice none 0 0]) (t := 24) ?hr ?_; (case hd => rfl); (case hg => rfl); (case hr => first | (go_simp; done) | (go_simp; rfl)); intro gb269 hg w36 hbox hb; have n0_ := Aside0.mk (Kd.R_below (zR HO_7) hb); have n1_ := Aside0.mk (Kd.V_below (Kd.V_elderB (zV HO_259000) gb269 (Nat.le_of_eq hg.symm)) hb); have n2_ := Aside0.mk (Kd.V_below (Kd.V_elderB (zV HO_259001) gb269 (Nat.le_of_eq hg.symm)) hb); have n3_ := Aside0.mk (Kd.V_below (Kd.V_elderB (zV HO264) gb269 (Nat.le_of_eq hg.symm)) hb); have n4_ := Aside0.mk (Kd.V_below (Kd.V_elderB (zV HO267) gb269 (Nat.le_of_eq hg.symm)) hb); have n5_ := Aside0.mk (blk_below (g := gb258) (o := .cells #[.slice Ao34 x259000_1.length co34, .slice Ao14 x259001_1.length co14] 24 (0, 0)) (zb BK258) hb); have n6_ := Aside0.mk (blk_below (g := gb261) (o := .cells #[.int .u8 ((rd_T48 l0 x35_1).f0), .int .u8 ((rd_T48 l0 x35_1).f1)] 48 (0, 0)) (zb BK261) hb); have n7_ := Aside0.mk (below_step (zc2 HB GE258 GE261) hb); have n8_ := Aside0.mk (hbox); have n9_ := Aside0.mk ((by rw [hg]; exact (below_size (zc2 HB GE258 GE261)) : w.heap.size ≤ gb269)); have n10_ := Aside0.mk ((by rw [hg]; exact (below_size (zc2 HB GE258 GE261)) : w.heap.size ≤ gb269)); have n11_ := Aside0.mk ((by rw [hg]; exact Nat.ne_of_lt (blk_lt (g := gb258) (o := .cells #[.slice Ao34 x259000_1.length co34, .slice Ao14 x259001_1.length co14] 24 (0, 0)) (zb BK258)) : gb258 ≠ gb269)); have n12_ := Aside0.mk ((by rw [hg]; exact Nat.ne_of_gt (blk_lt (g := gb258) (o := .cells #[.slice Ao34 x259000_1.length co34, .slice Ao14 x259001_1.length co14] 24 (0, 0)) (zb BK258)) : gb269 ≠ gb258)); have n13_ := Aside0.mk ((by rw [hg]; exact Nat.ne_of_lt (blk_lt (g := gb261) (o := .cells #[.int .u8 ((rd_T48 l0 x35_1).f0), .int .u8 ((rd_T48 l0 x35_1).f1)] 48 (0, 0)) (zb BK261)) : gb261 ≠ gb269)); have n14_ := Aside0.mk ((by rw [hg]; exact Nat.ne_of_gt (blk_lt (g := gb261) (o := .cells #[.int .u8 ((rd_T48 l0 x35_1).f0), .int .u8 ((rd_T48 l0 x35_1).f1)] 48 (0, 0)) (zb BK261)) : gb269 ≠ gb261)); clear HO_7; clear HO_259000; clear HO_259001; clear HO264; clear HO267; clear BK258; clear BK261; clear HB; have HO_7 := n0_; have HO_259000 := n1_; have HO_259001 := n2_; have HO264 := n3_; have HO267 := n4_; have BK258 := n5_; have BK261 := n6_; have HB := n7_; have BK269 := n8_; have GW269 := n9_; have GE269 := n10_; have NB258_269 := n11_; have NB269_258 := n12_; have NB261_269 := n13_; have NB269_261 := n14_; clear n0_ n1_ n2_ n3_ n4_ n5_ n6_ n7_ n8_ n9_ n10_ n11_ n12_ n13_ n14_; clear hb hbox hg; obtain ⟨Ao37, co37, eo37⟩ := Kd.V_slice HO264.out; subst eo37; have hnb38 := NB269_258.out; have hnc38 := NB258_269.out; have hnb39 := NB269_261.out; have hnc39 := NB261_269.out; have hcz40_0 : w36.cell? ⟨gb269, 0, none⟩ = some (.slice none 0 0) := (blk_cell BK269.out 0).trans rfl; have hcz40_1 : w36.cell? ⟨gb269, 1, none⟩ = some (.slice none 0 0) := (blk_cell BK269.out 1).trans rfl; have hfz40_0 := blk_frozen BK269.out 0; have hfz40_1 := blk_frozen BK269.out 1; obtain ⟨Ao41, co41, eo41⟩ := Kd.V_slice HO267.out; subst eo41; have hcz42_0 : w36.cell? ⟨gb258, 0, none⟩ = some (.slice Ao34 x259000_1.length co34) := (blk_cell BK258.out 0).trans rfl; have hcz42_1 : w36.cell? ⟨gb258, 1, none⟩ = some (.slice Ao14 x259001_1.length co14) := (blk_cell BK258.out 1).trans rfl; have hfz42_0 := blk_frozen BK258.out 0; have hfz42_1 := blk_frozen BK258.out 1))
          go_meet
          case rel => exact ⟨_, (x4_1), (x5_1), (x6_1), (x7_1), (t262), (t265), (.slice Ao37 t262.length co37), (.slice Ao41 t265.length co41), (by first | rfl | (simp; done) | (simp [*]; done)), (by first | rfl | (simp; done) | (simp [*]; done)), (by first | rfl | (simp; done) | (simp [*]; done)), H', ⟨by have := HK1.out; first | omega | exact Nat.le_refl _⟩, ⟨by (with_reducible repeat (first | apply Kd.R_alloc | apply Kd.R_drewN | apply Kd.R_drew)); exact Kd.R_mono (Kd.R_far (p := ⟨gb258, 1, none⟩) (Kd.R_far (p := ⟨gb258, 0, none⟩) (Kd.R_far (p := ⟨gb269, 1, none⟩) (Kd.R_far (p := ⟨gb269, 0, none⟩) (Kd.R_types (Kd.R_types HO_7.out BK269.out (by decide)) BK258.out (by decide)) (fun _ hk => hk.1.2) (.slice Ao37 t262.length co37)) (fun _ hk => hk.1.2) (.slice Ao41 t265.length co41)) (fun _ hk => hk.2) (.slice Ao37 t262.length co37)) (fun _ hk => hk.2) (.slice Ao41 t265.length co41)) (fun _ hk => trivial)⟩, ⟨by (with_reducible repeat (first | apply Kd.V_alloc | apply Kd.V_drewN | apply Kd.V_drew)); exact Kd.V_mono (Kd.V_far (p := ⟨gb258, 1, none⟩) (Kd.V_far (p := ⟨gb258, 0, none⟩) (Kd.V_far (p := ⟨gb269, 1, none⟩) (Kd.V_far (p := ⟨gb269, 0, none⟩) (Kd.V_mono (Kd.V_mono HO264.out (fun k_ hk => (⟨hk, hk.2⟩ : _ ∧ k_ ≠ gb269))) (fun k_ hk => (⟨hk, hk.1.1.2.1⟩ : _ ∧ k_ ≠ gb258))) (fun _ hk => hk.1.2) (.slice Ao37 t262.length co37)) (fun _ hk => hk.1.2) (.slice Ao41 t265.length co41)) (fun _ hk => hk.2) (.slice Ao37 t262.length co37)) (fun _ hk => hk.2) (.slice Ao41 t265.length co41)) (fun _ hk => ⟨hk.1.1.1.1, ⟨hk.1.1.1.2.1, hk.1.1.1.2.2⟩⟩)⟩, ⟨by (with_reducible repeat (first | apply Kd.V_alloc | apply Kd.V_drewN | apply Kd.V_drew)); exact Kd.V_mono (Kd.V_far (p := ⟨gb258, 1, none⟩) (Kd.V_far (p := ⟨gb258, 0, none⟩) (Kd.V_far (p := ⟨gb269, 1, none⟩) (Kd.V_far (p := ⟨gb269, 0, none⟩) (Kd.V_mono (Kd.V_mono HO267.out (fun k_ hk => (⟨hk, hk.2⟩ : _ ∧ k_ ≠ gb269))) (fun k_ hk => (⟨hk, hk.1.1.2.1⟩ : _ ∧ k_ ≠ gb258))) (fun _ hk => hk.1.2) (.slice Ao37 t262.length co37)) (fun _ hk => hk.1.2) (.slice Ao41 t265.length co41)) (fun _ hk => hk.2) (.slice Ao37 t262.length co37)) (fun _ hk => hk.2) (.slice Ao41 t265.length co41)) (fun _ hk => ⟨hk.1.1.1.1, ⟨hk.1.1.1.2.1, hk.1.1.1.2.2⟩⟩)⟩, ⟨by (with_reducible repeat (first | refine blk_drewN ?_ _ | refine blk_drew ?_ | refine blk_alloc ?_ _)); refine blk_put (cs := #[.slice Ao37 t262.length co37, .slice Ao14 x259001_1.length co14]) ?_ 1 _ rfl; (with_reducible repeat (first | refine blk_drewN ?_ _ | refine blk_drew ?_ | refine blk_alloc ?_ _)); refine blk_put (cs := #[.slice Ao34 x259000_1.length co34, .slice Ao14 x259001_1.length co14]) ?_ 0 _ rfl; (with_reducible repeat (first | refine blk_drewN ?_ _ | refine blk_drew ?_ | refine blk_alloc ?_ _)); refine blk_far ?_ NB258_269.out _; (with_reducible repeat (first | refine blk_drewN ?_ _ | refine blk_drew ?_ | refine blk_alloc ?_ _)); refine blk_far ?_ NB258_269.out _; (with_reducible repeat (first | refine blk_drewN ?_ _ | refine blk_drew ?_ | refine blk_alloc ?_ _)); exact BK258.out⟩, ⟨by (with_reducible repeat (first | refine blk_drewN ?_ _ | refine blk_drew ?_ | refine blk_alloc ?_ _)); refine blk_far ?_ NB261_258.out _; (with_reducible repeat (first | refine blk_drewN ?_ _ | refine blk_drew ?_ | refine blk_alloc ?_ _)); refine blk_far ?_ NB261_258.out _; (with_reducible repeat (first | refine blk_drewN ?_ _ | refine blk_drew ?_ | refine blk_alloc ?_ _)); refine blk_far ?_ NB261_269.out _; (with_reducible repeat (first | refine blk_drewN ?_ _ | refine blk_drew ?_ | refine blk_alloc ?_ _)); refine blk_far ?_ NB261_269.out _; (with_reducible repeat (first | refine blk_drewN ?_ _ | refine blk_drew ?_ | refine blk_alloc ?_ _)); exact BK261.out⟩, ⟨by repeat (first | (with_reducible first | exact HB.out | apply below_alloc | apply pw_below_drewN | apply below_drew1 | refine below_set ?_ GE258.out | refine below_set ?_ GE261.out | refine below_set ?_ GE269.out) | exact HB.out)⟩⟩
        ·rw [if_neg c15] at H
         have c15b0 : ((Int.tmod ((rd_T48 l0 x35_1).f0) 4) == 0) = false := beq_eq_false_iff_ne.mpr c15
         have c15b1 : ((Int.tmod ((rd_T48 l0 x35_1).f0) 4) != 0) = true := bne_iff_ne.mpr c15
         (first | rw [c15b0] | (simp only [i64_w, i32_w]; rw [c15b0]) | skip)
         by_cases c43 : (Int.tmod ((rd_T48 l0 x35_1).f0) 4) = 1
         ·rw [if_pos c43] at H
          have c43b0 : ((Int.tmod ((rd_T48 l0 x35_1).f0) 4) == 1) = true := beq_iff_eq.mpr c43
          have c43b1 : ((Int.tmod ((rd_T48 l0 x35_1).f0) 4) != 1) = false := bne_eq_false_iff_eq.mpr c43
          clear c43
          replace H := Option.bind_eq_some_iff.mp H
          obtain ⟨⟨t273, t276, t279⟩, A440, H⟩ := H
          replace H : (if t279 = 0 then (handshakerlaw20_CondKeeps.j2 k1 x4_1 (wrap64 (x5_1 + 1)) x6_1 x7_1 l0 (l0.length : Int) x35_1 t273 t276) else (handshakerlaw20_CondKeeps.j2 k1 x4_1 x5_1 x6_1 x7_1 l0 (l0.length : Int) x35_1 t273 t276)) = some r := H
          have A44 := Aside0.mk A440
          clear A440
          by_cases c45 : t279 = 0
          ·rw [if_pos c45] at H
           have c45b0 : (t279 == 0) = true := beq_iff_eq.mpr c45
           have c45b1 : (t279 != 0) = false := bne_eq_false_iff_eq.mpr c45
           clear c45
           have H' := Aside0.mk H
           clear H
           have hnb46 := NB258_261.out
           have hnc46 := NB261_258.out
           have hcz47_0 : w10.cell? ⟨gb258, 0, none⟩ = some (u259000) := (blk_cell BK258.out 0).trans rfl
           have hcz47_1 : w10.cell? ⟨gb258, 1, none⟩ = some (.slice Ao14 x259001_1.length co14) := (blk_cell BK258.out 1).trans rfl
           have hfz47_0 := blk_frozen BK258.out 0
           have hfz47_1 := blk_frozen BK258.out 1
           obtain ⟨Ao48, co48, eo48⟩ := Kd.V_slice HO_259000.out
           subst eo48
           go_wp2_with (first | ((with_reducible refine gate_callee (f := 15) rfl ?_); refine goesL_ (some 80) rfl rfl Try.func15 (by kernel_rfl) rfl #[.agg #[.slice Ao48 x259000_1.length co48, .slice Ao14 x259001_1.length co14], .int .i64 (wrap64 (1 + (wrap64 (Int.tmod ((rd_T48 l0 x35_1).f1) 8))))] rfl zm ?_; (with_reducible refine (cond_Go.calls k1 (fun k_ => ((some k_ ≠ (u7 : Value).ownBlock ∧ k_ ≠ gb258) ∧ k_ ≠ gb261)) _ _ x259000_1 (fun k_ => ((some k_ ≠ (u7 : Value).ownBlock ∧ k_ ≠ gb258) ∧ k_ ≠ gb261)) _ _ x259001_1 (wrap64 (1 + (wrap64 (Int.tmod ((rd_T48 l0 x35_1).f1) 8)))) t273 t276 t279 _ ?side1 ?side2 A44.out).mono ?_); (case side1 => exact (by (with_reducible repeat (first | apply Kd.V_alloc | apply Kd.V_drewN | apply Kd.V_drew)); exact (Kd.V_mono (Kd.V_far (p := ⟨gb261, 1, none⟩) (Kd.V_far (p := ⟨gb261, 0, none⟩) (Kd.V_mono HO_259000.out (fun k_ hk => (⟨hk, hk.2⟩ : _ ∧ k_ ≠ gb261))) (fun _ hk => hk.2) (.int .u8 ((rd_T48 l0 x35_1).f0))) (fun _ hk => hk.2) (.int .u8 ((rd_T48 l0 x35_1).f1))) (fun _ h_ => h_.1)))); (case side2 => exact (by (with_reducible repeat (first | apply Kd.V_alloc | apply Kd.V_drewN | apply Kd.V_drew)); exact (Kd.V_mono (Kd.V_far (p := ⟨gb261, 1, none⟩) (Kd.V_far (p := ⟨gb261, 0, none⟩) (Kd.V_mono HO_259001.out (fun k_ hk => (⟨hk, hk.2⟩ : _ ∧ k_ ≠ gb261))) (fun _ hk => hk.2) (.int .u8 ((rd_T48 l0 x35_1).f0))) (fun _ hk => hk.2) (.int .u8 ((rd_T48 l0 x35_1).f1))) (fun _ h_ => h_.1)))); rintro e w49 ⟨v274, v277, rfl, ho0, ho1, hb⟩; refine ⟨_, rfl, ?_⟩; have n0_ := Aside0.mk (Kd.R_below (by (with_reducible repeat (first | apply Kd.R_alloc | apply Kd.R_drewN | apply Kd.R_drew)); exact (Kd.R_mono (Kd.R_far (p := ⟨gb261, 1, none⟩) (Kd.R_far (p := ⟨gb261, 0, none⟩) (Kd.R_types HO_7.out BK261.out (by decide)) (fun _ hk => hk.2) (.int .u8 ((rd_T48 l0 x35_1).f0))) (fun _ hk => hk.2) (.int .u8 ((rd_T48 l0 x35_1).f1))) (fun _ h_ => h_.1))) hb); have n1_ := Aside0.mk (Kd.V_below (by (with_reducible repeat (first | apply Kd.V_alloc | apply Kd.V_drewN | apply Kd.V_drew)); exact (Kd.V_mono (Kd.V_far (p := ⟨gb261, 1, none⟩) (Kd.V_far (p := ⟨gb261, 0, none⟩) (Kd.V_mono HO_259000.out (fun k_ hk => (⟨hk, hk.2⟩ : _ ∧ k_ ≠ gb261))) (fun _ hk => hk.2) (.int .u8 ((rd_T48 l0 x35_1).f0))) (fun _ hk => hk.2) (.int .u8 ((rd_T48 l0 x35_1).f1))) (fun _ h_ => h_.1))) hb); have n2_ := Aside0.mk (Kd.V_below (by (with_reducible repeat (first | apply Kd.V_alloc | apply Kd.V_drewN | apply Kd.V_drew)); exact (Kd.V_mono (Kd.V_far (p := ⟨gb261, 1, none⟩) (Kd.V_far (p := ⟨gb261, 0, none⟩) (Kd.V_mono HO_259001.out (fun k_ hk => (⟨hk, hk.2⟩ : _ ∧ k_ ≠ gb261))) (fun _ hk => hk.2) (.int .u8 ((rd_T48 l0 x35_1).f0))) (fun _ hk => hk.2) (.int .u8 ((rd_T48 l0 x35_1).f1))) (fun _ h_ => h_.1))) hb); have n3_ := Aside0.mk (Kd.V_lower (Kd.V_mono (ok' := fun k_ => some k_ ≠ (u7 : Value).ownBlock ∧ k_ ≠ gb258 ∧ k_ ≠ gb261) ho0 (fun k_ hk_ => ⟨Or.elim hk_ (fun hs_ => Or.elim hs_ (fun hs_ => hs_.1.1) (fun hs_ => hs_.1.1)) (fun hn_ => (Kd.fresh' (Kd.R_lt (by (with_reducible repeat (first | apply Kd.R_alloc | apply Kd.R_drewN | apply Kd.R_drew)); exact (Kd.R_mono (Kd.R_far (p := ⟨gb261, 1, none⟩) (Kd.R_far (p := ⟨gb261, 0, none⟩) (Kd.R_types HO_7.out BK261.out (by decide)) (fun _ hk => hk.2) (.int .u8 ((rd_T48 l0 x35_1).f0))) (fun _ hk => hk.2) (.int .u8 ((rd_T48 l0 x35_1).f1))) (fun _ h_ => h_.1)))) k_ hn_)), Or.elim hk_ (fun hs_ => Or.elim hs_ (fun hs_ => hs_.1.2) (fun hs_ => hs_.1.2)) (fun hn_ => (Kd.freshB (g := gb258) (o := .cells #[.slice Ao48 x259000_1.length co48, .slice Ao14 x259001_1.length co14] 24 (0, 0)) (by (with_reducible repeat (first | refine blk_drewN ?_ _ | refine blk_drew ?_ | refine blk_alloc ?_ _)); refine blk_far ?_ NB258_261.out _; (with_reducible repeat (first | refine blk_drewN ?_ _ | refine blk_drew ?_ | refine blk_alloc ?_ _)); refine blk_far ?_ NB258_261.out _; (with_reducible repeat (first | refine blk_drewN ?_ _ | refine blk_drew ?_ | refine blk_alloc ?_ _)); exact BK258.out) k_ hn_)), Or.elim hk_ (fun hs_ => Or.elim hs_ (fun hs_ => hs_.2) (fun hs_ => hs_.2)) (fun hn_ => (Kd.freshB (g := gb261) (o := .cells #[.int .u8 ((rd_T48 l0 x35_1).f0), .int .u8 ((rd_T48 l0 x35_1).f1)] 48 (0, 0)) (by (with_reducible repeat (first | refine blk_drewN ?_ _ | refine blk_drew ?_ | refine blk_alloc ?_ _)); refine blk_put (cs := #[.int .u8 ((rd_T48 l0 x35_1).f0), .int .u8 0]) ?_ 1 _ rfl; (with_reducible repeat (first | refine blk_drewN ?_ _ | refine blk_drew ?_ | refine blk_alloc ?_ _)); refine blk_put (cs := #[.int .u8 0, .int .u8 0]) ?_ 0 _ rfl; (with_reducible repeat (first | refine blk_drewN ?_ _ | refine blk_drew ?_ | refine blk_alloc ?_ _)); exact BK261.out) k_ hn_))⟩)) (below_size (zc2 HB GE258 GE261))); have n4_ := Aside0.mk (Kd.V_lower (Kd.V_mono (ok' := fun k_ => some k_ ≠ (u7 : Value).ownBlock ∧ k_ ≠ gb258 ∧ k_ ≠ gb261) ho1 (fun k_ hk_ => ⟨Or.elim hk_ (fun hs_ => Or.elim hs_ (fun hs_ => hs_.1.1) (fun hs_ => hs_.1.1)) (fun hn_ => (Kd.fresh' (Kd.R_lt (by (with_reducible repeat (first | apply Kd.R_alloc | apply Kd.R_drewN | apply Kd.R_drew)); exact (Kd.R_mono (Kd.R_far (p := ⟨gb261, 1, none⟩) (Kd.R_far (p := ⟨gb261, 0, none⟩) (Kd.R_types HO_7.out BK261.out (by decide)) (fun _ hk => hk.2) (.int .u8 ((rd_T48 l0 x35_1).f0))) (fun _ hk => hk.2) (.int .u8 ((rd_T48 l0 x35_1).f1))) (fun _ h_ => h_.1)))) k_ hn_)), Or.elim hk_ (fun hs_ => Or.elim hs_ (fun hs_ => hs_.1.2) (fun hs_ => hs_.1.2)) (fun hn_ => (Kd.freshB (g := gb258) (o := .cells #[.slice Ao48 x259000_1.length co48, .slice Ao14 x259001_1.length co14] 24 (0, 0)) (by (with_reducible repeat (first | refine blk_drewN ?_ _ | refine blk_drew ?_ | refine blk_alloc ?_ _)); refine blk_far ?_ NB258_261.out _; (with_reducible repeat (first | refine blk_drewN ?_ _ | refine blk_drew ?_ | refine blk_alloc ?_ _)); refine blk_far ?_ NB258_261.out _; (with_reducible repeat (first | refine blk_drewN ?_ _ | refine blk_drew ?_ | refine blk_alloc ?_ _)); exact BK258.out) k_ hn_)), Or.elim hk_ (fun hs_ => Or.elim hs_ (fun hs_ => hs_.2) (fun hs_ => hs_.2)) (fun hn_ => (Kd.freshB (g := gb261) (o := .cells #[.int .u8 ((rd_T48 l0 x35_1).f0), .int .u8 ((rd_T48 l0 x35_1).f1)] 48 (0, 0)) (by (with_reducible repeat (first | refine blk_drewN ?_ _ | refine blk_drew ?_ | refine blk_alloc ?_ _)); refine blk_put (cs := #[.int .u8 ((rd_T48 l0 x35_1).f0), .int .u8 0]) ?_ 1 _ rfl; (with_reducible repeat (first | refine blk_drewN ?_ _ | refine blk_drew ?_ | refine blk_alloc ?_ _)); refine blk_put (cs := #[.int .u8 0, .int .u8 0]) ?_ 0 _ rfl; (with_reducible repeat (first | refine blk_drewN ?_ _ | refine blk_drew ?_ | refine blk_alloc ?_ _)); exact BK261.out) k_ hn_))⟩)) (below_size (zc2 HB GE258 GE261))); have n5_ := Aside0.mk (blk_below (g := gb258) (o := .cells #[.slice Ao48 x259000_1.length co48, .slice Ao14 x259001_1.length co14] 24 (0, 0)) (by (with_reducible repeat (first | refine blk_drewN ?_ _ | refine blk_drew ?_ | refine blk_alloc ?_ _)); refine blk_far ?_ NB258_261.out _; (with_reducible repeat (first | refine blk_drewN ?_ _ | refine blk_drew ?_ | refine blk_alloc ?_ _)); refine blk_far ?_ NB258_261.out _; (with_reducible repeat (first | refine blk_drewN ?_ _ | refine blk_drew ?_ | refine blk_alloc ?_ _)); exact BK258.out) hb); have n6_ := Aside0.mk (blk_below (g := gb261) (o := .cells #[.int .u8 ((rd_T48 l0 x35_1).f0), .int .u8 ((rd_T48 l0 x35_1).f1)] 48 (0, 0)) (by (with_reducible repeat (first | refine blk_drewN ?_ _ | refine blk_drew ?_ | refine blk_alloc ?_ _)); refine blk_put (cs := #[.int .u8 ((rd_T48 l0 x35_1).f0), .int .u8 0]) ?_ 1 _ rfl; (with_reducible repeat (first | refine blk_drewN ?_ _ | refine blk_drew ?_ | refine blk_alloc ?_ _)); refine blk_put (cs := #[.int .u8 0, .int .u8 0]) ?_ 0 _ rfl; (with_reducible repeat (first | refine blk_drewN ?_ _ | refine blk_drew ?_ | refine blk_alloc ?_ _)); exact BK261.out) hb); have n7_ := Aside0.mk (below_step (zc2 HB GE258 GE261) hb); clear HO_7; clear HO_259000; clear HO_259001; clear BK258; clear BK261; clear HB; have HO_7 := n0_; have HO_259000 := n1_; have HO_259001 := n2_; have HO275 := n3_; have HO278 := n4_; have BK258 := n5_; have BK261 := n6_; have HB := n7_; clear n0_ n1_ n2_ n3_ n4_ n5_ n6_ n7_; (try clear hb); (try clear hb2); (try clear hk); (try clear hi); (try clear ho0); (try clear ho1)) | ((with_reducible refine gate_dst (N := 14) rfl ?_); (try (refine gate_guard (by rfl) ?_; dsimp only)); refine box_event ?hg (N := 14) ?hd (cs := #[.slice none 0 0, .slice none 0 0]) (t := 24) ?hr ?_; (case hd => rfl); (case hg => rfl); (case hr => first | (go_simp; done) | (go_simp; rfl)); intro gb280 hg w50 hbox hb; have n0_ := Aside0.mk (Kd.R_below (zR HO_7) hb); have n1_ := Aside0.mk (Kd.V_below (Kd.V_elderB (zV HO_259000) gb280 (Nat.le_of_eq hg.symm)) hb); have n2_ := Aside0.mk (Kd.V_below (Kd.V_elderB (zV HO_259001) gb280 (Nat.le_of_eq hg.symm)) hb); have n3_ := Aside0.mk (Kd.V_below (Kd.V_elderB (zV HO275) gb280 (Nat.le_of_eq hg.symm)) hb); have n4_ := Aside0.mk (Kd.V_below (Kd.V_elderB (zV HO278) gb280 (Nat.le_of_eq hg.symm)) hb); have n5_ := Aside0.mk (blk_below (g := gb258) (o := .cells #[.slice Ao48 x259000_1.length co48, .slice Ao14 x259001_1.length co14] 24 (0, 0)) (zb BK258) hb); have n6_ := Aside0.mk (blk_below (g := gb261) (o := .cells #[.int .u8 ((rd_T48 l0 x35_1).f0), .int .u8 ((rd_T48 l0 x35_1).f1)] 48 (0, 0)) (zb BK261) hb); have n7_ := Aside0.mk (below_step (zc2 HB GE258 GE261) hb); have n8_ := Aside0.mk (hbox); have n9_ := Aside0.mk ((by rw [hg]; exact (below_size (zc2 HB GE258 GE261)) : w.heap.size ≤ gb280)); have n10_ := Aside0.mk ((by rw [hg]; exact (below_size (zc2 HB GE258 GE261)) : w.heap.size ≤ gb280)); have n11_ := Aside0.mk ((by rw [hg]; exact Nat.ne_of_lt (blk_lt (g := gb258) (o := .cells #[.slice Ao48 x259000_1.length co48, .slice Ao14 x259001_1.length co14] 24 (0, 0)) (zb BK258)) : gb258 ≠ gb280)); have n12_ := Aside0.mk ((by rw [hg]; exact Nat.ne_of_gt (blk_lt (g := gb258) (o := .cells #[.slice Ao48 x259000_1.length co48, .slice Ao14 x259001_1.length co14] 24 (0, 0)) (zb BK258)) : gb280 ≠ gb258)); have n13_ := Aside0.mk ((by rw [hg]; exact Nat.ne_of_lt (blk_lt (g := gb261) (o := .cells #[.int .u8 ((rd_T48 l0 x35_1).f0), .int .u8 ((rd_T48 l0 x35_1).f1)] 48 (0, 0)) (zb BK261)) : gb261 ≠ gb280)); have n14_ := Aside0.mk ((by rw [hg]; exact Nat.ne_of_gt (blk_lt (g := gb261) (o := .cells #[.int .u8 ((rd_T48 l0 x35_1).f0), .int .u8 ((rd_T48 l0 x35_1).f1)] 48 (0, 0)) (zb BK261)) : gb280 ≠ gb261)); clear HO_7; clear HO_259000; clear HO_259001; clear HO275; clear HO278; clear BK258; clear BK261; clear HB; have HO_7 := n0_; have HO_259000 := n1_; have HO_259001 := n2_; have HO275 := n3_; have HO278 := n4_; have BK258 := n5_; have BK261 := n6_; have HB := n7_; have BK280 := n8_; have GW280 := n9_; have GE280 := n10_; have NB258_280 := n11_; have NB280_258 := n12_; have NB261_280 := n13_; have NB280_261 := n14_; clear n0_ n1_ n2_ n3_ n4_ n5_ n6_ n7_ n8_ n9_ n10_ n11_ n12_ n13_ n14_; clear hb hbox hg; obtain ⟨Ao51, co51, eo51⟩ := Kd.V_slice HO275.out; subst eo51; have hnb52 := NB280_258.out; have hnc52 := NB258_280.out; have hnb53 := NB280_261.out; have hnc53 := NB261_280.out; have hcz54_0 : w50.cell? ⟨gb280, 0, none⟩ = some (.slice none 0 0) := (blk_cell BK280.out 0).trans rfl; have hcz54_1 : w50.cell? ⟨gb280, 1, none⟩ = some (.slice none 0 0) := (blk_cell BK280.out 1).trans rfl; have hfz54_0 := blk_frozen BK280.out 0; have hfz54_1 := blk_frozen BK280.out 1; obtain ⟨Ao55, co55, eo55⟩ := Kd.V_slice HO278.out; subst eo55; have hcz56_0 : w50.cell? ⟨gb258, 0, none⟩ = some (.slice Ao48 x259000_1.length co48) := (blk_cell BK258.out 0).trans rfl; have hcz56_1 : w50.cell? ⟨gb258, 1, none⟩ = some (.slice Ao14 x259001_1.length co14) := (blk_cell BK258.out 1).trans rfl; have hfz56_0 := blk_frozen BK258.out 0; have hfz56_1 := blk_frozen BK258.out 1))
           go_meet
           case rel => exact ⟨_, (x4_1), (wrap64 (x5_1 + 1)), (x6_1), (x7_1), (t273), (t276), (.slice Ao51 t273.length co51), (.slice Ao55 t276.length co55), (by first | rfl | (simp; done) | (simp [*]; done)), (by first | rfl | (simp; done) | (simp [*]; done)), (by first | rfl | (simp; done) | (simp [*]; done)), H', ⟨by have := HK1.out; first | omega | exact Nat.le_refl _⟩, ⟨by (with_reducible repeat (first | apply Kd.R_alloc | apply Kd.R_drewN | apply Kd.R_drew)); exact Kd.R_mono (Kd.R_far (p := ⟨gb258, 1, none⟩) (Kd.R_far (p := ⟨gb258, 0, none⟩) (Kd.R_far (p := ⟨gb280, 1, none⟩) (Kd.R_far (p := ⟨gb280, 0, none⟩) (Kd.R_types (Kd.R_types HO_7.out BK280.out (by decide)) BK258.out (by decide)) (fun _ hk => hk.1.2) (.slice Ao51 t273.length co51)) (fun _ hk => hk.1.2) (.slice Ao55 t276.length co55)) (fun _ hk => hk.2) (.slice Ao51 t273.length co51)) (fun _ hk => hk.2) (.slice Ao55 t276.length co55)) (fun _ hk => trivial)⟩, ⟨by (with_reducible repeat (first | apply Kd.V_alloc | apply Kd.V_drewN | apply Kd.V_drew)); exact Kd.V_mono (Kd.V_far (p := ⟨gb258, 1, none⟩) (Kd.V_far (p := ⟨gb258, 0, none⟩) (Kd.V_far (p := ⟨gb280, 1, none⟩) (Kd.V_far (p := ⟨gb280, 0, none⟩) (Kd.V_mono (Kd.V_mono HO275.out (fun k_ hk => (⟨hk, hk.2⟩ : _ ∧ k_ ≠ gb280))) (fun k_ hk => (⟨hk, hk.1.1.2.1⟩ : _ ∧ k_ ≠ gb258))) (fun _ hk => hk.1.2) (.slice Ao51 t273.length co51)) (fun _ hk => hk.1.2) (.slice Ao55 t276.length co55)) (fun _ hk => hk.2) (.slice Ao51 t273.length co51)) (fun _ hk => hk.2) (.slice Ao55 t276.length co55)) (fun _ hk => ⟨hk.1.1.1.1, ⟨hk.1.1.1.2.1, hk.1.1.1.2.2⟩⟩)⟩, ⟨by (with_reducible repeat (first | apply Kd.V_alloc | apply Kd.V_drewN | apply Kd.V_drew)); exact Kd.V_mono (Kd.V_far (p := ⟨gb258, 1, none⟩) (Kd.V_far (p := ⟨gb258, 0, none⟩) (Kd.V_far (p := ⟨gb280, 1, none⟩) (Kd.V_far (p := ⟨gb280, 0, none⟩) (Kd.V_mono (Kd.V_mono HO278.out (fun k_ hk => (⟨hk, hk.2⟩ : _ ∧ k_ ≠ gb280))) (fun k_ hk => (⟨hk, hk.1.1.2.1⟩ : _ ∧ k_ ≠ gb258))) (fun _ hk => hk.1.2) (.slice Ao51 t273.length co51)) (fun _ hk => hk.1.2) (.slice Ao55 t276.length co55)) (fun _ hk => hk.2) (.slice Ao51 t273.length co51)) (fun _ hk => hk.2) (.slice Ao55 t276.length co55)) (fun _ hk => ⟨hk.1.1.1.1, ⟨hk.1.1.1.2.1, hk.1.1.1.2.2⟩⟩)⟩, ⟨by (with_reducible repeat (first | refine blk_drewN ?_ _ | refine blk_drew ?_ | refine blk_alloc ?_ _)); refine blk_put (cs := #[.slice Ao51 t273.length co51, .slice Ao14 x259001_1.length co14]) ?_ 1 _ rfl; (with_reducible repeat (first | refine blk_drewN ?_ _ | refine blk_drew ?_ | refine blk_alloc ?_ _)); refine blk_put (cs := #[.slice Ao48 x259000_1.length co48, .slice Ao14 x259001_1.length co14]) ?_ 0 _ rfl; (with_reducible repeat (first | refine blk_drewN ?_ _ | refine blk_drew ?_ | refine blk_alloc ?_ _)); refine blk_far ?_ NB258_280.out _; (with_reducible repeat (first | refine blk_drewN ?_ _ | refine blk_drew ?_ | refine blk_alloc ?_ _)); refine blk_far ?_ NB258_280.out _; (with_reducible repeat (first | refine blk_drewN ?_ _ | refine blk_drew ?_ | refine blk_alloc ?_ _)); exact BK258.out⟩, ⟨by (with_reducible repeat (first | refine blk_drewN ?_ _ | refine blk_drew ?_ | refine blk_alloc ?_ _)); refine blk_far ?_ NB261_258.out _; (with_reducible repeat (first | refine blk_drewN ?_ _ | refine blk_drew ?_ | refine blk_alloc ?_ _)); refine blk_far ?_ NB261_258.out _; (with_reducible repeat (first | refine blk_drewN ?_ _ | refine blk_drew ?_ | refine blk_alloc ?_ _)); refine blk_far ?_ NB261_280.out _; (with_reducible repeat (first | refine blk_drewN ?_ _ | refine blk_drew ?_ | refine blk_alloc ?_ _)); refine blk_far ?_ NB261_280.out _; (with_reducible repeat (first | refine blk_drewN ?_ _ | refine blk_drew ?_ | refine blk_alloc ?_ _)); exact BK261.out⟩, ⟨by repeat (first | (with_reducible first | exact HB.out | apply below_alloc | apply pw_below_drewN | apply below_drew1 | refine below_set ?_ GE258.out | refine below_set ?_ GE261.out | refine below_set ?_ GE280.out) | exact HB.out)⟩⟩
          ·rw [if_neg c45] at H
           have c45b0 : (t279 == 0) = false := beq_eq_false_iff_ne.mpr c45
           have c45b1 : (t279 != 0) = true := bne_iff_ne.mpr c45
           have H' := Aside0.mk H
           clear H
           have hnb57 := NB258_261.out
           have hnc57 := NB261_258.out
           have hcz58_0 : w10.cell? ⟨gb258, 0, none⟩ = some (u259000) := (blk_cell BK258.out 0).trans rfl
           have hcz58_1 : w10.cell? ⟨gb258, 1, none⟩ = some (.slice Ao14 x259001_1.length co14) := (blk_cell BK258.out 1).trans rfl
           have hfz58_0 := blk_frozen BK258.out 0
           have hfz58_1 := blk_frozen BK258.out 1
           obtain ⟨Ao59, co59, eo59⟩ := Kd.V_slice HO_259000.out
           subst eo59
           go_wp2_with (first | ((with_reducible refine gate_callee (f := 15) rfl ?_); refine goesL_ (some 80) rfl rfl Try.func15 (by kernel_rfl) rfl #[.agg #[.slice Ao59 x259000_1.length co59, .slice Ao14 x259001_1.length co14], .int .i64 (wrap64 (1 + (wrap64 (Int.tmod ((rd_T48 l0 x35_1).f1) 8))))] rfl zm ?_; (with_reducible refine (cond_Go.calls k1 (fun k_ => ((some k_ ≠ (u7 : Value).ownBlock ∧ k_ ≠ gb258) ∧ k_ ≠ gb261)) _ _ x259000_1 (fun k_ => ((some k_ ≠ (u7 : Value).ownBlock ∧ k_ ≠ gb258) ∧ k_ ≠ gb261)) _ _ x259001_1 (wrap64 (1 + (wrap64 (Int.tmod ((rd_T48 l0 x35_1).f1) 8)))) t273 t276 t279 _ ?side1 ?side2 A44.out).mono ?_); (case side1 => exact (by (with_reducible repeat (first | apply Kd.V_alloc | apply Kd.V_drewN | apply Kd.V_drew)); exact (Kd.V_mono (Kd.V_far (p := ⟨gb261, 1, none⟩) (Kd.V_far (p := ⟨gb261, 0, none⟩) (Kd.V_mono HO_259000.out (fun k_ hk => (⟨hk, hk.2⟩ : _ ∧ k_ ≠ gb261))) (fun _ hk => hk.2) (.int .u8 ((rd_T48 l0 x35_1).f0))) (fun _ hk => hk.2) (.int .u8 ((rd_T48 l0 x35_1).f1))) (fun _ h_ => h_.1)))); (case side2 => exact (by (with_reducible repeat (first | apply Kd.V_alloc | apply Kd.V_drewN | apply Kd.V_drew)); exact (Kd.V_mono (Kd.V_far (p := ⟨gb261, 1, none⟩) (Kd.V_far (p := ⟨gb261, 0, none⟩) (Kd.V_mono HO_259001.out (fun k_ hk => (⟨hk, hk.2⟩ : _ ∧ k_ ≠ gb261))) (fun _ hk => hk.2) (.int .u8 ((rd_T48 l0 x35_1).f0))) (fun _ hk => hk.2) (.int .u8 ((rd_T48 l0 x35_1).f1))) (fun _ h_ => h_.1)))); rintro e w60 ⟨v274, v277, rfl, ho0, ho1, hb⟩; refine ⟨_, rfl, ?_⟩; have n0_ := Aside0.mk (Kd.R_below (by (with_reducible repeat (first | apply Kd.R_alloc | apply Kd.R_drewN | apply Kd.R_drew)); exact (Kd.R_mono (Kd.R_far (p := ⟨gb261, 1, none⟩) (Kd.R_far (p := ⟨gb261, 0, none⟩) (Kd.R_types HO_7.out BK261.out (by decide)) (fun _ hk => hk.2) (.int .u8 ((rd_T48 l0 x35_1).f0))) (fun _ hk => hk.2) (.int .u8 ((rd_T48 l0 x35_1).f1))) (fun _ h_ => h_.1))) hb); have n1_ := Aside0.mk (Kd.V_below (by (with_reducible repeat (first | apply Kd.V_alloc | apply Kd.V_drewN | apply Kd.V_drew)); exact (Kd.V_mono (Kd.V_far (p := ⟨gb261, 1, none⟩) (Kd.V_far (p := ⟨gb261, 0, none⟩) (Kd.V_mono HO_259000.out (fun k_ hk => (⟨hk, hk.2⟩ : _ ∧ k_ ≠ gb261))) (fun _ hk => hk.2) (.int .u8 ((rd_T48 l0 x35_1).f0))) (fun _ hk => hk.2) (.int .u8 ((rd_T48 l0 x35_1).f1))) (fun _ h_ => h_.1))) hb); have n2_ := Aside0.mk (Kd.V_below (by (with_reducible repeat (first | apply Kd.V_alloc | apply Kd.V_drewN | apply Kd.V_drew)); exact (Kd.V_mono (Kd.V_far (p := ⟨gb261, 1, none⟩) (Kd.V_far (p := ⟨gb261, 0, none⟩) (Kd.V_mono HO_259001.out (fun k_ hk => (⟨hk, hk.2⟩ : _ ∧ k_ ≠ gb261))) (fun _ hk => hk.2) (.int .u8 ((rd_T48 l0 x35_1).f0))) (fun _ hk => hk.2) (.int .u8 ((rd_T48 l0 x35_1).f1))) (fun _ h_ => h_.1))) hb); have n3_ := Aside0.mk (Kd.V_lower (Kd.V_mono (ok' := fun k_ => some k_ ≠ (u7 : Value).ownBlock ∧ k_ ≠ gb258 ∧ k_ ≠ gb261) ho0 (fun k_ hk_ => ⟨Or.elim hk_ (fun hs_ => Or.elim hs_ (fun hs_ => hs_.1.1) (fun hs_ => hs_.1.1)) (fun hn_ => (Kd.fresh' (Kd.R_lt (by (with_reducible repeat (first | apply Kd.R_alloc | apply Kd.R_drewN | apply Kd.R_drew)); exact (Kd.R_mono (Kd.R_far (p := ⟨gb261, 1, none⟩) (Kd.R_far (p := ⟨gb261, 0, none⟩) (Kd.R_types HO_7.out BK261.out (by decide)) (fun _ hk => hk.2) (.int .u8 ((rd_T48 l0 x35_1).f0))) (fun _ hk => hk.2) (.int .u8 ((rd_T48 l0 x35_1).f1))) (fun _ h_ => h_.1)))) k_ hn_)), Or.elim hk_ (fun hs_ => Or.elim hs_ (fun hs_ => hs_.1.2) (fun hs_ => hs_.1.2)) (fun hn_ => (Kd.freshB (g := gb258) (o := .cells #[.slice Ao59 x259000_1.length co59, .slice Ao14 x259001_1.length co14] 24 (0, 0)) (by (with_reducible repeat (first | refine blk_drewN ?_ _ | refine blk_drew ?_ | refine blk_alloc ?_ _)); refine blk_far ?_ NB258_261.out _; (with_reducible repeat (first | refine blk_drewN ?_ _ | refine blk_drew ?_ | refine blk_alloc ?_ _)); refine blk_far ?_ NB258_261.out _; (with_reducible repeat (first | refine blk_drewN ?_ _ | refine blk_drew ?_ | refine blk_alloc ?_ _)); exact BK258.out) k_ hn_)), Or.elim hk_ (fun hs_ => Or.elim hs_ (fun hs_ => hs_.2) (fun hs_ => hs_.2)) (fun hn_ => (Kd.freshB (g := gb261) (o := .cells #[.int .u8 ((rd_T48 l0 x35_1).f0), .int .u8 ((rd_T48 l0 x35_1).f1)] 48 (0, 0)) (by (with_reducible repeat (first | refine blk_drewN ?_ _ | refine blk_drew ?_ | refine blk_alloc ?_ _)); refine blk_put (cs := #[.int .u8 ((rd_T48 l0 x35_1).f0), .int .u8 0]) ?_ 1 _ rfl; (with_reducible repeat (first | refine blk_drewN ?_ _ | refine blk_drew ?_ | refine blk_alloc ?_ _)); refine blk_put (cs := #[.int .u8 0, .int .u8 0]) ?_ 0 _ rfl; (with_reducible repeat (first | refine blk_drewN ?_ _ | refine blk_drew ?_ | refine blk_alloc ?_ _)); exact BK261.out) k_ hn_))⟩)) (below_size (zc2 HB GE258 GE261))); have n4_ := Aside0.mk (Kd.V_lower (Kd.V_mono (ok' := fun k_ => some k_ ≠ (u7 : Value).ownBlock ∧ k_ ≠ gb258 ∧ k_ ≠ gb261) ho1 (fun k_ hk_ => ⟨Or.elim hk_ (fun hs_ => Or.elim hs_ (fun hs_ => hs_.1.1) (fun hs_ => hs_.1.1)) (fun hn_ => (Kd.fresh' (Kd.R_lt (by (with_reducible repeat (first | apply Kd.R_alloc | apply Kd.R_drewN | apply Kd.R_drew)); exact (Kd.R_mono (Kd.R_far (p := ⟨gb261, 1, none⟩) (Kd.R_far (p := ⟨gb261, 0, none⟩) (Kd.R_types HO_7.out BK261.out (by decide)) (fun _ hk => hk.2) (.int .u8 ((rd_T48 l0 x35_1).f0))) (fun _ hk => hk.2) (.int .u8 ((rd_T48 l0 x35_1).f1))) (fun _ h_ => h_.1)))) k_ hn_)), Or.elim hk_ (fun hs_ => Or.elim hs_ (fun hs_ => hs_.1.2) (fun hs_ => hs_.1.2)) (fun hn_ => (Kd.freshB (g := gb258) (o := .cells #[.slice Ao59 x259000_1.length co59, .slice Ao14 x259001_1.length co14] 24 (0, 0)) (by (with_reducible repeat (first | refine blk_drewN ?_ _ | refine blk_drew ?_ | refine blk_alloc ?_ _)); refine blk_far ?_ NB258_261.out _; (with_reducible repeat (first | refine blk_drewN ?_ _ | refine blk_drew ?_ | refine blk_alloc ?_ _)); refine blk_far ?_ NB258_261.out _; (with_reducible repeat (first | refine blk_drewN ?_ _ | refine blk_drew ?_ | refine blk_alloc ?_ _)); exact BK258.out) k_ hn_)), Or.elim hk_ (fun hs_ => Or.elim hs_ (fun hs_ => hs_.2) (fun hs_ => hs_.2)) (fun hn_ => (Kd.freshB (g := gb261) (o := .cells #[.int .u8 ((rd_T48 l0 x35_1).f0), .int .u8 ((rd_T48 l0 x35_1).f1)] 48 (0, 0)) (by (with_reducible repeat (first | refine blk_drewN ?_ _ | refine blk_drew ?_ | refine blk_alloc ?_ _)); refine blk_put (cs := #[.int .u8 ((rd_T48 l0 x35_1).f0), .int .u8 0]) ?_ 1 _ rfl; (with_reducible repeat (first | refine blk_drewN ?_ _ | refine blk_drew ?_ | refine blk_alloc ?_ _)); refine blk_put (cs := #[.int .u8 0, .int .u8 0]) ?_ 0 _ rfl; (with_reducible repeat (first | refine blk_drewN ?_ _ | refine blk_drew ?_ | refine blk_alloc ?_ _)); exact BK261.out) k_ hn_))⟩)) (below_size (zc2 HB GE258 GE261))); have n5_ := Aside0.mk (blk_below (g := gb258) (o := .cells #[.slice Ao59 x259000_1.length co59, .slice Ao14 x259001_1.length co14] 24 (0, 0)) (by (with_reducible repeat (first | refine blk_drewN ?_ _ | refine blk_drew ?_ | refine blk_alloc ?_ _)); refine blk_far ?_ NB258_261.out _; (with_reducible repeat (first | refine blk_drewN ?_ _ | refine blk_drew ?_ | refine blk_alloc ?_ _)); refine blk_far ?_ NB258_261.out _; (with_reducible repeat (first | refine blk_drewN ?_ _ | refine blk_drew ?_ | refine blk_alloc ?_ _)); exact BK258.out) hb); have n6_ := Aside0.mk (blk_below (g := gb261) (o := .cells #[.int .u8 ((rd_T48 l0 x35_1).f0), .int .u8 ((rd_T48 l0 x35_1).f1)] 48 (0, 0)) (by (with_reducible repeat (first | refine blk_drewN ?_ _ | refine blk_drew ?_ | refine blk_alloc ?_ _)); refine blk_put (cs := #[.int .u8 ((rd_T48 l0 x35_1).f0), .int .u8 0]) ?_ 1 _ rfl; (with_reducible repeat (first | refine blk_drewN ?_ _ | refine blk_drew ?_ | refine blk_alloc ?_ _)); refine blk_put (cs := #[.int .u8 0, .int .u8 0]) ?_ 0 _ rfl; (with_reducible repeat (first | refine blk_drewN ?_ _ | refine blk_drew ?_ | refine blk_alloc ?_ _)); exact BK261.out) hb); have n7_ := Aside0.mk (below_step (zc2 HB GE258 GE261) hb); clear HO_7; clear HO_259000; clear HO_259001; clear BK258; clear BK261; clear HB; have HO_7 := n0_; have HO_259000 := n1_; have HO_259001 := n2_; have HO275 := n3_; have HO278 := n4_; have BK258 := n5_; have BK261 := n6_; have HB := n7_; clear n0_ n1_ n2_ n3_ n4_ n5_ n6_ n7_; (try clear hb); (try clear hb2); (try clear hk); (try clear hi); (try clear ho0); (try clear ho1)) | ((with_reducible refine gate_dst (N := 14) rfl ?_); (try (refine gate_guard (by rfl) ?_; dsimp only)); refine box_event ?hg (N := 14) ?hd (cs := #[.slice none 0 0, .slice none 0 0]) (t := 24) ?hr ?_; (case hd => rfl); (case hg => rfl); (case hr => first | (go_simp; done) | (go_simp; rfl)); intro gb280 hg w61 hbox hb; have n0_ := Aside0.mk (Kd.R_below (zR HO_7) hb); have n1_ := Aside0.mk (Kd.V_below (Kd.V_elderB (zV HO_259000) gb280 (Nat.le_of_eq hg.symm)) hb); have n2_ := Aside0.mk (Kd.V_below (Kd.V_elderB (zV HO_259001) gb280 (Nat.le_of_eq hg.symm)) hb); have n3_ := Aside0.mk (Kd.V_below (Kd.V_elderB (zV HO275) gb280 (Nat.le_of_eq hg.symm)) hb); have n4_ := Aside0.mk (Kd.V_below (Kd.V_elderB (zV HO278) gb280 (Nat.le_of_eq hg.symm)) hb); have n5_ := Aside0.mk (blk_below (g := gb258) (o := .cells #[.slice Ao59 x259000_1.length co59, .slice Ao14 x259001_1.length co14] 24 (0, 0)) (zb BK258) hb); have n6_ := Aside0.mk (blk_below (g := gb261) (o := .cells #[.int .u8 ((rd_T48 l0 x35_1).f0), .int .u8 ((rd_T48 l0 x35_1).f1)] 48 (0, 0)) (zb BK261) hb); have n7_ := Aside0.mk (below_step (zc2 HB GE258 GE261) hb); have n8_ := Aside0.mk (hbox); have n9_ := Aside0.mk ((by rw [hg]; exact (below_size (zc2 HB GE258 GE261)) : w.heap.size ≤ gb280)); have n10_ := Aside0.mk ((by rw [hg]; exact (below_size (zc2 HB GE258 GE261)) : w.heap.size ≤ gb280)); have n11_ := Aside0.mk ((by rw [hg]; exact Nat.ne_of_lt (blk_lt (g := gb258) (o := .cells #[.slice Ao59 x259000_1.length co59, .slice Ao14 x259001_1.length co14] 24 (0, 0)) (zb BK258)) : gb258 ≠ gb280)); have n12_ := Aside0.mk ((by rw [hg]; exact Nat.ne_of_gt (blk_lt (g := gb258) (o := .cells #[.slice Ao59 x259000_1.length co59, .slice Ao14 x259001_1.length co14] 24 (0, 0)) (zb BK258)) : gb280 ≠ gb258)); have n13_ := Aside0.mk ((by rw [hg]; exact Nat.ne_of_lt (blk_lt (g := gb261) (o := .cells #[.int .u8 ((rd_T48 l0 x35_1).f0), .int .u8 ((rd_T48 l0 x35_1).f1)] 48 (0, 0)) (zb BK261)) : gb261 ≠ gb280)); have n14_ := Aside0.mk ((by rw [hg]; exact Nat.ne_of_gt (blk_lt (g := gb261) (o := .cells #[.int .u8 ((rd_T48 l0 x35_1).f0), .int .u8 ((rd_T48 l0 x35_1).f1)] 48 (0, 0)) (zb BK261)) : gb280 ≠ gb261)); clear HO_7; clear HO_259000; clear HO_259001; clear HO275; clear HO278; clear BK258; clear BK261; clear HB; have HO_7 := n0_; have HO_259000 := n1_; have HO_259001 := n2_; have HO275 := n3_; have HO278 := n4_; have BK258 := n5_; have BK261 := n6_; have HB := n7_; have BK280 := n8_; have GW280 := n9_; have GE280 := n10_; have NB258_280 := n11_; have NB280_258 := n12_; have NB261_280 := n13_; have NB280_261 := n14_; clear n0_ n1_ n2_ n3_ n4_ n5_ n6_ n7_ n8_ n9_ n10_ n11_ n12_ n13_ n14_; clear hb hbox hg; obtain ⟨Ao62, co62, eo62⟩ := Kd.V_slice HO275.out; subst eo62; have hnb63 := NB280_258.out; have hnc63 := NB258_280.out; have hnb64 := NB280_261.out; have hnc64 := NB261_280.out; have hcz65_0 : w61.cell? ⟨gb280, 0, none⟩ = some (.slice none 0 0) := (blk_cell BK280.out 0).trans rfl; have hcz65_1 : w61.cell? ⟨gb280, 1, none⟩ = some (.slice none 0 0) := (blk_cell BK280.out 1).trans rfl; have hfz65_0 := blk_frozen BK280.out 0; have hfz65_1 := blk_frozen BK280.out 1; obtain ⟨Ao66, co66, eo66⟩ := Kd.V_slice HO278.out; subst eo66; have hcz67_0 : w61.cell? ⟨gb258, 0, none⟩ = some (.slice Ao59 x259000_1.length co59) := (blk_cell BK258.out 0).trans rfl; have hcz67_1 : w61.cell? ⟨gb258, 1, none⟩ = some (.slice Ao14 x259001_1.length co14) := (blk_cell BK258.out 1).trans rfl; have hfz67_0 := blk_frozen BK258.out 0; have hfz67_1 := blk_frozen BK258.out 1))
           go_meet
           case rel => exact ⟨_, (x4_1), (x5_1), (x6_1), (x7_1), (t273), (t276), (.slice Ao62 t273.length co62), (.slice Ao66 t276.length co66), (by first | rfl | (simp; done) | (simp [*]; done)), (by first | rfl | (simp; done) | (simp [*]; done)), (by first | rfl | (simp; done) | (simp [*]; done)), H', ⟨by have := HK1.out; first | omega | exact Nat.le_refl _⟩, ⟨by (with_reducible repeat (first | apply Kd.R_alloc | apply Kd.R_drewN | apply Kd.R_drew)); exact Kd.R_mono (Kd.R_far (p := ⟨gb258, 1, none⟩) (Kd.R_far (p := ⟨gb258, 0, none⟩) (Kd.R_far (p := ⟨gb280, 1, none⟩) (Kd.R_far (p := ⟨gb280, 0, none⟩) (Kd.R_types (Kd.R_types HO_7.out BK280.out (by decide)) BK258.out (by decide)) (fun _ hk => hk.1.2) (.slice Ao62 t273.length co62)) (fun _ hk => hk.1.2) (.slice Ao66 t276.length co66)) (fun _ hk => hk.2) (.slice Ao62 t273.length co62)) (fun _ hk => hk.2) (.slice Ao66 t276.length co66)) (fun _ hk => trivial)⟩, ⟨by (with_reducible repeat (first | apply Kd.V_alloc | apply Kd.V_drewN | apply Kd.V_drew)); exact Kd.V_mono (Kd.V_far (p := ⟨gb258, 1, none⟩) (Kd.V_far (p := ⟨gb258, 0, none⟩) (Kd.V_far (p := ⟨gb280, 1, none⟩) (Kd.V_far (p := ⟨gb280, 0, none⟩) (Kd.V_mono (Kd.V_mono HO275.out (fun k_ hk => (⟨hk, hk.2⟩ : _ ∧ k_ ≠ gb280))) (fun k_ hk => (⟨hk, hk.1.1.2.1⟩ : _ ∧ k_ ≠ gb258))) (fun _ hk => hk.1.2) (.slice Ao62 t273.length co62)) (fun _ hk => hk.1.2) (.slice Ao66 t276.length co66)) (fun _ hk => hk.2) (.slice Ao62 t273.length co62)) (fun _ hk => hk.2) (.slice Ao66 t276.length co66)) (fun _ hk => ⟨hk.1.1.1.1, ⟨hk.1.1.1.2.1, hk.1.1.1.2.2⟩⟩)⟩, ⟨by (with_reducible repeat (first | apply Kd.V_alloc | apply Kd.V_drewN | apply Kd.V_drew)); exact Kd.V_mono (Kd.V_far (p := ⟨gb258, 1, none⟩) (Kd.V_far (p := ⟨gb258, 0, none⟩) (Kd.V_far (p := ⟨gb280, 1, none⟩) (Kd.V_far (p := ⟨gb280, 0, none⟩) (Kd.V_mono (Kd.V_mono HO278.out (fun k_ hk => (⟨hk, hk.2⟩ : _ ∧ k_ ≠ gb280))) (fun k_ hk => (⟨hk, hk.1.1.2.1⟩ : _ ∧ k_ ≠ gb258))) (fun _ hk => hk.1.2) (.slice Ao62 t273.length co62)) (fun _ hk => hk.1.2) (.slice Ao66 t276.length co66)) (fun _ hk => hk.2) (.slice Ao62 t273.length co62)) (fun _ hk => hk.2) (.slice Ao66 t276.length co66)) (fun _ hk => ⟨hk.1.1.1.1, ⟨hk.1.1.1.2.1, hk.1.1.1.2.2⟩⟩)⟩, ⟨by (with_reducible repeat (first | refine blk_drewN ?_ _ | refine blk_drew ?_ | refine blk_alloc ?_ _)); refine blk_put (cs := #[.slice Ao62 t273.length co62, .slice Ao14 x259001_1.length co14]) ?_ 1 _ rfl; (with_reducible repeat (first | refine blk_drewN ?_ _ | refine blk_drew ?_ | refine blk_alloc ?_ _)); refine blk_put (cs := #[.slice Ao59 x259000_1.length co59, .slice Ao14 x259001_1.length co14]) ?_ 0 _ rfl; (with_reducible repeat (first | refine blk_drewN ?_ _ | refine blk_drew ?_ | refine blk_alloc ?_ _)); refine blk_far ?_ NB258_280.out _; (with_reducible repeat (first | refine blk_drewN ?_ _ | refine blk_drew ?_ | refine blk_alloc ?_ _)); refine blk_far ?_ NB258_280.out _; (with_reducible repeat (first | refine blk_drewN ?_ _ | refine blk_drew ?_ | refine blk_alloc ?_ _)); exact BK258.out⟩, ⟨by (with_reducible repeat (first | refine blk_drewN ?_ _ | refine blk_drew ?_ | refine blk_alloc ?_ _)); refine blk_far ?_ NB261_258.out _; (with_reducible repeat (first | refine blk_drewN ?_ _ | refine blk_drew ?_ | refine blk_alloc ?_ _)); refine blk_far ?_ NB261_258.out _; (with_reducible repeat (first | refine blk_drewN ?_ _ | refine blk_drew ?_ | refine blk_alloc ?_ _)); refine blk_far ?_ NB261_280.out _; (with_reducible repeat (first | refine blk_drewN ?_ _ | refine blk_drew ?_ | refine blk_alloc ?_ _)); refine blk_far ?_ NB261_280.out _; (with_reducible repeat (first | refine blk_drewN ?_ _ | refine blk_drew ?_ | refine blk_alloc ?_ _)); exact BK261.out⟩, ⟨by repeat (first | (with_reducible first | exact HB.out | apply below_alloc | apply pw_below_drewN | apply below_drew1 | refine below_set ?_ GE258.out | refine below_set ?_ GE261.out | refine below_set ?_ GE280.out) | exact HB.out)⟩⟩
         ·rw [if_neg c43] at H
          have c43b0 : ((Int.tmod ((rd_T48 l0 x35_1).f0) 4) == 1) = false := beq_eq_false_iff_ne.mpr c43
          have c43b1 : ((Int.tmod ((rd_T48 l0 x35_1).f0) 4) != 1) = true := bne_iff_ne.mpr c43
          by_cases c68 : (Int.tmod ((rd_T48 l0 x35_1).f0) 4) = 2
          ·rw [if_pos c68] at H
           have c68b0 : ((Int.tmod ((rd_T48 l0 x35_1).f0) 4) == 2) = true := beq_iff_eq.mpr c68
           have c68b1 : ((Int.tmod ((rd_T48 l0 x35_1).f0) 4) != 2) = false := bne_eq_false_iff_eq.mpr c68
           clear c68
           replace H := Option.bind_eq_some_iff.mp H
           obtain ⟨⟨t281, t284, t287, t288⟩, A690, H⟩ := H
           replace H : (if t288 = 0 then (if t287 = true then (handshakerlaw20_CondKeeps.j1 k1 x4_1 x5_1 x6_1 x7_1 l0 (l0.length : Int) x35_1 false x259000_1 x259001_1 t281 t284) else (handshakerlaw20_CondKeeps.j1 k1 x4_1 x5_1 x6_1 x7_1 l0 (l0.length : Int) x35_1 (decide ((t284.length : Int) < (x259001_1.length : Int))) x259000_1 x259001_1 t281 t284)) else (handshakerlaw20_CondKeeps.j1 k1 x4_1 x5_1 x6_1 x7_1 l0 (l0.length : Int) x35_1 false x259000_1 x259001_1 t281 t284)) = some r := H
           have A69 := Aside0.mk A690
           clear A690
           have HC70 := Aside0.mk H
           clear H
           have hnb71 := NB258_261.out
           have hnc71 := NB261_258.out
           have hcz72_0 : w10.cell? ⟨gb258, 0, none⟩ = some (u259000) := (blk_cell BK258.out 0).trans rfl
           have hcz72_1 : w10.cell? ⟨gb258, 1, none⟩ = some (.slice Ao14 x259001_1.length co14) := (blk_cell BK258.out 1).trans rfl
           have hfz72_0 := blk_frozen BK258.out 0
           have hfz72_1 := blk_frozen BK258.out 1
           obtain ⟨Ao73, co73, eo73⟩ := Kd.V_slice HO_259000.out
           subst eo73
           go_upto_region 27 with (first | ((with_reducible refine gate_callee (f := 17) rfl ?_); refine goesL_ (some 93) rfl rfl Try.func17 (by kernel_rfl) rfl #[.agg #[.slice Ao73 x259000_1.length co73, .slice Ao14 x259001_1.length co14], .int .i64 (wrap64 (1 + (wrap64 (Int.tmod ((rd_T48 l0 x35_1).f1) 8))))] rfl zm ?_; (with_reducible refine (cond_Leave.calls k1 (fun k_ => ((some k_ ≠ (u7 : Value).ownBlock ∧ k_ ≠ gb258) ∧ k_ ≠ gb261)) _ _ x259000_1 (fun k_ => ((some k_ ≠ (u7 : Value).ownBlock ∧ k_ ≠ gb258) ∧ k_ ≠ gb261)) _ _ x259001_1 (wrap64 (1 + (wrap64 (Int.tmod ((rd_T48 l0 x35_1).f1) 8)))) t281 t284 t287 t288 _ ?side1 ?side2 A69.out).mono ?_); (case side1 => exact (by (with_reducible repeat (first | apply Kd.V_alloc | apply Kd.V_drewN | apply Kd.V_drew)); exact (Kd.V_mono (Kd.V_far (p := ⟨gb261, 1, none⟩) (Kd.V_far (p := ⟨gb261, 0, none⟩) (Kd.V_mono HO_259000.out (fun k_ hk => (⟨hk, hk.2⟩ : _ ∧ k_ ≠ gb261))) (fun _ hk => hk.2) (.int .u8 ((rd_T48 l0 x35_1).f0))) (fun _ hk => hk.2) (.int .u8 ((rd_T48 l0 x35_1).f1))) (fun _ h_ => h_.1)))); (case side2 => exact (by (with_reducible repeat (first | apply Kd.V_alloc | apply Kd.V_drewN | apply Kd.V_drew)); exact (Kd.V_mono (Kd.V_far (p := ⟨gb261, 1, none⟩) (Kd.V_far (p := ⟨gb261, 0, none⟩) (Kd.V_mono HO_259001.out (fun k_ hk => (⟨hk, hk.2⟩ : _ ∧ k_ ≠ gb261))) (fun _ hk => hk.2) (.int .u8 ((rd_T48 l0 x35_1).f0))) (fun _ hk => hk.2) (.int .u8 ((rd_T48 l0 x35_1).f1))) (fun _ h_ => h_.1)))); rintro e w74 ⟨v282, v285, rfl, ho0, ho1, hb⟩; refine ⟨_, rfl, ?_⟩; have n0_ := Aside0.mk (Kd.R_below (by (with_reducible repeat (first | apply Kd.R_alloc | apply Kd.R_drewN | apply Kd.R_drew)); exact (Kd.R_mono (Kd.R_far (p := ⟨gb261, 1, none⟩) (Kd.R_far (p := ⟨gb261, 0, none⟩) (Kd.R_types HO_7.out BK261.out (by decide)) (fun _ hk => hk.2) (.int .u8 ((rd_T48 l0 x35_1).f0))) (fun _ hk => hk.2) (.int .u8 ((rd_T48 l0 x35_1).f1))) (fun _ h_ => h_.1))) hb); have n1_ := Aside0.mk (Kd.V_below (by (with_reducible repeat (first | apply Kd.V_alloc | apply Kd.V_drewN | apply Kd.V_drew)); exact (Kd.V_mono (Kd.V_far (p := ⟨gb261, 1, none⟩) (Kd.V_far (p := ⟨gb261, 0, none⟩) (Kd.V_mono HO_259000.out (fun k_ hk => (⟨hk, hk.2⟩ : _ ∧ k_ ≠ gb261))) (fun _ hk => hk.2) (.int .u8 ((rd_T48 l0 x35_1).f0))) (fun _ hk => hk.2) (.int .u8 ((rd_T48 l0 x35_1).f1))) (fun _ h_ => h_.1))) hb); have n2_ := Aside0.mk (Kd.V_below (by (with_reducible repeat (first | apply Kd.V_alloc | apply Kd.V_drewN | apply Kd.V_drew)); exact (Kd.V_mono (Kd.V_far (p := ⟨gb261, 1, none⟩) (Kd.V_far (p := ⟨gb261, 0, none⟩) (Kd.V_mono HO_259001.out (fun k_ hk => (⟨hk, hk.2⟩ : _ ∧ k_ ≠ gb261))) (fun _ hk => hk.2) (.int .u8 ((rd_T48 l0 x35_1).f0))) (fun _ hk => hk.2) (.int .u8 ((rd_T48 l0 x35_1).f1))) (fun _ h_ => h_.1))) hb); have n3_ := Aside0.mk (Kd.V_lower (Kd.V_mono (ok' := fun k_ => some k_ ≠ (u7 : Value).ownBlock ∧ k_ ≠ gb258 ∧ k_ ≠ gb261) ho0 (fun k_ hk_ => ⟨Or.elim hk_ (fun hs_ => Or.elim hs_ (fun hs_ => hs_.1.1) (fun hs_ => hs_.1.1)) (fun hn_ => (Kd.fresh' (Kd.R_lt (by (with_reducible repeat (first | apply Kd.R_alloc | apply Kd.R_drewN | apply Kd.R_drew)); exact (Kd.R_mono (Kd.R_far (p := ⟨gb261, 1, none⟩) (Kd.R_far (p := ⟨gb261, 0, none⟩) (Kd.R_types HO_7.out BK261.out (by decide)) (fun _ hk => hk.2) (.int .u8 ((rd_T48 l0 x35_1).f0))) (fun _ hk => hk.2) (.int .u8 ((rd_T48 l0 x35_1).f1))) (fun _ h_ => h_.1)))) k_ hn_)), Or.elim hk_ (fun hs_ => Or.elim hs_ (fun hs_ => hs_.1.2) (fun hs_ => hs_.1.2)) (fun hn_ => (Kd.freshB (g := gb258) (o := .cells #[.slice Ao73 x259000_1.length co73, .slice Ao14 x259001_1.length co14] 24 (0, 0)) (by (with_reducible repeat (first | refine blk_drewN ?_ _ | refine blk_drew ?_ | refine blk_alloc ?_ _)); refine blk_far ?_ NB258_261.out _; (with_reducible repeat (first | refine blk_drewN ?_ _ | refine blk_drew ?_ | refine blk_alloc ?_ _)); refine blk_far ?_ NB258_261.out _; (with_reducible repeat (first | refine blk_drewN ?_ _ | refine blk_drew ?_ | refine blk_alloc ?_ _)); exact BK258.out) k_ hn_)), Or.elim hk_ (fun hs_ => Or.elim hs_ (fun hs_ => hs_.2) (fun hs_ => hs_.2)) (fun hn_ => (Kd.freshB (g := gb261) (o := .cells #[.int .u8 ((rd_T48 l0 x35_1).f0), .int .u8 ((rd_T48 l0 x35_1).f1)] 48 (0, 0)) (by (with_reducible repeat (first | refine blk_drewN ?_ _ | refine blk_drew ?_ | refine blk_alloc ?_ _)); refine blk_put (cs := #[.int .u8 ((rd_T48 l0 x35_1).f0), .int .u8 0]) ?_ 1 _ rfl; (with_reducible repeat (first | refine blk_drewN ?_ _ | refine blk_drew ?_ | refine blk_alloc ?_ _)); refine blk_put (cs := #[.int .u8 0, .int .u8 0]) ?_ 0 _ rfl; (with_reducible repeat (first | refine blk_drewN ?_ _ | refine blk_drew ?_ | refine blk_alloc ?_ _)); exact BK261.out) k_ hn_))⟩)) (below_size (zc2 HB GE258 GE261))); have n4_ := Aside0.mk (Kd.V_lower (Kd.V_mono (ok' := fun k_ => some k_ ≠ (u7 : Value).ownBlock ∧ k_ ≠ gb258 ∧ k_ ≠ gb261) ho1 (fun k_ hk_ => ⟨Or.elim hk_ (fun hs_ => Or.elim hs_ (fun hs_ => hs_.1.1) (fun hs_ => hs_.1.1)) (fun hn_ => (Kd.fresh' (Kd.R_lt (by (with_reducible repeat (first | apply Kd.R_alloc | apply Kd.R_drewN | apply Kd.R_drew)); exact (Kd.R_mono (Kd.R_far (p := ⟨gb261, 1, none⟩) (Kd.R_far (p := ⟨gb261, 0, none⟩) (Kd.R_types HO_7.out BK261.out (by decide)) (fun _ hk => hk.2) (.int .u8 ((rd_T48 l0 x35_1).f0))) (fun _ hk => hk.2) (.int .u8 ((rd_T48 l0 x35_1).f1))) (fun _ h_ => h_.1)))) k_ hn_)), Or.elim hk_ (fun hs_ => Or.elim hs_ (fun hs_ => hs_.1.2) (fun hs_ => hs_.1.2)) (fun hn_ => (Kd.freshB (g := gb258) (o := .cells #[.slice Ao73 x259000_1.length co73, .slice Ao14 x259001_1.length co14] 24 (0, 0)) (by (with_reducible repeat (first | refine blk_drewN ?_ _ | refine blk_drew ?_ | refine blk_alloc ?_ _)); refine blk_far ?_ NB258_261.out _; (with_reducible repeat (first | refine blk_drewN ?_ _ | refine blk_drew ?_ | refine blk_alloc ?_ _)); refine blk_far ?_ NB258_261.out _; (with_reducible repeat (first | refine blk_drewN ?_ _ | refine blk_drew ?_ | refine blk_alloc ?_ _)); exact BK258.out) k_ hn_)), Or.elim hk_ (fun hs_ => Or.elim hs_ (fun hs_ => hs_.2) (fun hs_ => hs_.2)) (fun hn_ => (Kd.freshB (g := gb261) (o := .cells #[.int .u8 ((rd_T48 l0 x35_1).f0), .int .u8 ((rd_T48 l0 x35_1).f1)] 48 (0, 0)) (by (with_reducible repeat (first | refine blk_drewN ?_ _ | refine blk_drew ?_ | refine blk_alloc ?_ _)); refine blk_put (cs := #[.int .u8 ((rd_T48 l0 x35_1).f0), .int .u8 0]) ?_ 1 _ rfl; (with_reducible repeat (first | refine blk_drewN ?_ _ | refine blk_drew ?_ | refine blk_alloc ?_ _)); refine blk_put (cs := #[.int .u8 0, .int .u8 0]) ?_ 0 _ rfl; (with_reducible repeat (first | refine blk_drewN ?_ _ | refine blk_drew ?_ | refine blk_alloc ?_ _)); exact BK261.out) k_ hn_))⟩)) (below_size (zc2 HB GE258 GE261))); have n5_ := Aside0.mk (blk_below (g := gb258) (o := .cells #[.slice Ao73 x259000_1.length co73, .slice Ao14 x259001_1.length co14] 24 (0, 0)) (by (with_reducible repeat (first | refine blk_drewN ?_ _ | refine blk_drew ?_ | refine blk_alloc ?_ _)); refine blk_far ?_ NB258_261.out _; (with_reducible repeat (first | refine blk_drewN ?_ _ | refine blk_drew ?_ | refine blk_alloc ?_ _)); refine blk_far ?_ NB258_261.out _; (with_reducible repeat (first | refine blk_drewN ?_ _ | refine blk_drew ?_ | refine blk_alloc ?_ _)); exact BK258.out) hb); have n6_ := Aside0.mk (blk_below (g := gb261) (o := .cells #[.int .u8 ((rd_T48 l0 x35_1).f0), .int .u8 ((rd_T48 l0 x35_1).f1)] 48 (0, 0)) (by (with_reducible repeat (first | refine blk_drewN ?_ _ | refine blk_drew ?_ | refine blk_alloc ?_ _)); refine blk_put (cs := #[.int .u8 ((rd_T48 l0 x35_1).f0), .int .u8 0]) ?_ 1 _ rfl; (with_reducible repeat (first | refine blk_drewN ?_ _ | refine blk_drew ?_ | refine blk_alloc ?_ _)); refine blk_put (cs := #[.int .u8 0, .int .u8 0]) ?_ 0 _ rfl; (with_reducible repeat (first | refine blk_drewN ?_ _ | refine blk_drew ?_ | refine blk_alloc ?_ _)); exact BK261.out) hb); have n7_ := Aside0.mk (below_step (zc2 HB GE258 GE261) hb); clear HO_7; clear HO_259000; clear HO_259001; clear BK258; clear BK261; clear HB; have HO_7 := n0_; have HO_259000 := n1_; have HO_259001 := n2_; have HO283 := n3_; have HO286 := n4_; have BK258 := n5_; have BK261 := n6_; have HB := n7_; clear n0_ n1_ n2_ n3_ n4_ n5_ n6_ n7_; (try clear hb); (try clear hb2); (try clear hk); (try clear hi); (try clear ho0); (try clear ho1)) | ((with_reducible refine gate_dst (N := 16) rfl ?_); (try (refine gate_guard (by rfl) ?_; dsimp only)); refine box_event ?hg (N := 16) ?hd (cs := #[.slice none 0 0, .slice none 0 0]) (t := 24) ?hr ?_; (case hd => rfl); (case hg => rfl); (case hr => first | (go_simp; done) | (go_simp; rfl)); intro gb289 hg w75 hbox hb; have n0_ := Aside0.mk (Kd.R_below (zR HO_7) hb); have n1_ := Aside0.mk (Kd.V_below (Kd.V_elderB (zV HO_259000) gb289 (Nat.le_of_eq hg.symm)) hb); have n2_ := Aside0.mk (Kd.V_below (Kd.V_elderB (zV HO_259001) gb289 (Nat.le_of_eq hg.symm)) hb); have n3_ := Aside0.mk (Kd.V_below (Kd.V_elderB (zV HO283) gb289 (Nat.le_of_eq hg.symm)) hb); have n4_ := Aside0.mk (Kd.V_below (Kd.V_elderB (zV HO286) gb289 (Nat.le_of_eq hg.symm)) hb); have n5_ := Aside0.mk (blk_below (g := gb258) (o := .cells #[.slice Ao73 x259000_1.length co73, .slice Ao14 x259001_1.length co14] 24 (0, 0)) (zb BK258) hb); have n6_ := Aside0.mk (blk_below (g := gb261) (o := .cells #[.int .u8 ((rd_T48 l0 x35_1).f0), .int .u8 ((rd_T48 l0 x35_1).f1)] 48 (0, 0)) (zb BK261) hb); have n7_ := Aside0.mk (below_step (zc2 HB GE258 GE261) hb); have n8_ := Aside0.mk (hbox); have n9_ := Aside0.mk ((by rw [hg]; exact (below_size (zc2 HB GE258 GE261)) : w.heap.size ≤ gb289)); have n10_ := Aside0.mk ((by rw [hg]; exact (below_size (zc2 HB GE258 GE261)) : w.heap.size ≤ gb289)); have n11_ := Aside0.mk ((by rw [hg]; exact Nat.ne_of_lt (blk_lt (g := gb258) (o := .cells #[.slice Ao73 x259000_1.length co73, .slice Ao14 x259001_1.length co14] 24 (0, 0)) (zb BK258)) : gb258 ≠ gb289)); have n12_ := Aside0.mk ((by rw [hg]; exact Nat.ne_of_gt (blk_lt (g := gb258) (o := .cells #[.slice Ao73 x259000_1.length co73, .slice Ao14 x259001_1.length co14] 24 (0, 0)) (zb BK258)) : gb289 ≠ gb258)); have n13_ := Aside0.mk ((by rw [hg]; exact Nat.ne_of_lt (blk_lt (g := gb261) (o := .cells #[.int .u8 ((rd_T48 l0 x35_1).f0), .int .u8 ((rd_T48 l0 x35_1).f1)] 48 (0, 0)) (zb BK261)) : gb261 ≠ gb289)); have n14_ := Aside0.mk ((by rw [hg]; exact Nat.ne_of_gt (blk_lt (g := gb261) (o := .cells #[.int .u8 ((rd_T48 l0 x35_1).f0), .int .u8 ((rd_T48 l0 x35_1).f1)] 48 (0, 0)) (zb BK261)) : gb289 ≠ gb261)); clear HO_7; clear HO_259000; clear HO_259001; clear HO283; clear HO286; clear BK258; clear BK261; clear HB; have HO_7 := n0_; have HO_259000 := n1_; have HO_259001 := n2_; have HO283 := n3_; have HO286 := n4_; have BK258 := n5_; have BK261 := n6_; have HB := n7_; have BK289 := n8_; have GW289 := n9_; have GE289 := n10_; have NB258_289 := n11_; have NB289_258 := n12_; have NB261_289 := n13_; have NB289_261 := n14_; clear n0_ n1_ n2_ n3_ n4_ n5_ n6_ n7_ n8_ n9_ n10_ n11_ n12_ n13_ n14_; clear hb hbox hg; obtain ⟨Ao76, co76, eo76⟩ := Kd.V_slice HO283.out; subst eo76; have hnb77 := NB289_258.out; have hnc77 := NB258_289.out; have hnb78 := NB289_261.out; have hnc78 := NB261_289.out; have hcz79_0 : w75.cell? ⟨gb289, 0, none⟩ = some (.slice none 0 0) := (blk_cell BK289.out 0).trans rfl; have hcz79_1 : w75.cell? ⟨gb289, 1, none⟩ = some (.slice none 0 0) := (blk_cell BK289.out 1).trans rfl; have hfz79_0 := blk_frozen BK289.out 0; have hfz79_1 := blk_frozen BK289.out 1; obtain ⟨Ao80, co80, eo80⟩ := Kd.V_slice HO286.out; subst eo80))
           (try simp only [Act.put, List.setIfInBounds_toArray, List.set_cons_zero, List.set_cons_succ])
           go_cut [109] (fun v109 wc => ∃ (kq : Nat) (x109_69 : Bool), v109 = .bool x109_69 ∧ Aside0 (handshakerlaw20_CondKeeps.j1 kq x4_1 x5_1 x6_1 x7_1 l0 (l0.length : Int) x35_1 x109_69 x259000_1 x259001_1 t281 t284 = some r) ∧ Aside0 (kq ≤ k1) ∧ Aside0 (Kd.R (Kd.int .i64) 3 wc w.heap.size (fun _ => True) u7 x7_1) ∧ Aside0 (Kd.V (Kd.int .i64) 3 wc w.heap.size (fun k_ => some k_ ≠ (u7 : Value).ownBlock ∧ k_ ≠ gb258 ∧ k_ ≠ gb261 ∧ k_ ≠ gb289) (.slice Ao73 x259000_1.length co73) x259000_1) ∧ Aside0 (Kd.V (Kd.int .i64) 3 wc w.heap.size (fun k_ => some k_ ≠ (u7 : Value).ownBlock ∧ k_ ≠ gb258 ∧ k_ ≠ gb261 ∧ k_ ≠ gb289) (.slice Ao14 x259001_1.length co14) x259001_1) ∧ Aside0 (Kd.V (Kd.int .i64) 3 wc w.heap.size (fun k_ => some k_ ≠ (u7 : Value).ownBlock ∧ k_ ≠ gb258 ∧ k_ ≠ gb261 ∧ k_ ≠ gb289) (.slice Ao76 t281.length co76) t281) ∧ Aside0 (Kd.V (Kd.int .i64) 3 wc w.heap.size (fun k_ => some k_ ≠ (u7 : Value).ownBlock ∧ k_ ≠ gb258 ∧ k_ ≠ gb261 ∧ k_ ≠ gb289) (.slice Ao80 t284.length co80) t284) ∧ Aside0 (wc.heap[gb258]? = some (.cells #[(.slice Ao73 x259000_1.length co73), (.slice Ao14 x259001_1.length co14)] 24 (0, 0))) ∧ Aside0 (wc.heap[gb261]? = some (.cells #[.int .u8 ((rd_T48 l0 x35_1).f0), .int .u8 ((rd_T48 l0 x35_1).f1)] 48 (0, 0))) ∧ Aside0 (wc.heap[gb289]? = some (.cells #[(.slice Ao76 t281.length co76), (.slice Ao80 t284.length co80)] 24 (0, 0))) ∧ Aside0 (Below w.heap.size w wc))
           case first =>
            have H := HC70.out
            clear HC70
            by_cases c81 : t288 = 0
            ·rw [if_pos c81] at H
             have c81b0 : (t288 == 0) = true := beq_iff_eq.mpr c81
             have c81b1 : (t288 != 0) = false := bne_eq_false_iff_eq.mpr c81
             clear c81
             (first | rw [c81b0] | (simp only [i64_w, i32_w]; rw [c81b0]) | skip)
             by_cases c82 : t287 = true
             ·subst c82
              have H1 : (handshakerlaw20_CondKeeps.j1 k1 x4_1 x5_1 x6_1 x7_1 l0 (l0.length : Int) x35_1 false x259000_1 x259001_1 t281 t284) = some r := by rw [if_pos rfl] at H; exact H
              clear H
              have H := H1
              clear H1
              have H' := Aside0.mk H
              clear H
              go_wp2
              go_meet
              case rel => exact ⟨_, (false), (by first | rfl | (simp; done) | (simp [*]; done)), H', ⟨by have := HK1.out; first | omega | exact Nat.le_refl _⟩, ⟨by (with_reducible repeat (first | apply Kd.R_alloc | apply Kd.R_drewN | apply Kd.R_drew)); exact Kd.R_mono (Kd.R_far (p := ⟨gb289, 1, none⟩) (Kd.R_far (p := ⟨gb289, 0, none⟩) (Kd.R_types HO_7.out BK289.out (by decide)) (fun _ hk => hk.2) (.slice Ao76 t281.length co76)) (fun _ hk => hk.2) (.slice Ao80 t284.length co80)) (fun _ hk => trivial)⟩, ⟨by (with_reducible repeat (first | apply Kd.V_alloc | apply Kd.V_drewN | apply Kd.V_drew)); exact Kd.V_mono (Kd.V_far (p := ⟨gb289, 1, none⟩) (Kd.V_far (p := ⟨gb289, 0, none⟩) (Kd.V_mono HO_259000.out (fun k_ hk => (⟨hk, hk.2⟩ : _ ∧ k_ ≠ gb289))) (fun _ hk => hk.2) (.slice Ao76 t281.length co76)) (fun _ hk => hk.2) (.slice Ao80 t284.length co80)) (fun _ hk => ⟨hk.1.1.1.1, ⟨hk.1.1.1.2, ⟨hk.1.1.2, hk.1.2⟩⟩⟩)⟩, ⟨by (with_reducible repeat (first | apply Kd.V_alloc | apply Kd.V_drewN | apply Kd.V_drew)); exact Kd.V_mono (Kd.V_far (p := ⟨gb289, 1, none⟩) (Kd.V_far (p := ⟨gb289, 0, none⟩) (Kd.V_mono HO_259001.out (fun k_ hk => (⟨hk, hk.2⟩ : _ ∧ k_ ≠ gb289))) (fun _ hk => hk.2) (.slice Ao76 t281.length co76)) (fun _ hk => hk.2) (.slice Ao80 t284.length co80)) (fun _ hk => ⟨hk.1.1.1.1, ⟨hk.1.1.1.2, ⟨hk.1.1.2, hk.1.2⟩⟩⟩)⟩, ⟨by (with_reducible repeat (first | apply Kd.V_alloc | apply Kd.V_drewN | apply Kd.V_drew)); exact Kd.V_mono (Kd.V_far (p := ⟨gb289, 1, none⟩) (Kd.V_far (p := ⟨gb289, 0, none⟩) (Kd.V_mono HO283.out (fun k_ hk => (⟨hk, hk.2⟩ : _ ∧ k_ ≠ gb289))) (fun _ hk => hk.2) (.slice Ao76 t281.length co76)) (fun _ hk => hk.2) (.slice Ao80 t284.length co80)) (fun _ hk => ⟨hk.1.1.1, ⟨hk.1.1.2.1, ⟨hk.1.1.2.2, hk.1.2⟩⟩⟩)⟩, ⟨by (with_reducible repeat (first | apply Kd.V_alloc | apply Kd.V_drewN | apply Kd.V_drew)); exact Kd.V_mono (Kd.V_far (p := ⟨gb289, 1, none⟩) (Kd.V_far (p := ⟨gb289, 0, none⟩) (Kd.V_mono HO286.out (fun k_ hk => (⟨hk, hk.2⟩ : _ ∧ k_ ≠ gb289))) (fun _ hk => hk.2) (.slice Ao76 t281.length co76)) (fun _ hk => hk.2) (.slice Ao80 t284.length co80)) (fun _ hk => ⟨hk.1.1.1, ⟨hk.1.1.2.1, ⟨hk.1.1.2.2, hk.1.2⟩⟩⟩)⟩, ⟨by (with_reducible repeat (first | refine blk_drewN ?_ _ | refine blk_drew ?_ | refine blk_alloc ?_ _)); refine blk_far ?_ NB258_289.out _; (with_reducible repeat (first | refine blk_drewN ?_ _ | refine blk_drew ?_ | refine blk_alloc ?_ _)); refine blk_far ?_ NB258_289.out _; (with_reducible repeat (first | refine blk_drewN ?_ _ | refine blk_drew ?_ | refine blk_alloc ?_ _)); exact BK258.out⟩, ⟨by (with_reducible repeat (first | refine blk_drewN ?_ _ | refine blk_drew ?_ | refine blk_alloc ?_ _)); refine blk_far ?_ NB261_289.out _; (with_reducible repeat (first | refine blk_drewN ?_ _ | refine blk_drew ?_ | refine blk_alloc ?_ _)); refine blk_far ?_ NB261_289.out _; (with_reducible repeat (first | refine blk_drewN ?_ _ | refine blk_drew ?_ | refine blk_alloc ?_ _)); exact BK261.out⟩, ⟨by (with_reducible repeat (first | refine blk_drewN ?_ _ | refine blk_drew ?_ | refine blk_alloc ?_ _)); refine blk_put (cs := #[.slice Ao76 t281.length co76, .slice none 0 0]) ?_ 1 _ rfl; (with_reducible repeat (first | refine blk_drewN ?_ _ | refine blk_drew ?_ | refine blk_alloc ?_ _)); refine blk_put (cs := #[.slice none 0 0, .slice none 0 0]) ?_ 0 _ rfl; (with_reducible repeat (first | refine blk_drewN ?_ _ | refine blk_drew ?_ | refine blk_alloc ?_ _)); exact BK289.out⟩, ⟨by repeat (first | (with_reducible first | exact HB.out | apply below_alloc | apply pw_below_drewN | apply below_drew1 | refine below_set ?_ GE258.out | refine below_set ?_ GE261.out | refine below_set ?_ GE289.out) | exact HB.out)⟩⟩
             ·replace c82 := Bool.eq_false_iff.mpr c82
              subst c82
              have H1 : (handshakerlaw20_CondKeeps.j1 k1 x4_1 x5_1 x6_1 x7_1 l0 (l0.length : Int) x35_1 (decide ((t284.length : Int) < (x259001_1.length : Int))) x259000_1 x259001_1 t281 t284) = some r := by rw [if_neg (show ¬ (false = true) by decide)] at H; exact H
              clear H
              have H := H1
              clear H1
              have H' := Aside0.mk H
              clear H
              have hnb83 := NB289_258.out
              have hnc83 := NB258_289.out
              have hnb84 := NB289_261.out
              have hnc84 := NB261_289.out
              have hcz85_0 : w75.cell? ⟨gb289, 0, none⟩ = some (.slice none 0 0) := (blk_cell BK289.out 0).trans rfl
              have hcz85_1 : w75.cell? ⟨gb289, 1, none⟩ = some (.slice none 0 0) := (blk_cell BK289.out 1).trans rfl
              have hfz85_0 := blk_frozen BK289.out 0
              have hfz85_1 := blk_frozen BK289.out 1
              go_wp2
              go_meet
              case rel => exact ⟨_, (decide ((t284.length : Int) < (x259001_1.length : Int))), (by first | rfl | (simp; done) | (simp [*]; done)), H', ⟨by have := HK1.out; first | omega | exact Nat.le_refl _⟩, ⟨by (with_reducible repeat (first | apply Kd.R_alloc | apply Kd.R_drewN | apply Kd.R_drew)); exact Kd.R_mono (Kd.R_far (p := ⟨gb289, 1, none⟩) (Kd.R_far (p := ⟨gb289, 0, none⟩) (Kd.R_types HO_7.out BK289.out (by decide)) (fun _ hk => hk.2) (.slice Ao76 t281.length co76)) (fun _ hk => hk.2) (.slice Ao80 t284.length co80)) (fun _ hk => trivial)⟩, ⟨by (with_reducible repeat (first | apply Kd.V_alloc | apply Kd.V_drewN | apply Kd.V_drew)); exact Kd.V_mono (Kd.V_far (p := ⟨gb289, 1, none⟩) (Kd.V_far (p := ⟨gb289, 0, none⟩) (Kd.V_mono HO_259000.out (fun k_ hk => (⟨hk, hk.2⟩ : _ ∧ k_ ≠ gb289))) (fun _ hk => hk.2) (.slice Ao76 t281.length co76)) (fun _ hk => hk.2) (.slice Ao80 t284.length co80)) (fun _ hk => ⟨hk.1.1.1.1, ⟨hk.1.1.1.2, ⟨hk.1.1.2, hk.1.2⟩⟩⟩)⟩, ⟨by (with_reducible repeat (first | apply Kd.V_alloc | apply Kd.V_drewN | apply Kd.V_drew)); exact Kd.V_mono (Kd.V_far (p := ⟨gb289, 1, none⟩) (Kd.V_far (p := ⟨gb289, 0, none⟩) (Kd.V_mono HO_259001.out (fun k_ hk => (⟨hk, hk.2⟩ : _ ∧ k_ ≠ gb289))) (fun _ hk => hk.2) (.slice Ao76 t281.length co76)) (fun _ hk => hk.2) (.slice Ao80 t284.length co80)) (fun _ hk => ⟨hk.1.1.1.1, ⟨hk.1.1.1.2, ⟨hk.1.1.2, hk.1.2⟩⟩⟩)⟩, ⟨by (with_reducible repeat (first | apply Kd.V_alloc | apply Kd.V_drewN | apply Kd.V_drew)); exact Kd.V_mono (Kd.V_far (p := ⟨gb289, 1, none⟩) (Kd.V_far (p := ⟨gb289, 0, none⟩) (Kd.V_mono HO283.out (fun k_ hk => (⟨hk, hk.2⟩ : _ ∧ k_ ≠ gb289))) (fun _ hk => hk.2) (.slice Ao76 t281.length co76)) (fun _ hk => hk.2) (.slice Ao80 t284.length co80)) (fun _ hk => ⟨hk.1.1.1, ⟨hk.1.1.2.1, ⟨hk.1.1.2.2, hk.1.2⟩⟩⟩)⟩, ⟨by (with_reducible repeat (first | apply Kd.V_alloc | apply Kd.V_drewN | apply Kd.V_drew)); exact Kd.V_mono (Kd.V_far (p := ⟨gb289, 1, none⟩) (Kd.V_far (p := ⟨gb289, 0, none⟩) (Kd.V_mono HO286.out (fun k_ hk => (⟨hk, hk.2⟩ : _ ∧ k_ ≠ gb289))) (fun _ hk => hk.2) (.slice Ao76 t281.length co76)) (fun _ hk => hk.2) (.slice Ao80 t284.length co80)) (fun _ hk => ⟨hk.1.1.1, ⟨hk.1.1.2.1, ⟨hk.1.1.2.2, hk.1.2⟩⟩⟩)⟩, ⟨by (with_reducible repeat (first | refine blk_drewN ?_ _ | refine blk_drew ?_ | refine blk_alloc ?_ _)); refine blk_far ?_ NB258_289.out _; (with_reducible repeat (first | refine blk_drewN ?_ _ | refine blk_drew ?_ | refine blk_alloc ?_ _)); refine blk_far ?_ NB258_289.out _; (with_reducible repeat (first | refine blk_drewN ?_ _ | refine blk_drew ?_ | refine blk_alloc ?_ _)); exact BK258.out⟩, ⟨by (with_reducible repeat (first | refine blk_drewN ?_ _ | refine blk_drew ?_ | refine blk_alloc ?_ _)); refine blk_far ?_ NB261_289.out _; (with_reducible repeat (first | refine blk_drewN ?_ _ | refine blk_drew ?_ | refine blk_alloc ?_ _)); refine blk_far ?_ NB261_289.out _; (with_reducible repeat (first | refine blk_drewN ?_ _ | refine blk_drew ?_ | refine blk_alloc ?_ _)); exact BK261.out⟩, ⟨by (with_reducible repeat (first | refine blk_drewN ?_ _ | refine blk_drew ?_ | refine blk_alloc ?_ _)); refine blk_put (cs := #[.slice Ao76 t281.length co76, .slice none 0 0]) ?_ 1 _ rfl; (with_reducible repeat (first | refine blk_drewN ?_ _ | refine blk_drew ?_ | refine blk_alloc ?_ _)); refine blk_put (cs := #[.slice none 0 0, .slice none 0 0]) ?_ 0 _ rfl; (with_reducible repeat (first | refine blk_drewN ?_ _ | refine blk_drew ?_ | refine blk_alloc ?_ _)); exact BK289.out⟩, ⟨by repeat (first | (with_reducible first | exact HB.out | apply below_alloc | apply pw_below_drewN | apply below_drew1 | refine below_set ?_ GE258.out | refine below_set ?_ GE261.out | refine below_set ?_ GE289.out) | exact HB.out)⟩⟩
            ·rw [if_neg c81] at H
             have c81b0 : (t288 == 0) = false := beq_eq_false_iff_ne.mpr c81
             have c81b1 : (t288 != 0) = true := bne_iff_ne.mpr c81
             (first | rw [c81b0] | (simp only [i64_w, i32_w]; rw [c81b0]) | skip)
             have H' := Aside0.mk H
             clear H
             go_wp2
             go_meet
             case rel => exact ⟨_, (false), (by first | rfl | (simp; done) | (simp [*]; done)), H', ⟨by have := HK1.out; first | omega | exact Nat.le_refl _⟩, ⟨by (with_reducible repeat (first | apply Kd.R_alloc | apply Kd.R_drewN | apply Kd.R_drew)); exact Kd.R_mono (Kd.R_far (p := ⟨gb289, 1, none⟩) (Kd.R_far (p := ⟨gb289, 0, none⟩) (Kd.R_types HO_7.out BK289.out (by decide)) (fun _ hk => hk.2) (.slice Ao76 t281.length co76)) (fun _ hk => hk.2) (.slice Ao80 t284.length co80)) (fun _ hk => trivial)⟩, ⟨by (with_reducible repeat (first | apply Kd.V_alloc | apply Kd.V_drewN | apply Kd.V_drew)); exact Kd.V_mono (Kd.V_far (p := ⟨gb289, 1, none⟩) (Kd.V_far (p := ⟨gb289, 0, none⟩) (Kd.V_mono HO_259000.out (fun k_ hk => (⟨hk, hk.2⟩ : _ ∧ k_ ≠ gb289))) (fun _ hk => hk.2) (.slice Ao76 t281.length co76)) (fun _ hk => hk.2) (.slice Ao80 t284.length co80)) (fun _ hk => ⟨hk.1.1.1.1, ⟨hk.1.1.1.2, ⟨hk.1.1.2, hk.1.2⟩⟩⟩)⟩, ⟨by (with_reducible repeat (first | apply Kd.V_alloc | apply Kd.V_drewN | apply Kd.V_drew)); exact Kd.V_mono (Kd.V_far (p := ⟨gb289, 1, none⟩) (Kd.V_far (p := ⟨gb289, 0, none⟩) (Kd.V_mono HO_259001.out (fun k_ hk => (⟨hk, hk.2⟩ : _ ∧ k_ ≠ gb289))) (fun _ hk => hk.2) (.slice Ao76 t281.length co76)) (fun _ hk => hk.2) (.slice Ao80 t284.length co80)) (fun _ hk => ⟨hk.1.1.1.1, ⟨hk.1.1.1.2, ⟨hk.1.1.2, hk.1.2⟩⟩⟩)⟩, ⟨by (with_reducible repeat (first | apply Kd.V_alloc | apply Kd.V_drewN | apply Kd.V_drew)); exact Kd.V_mono (Kd.V_far (p := ⟨gb289, 1, none⟩) (Kd.V_far (p := ⟨gb289, 0, none⟩) (Kd.V_mono HO283.out (fun k_ hk => (⟨hk, hk.2⟩ : _ ∧ k_ ≠ gb289))) (fun _ hk => hk.2) (.slice Ao76 t281.length co76)) (fun _ hk => hk.2) (.slice Ao80 t284.length co80)) (fun _ hk => ⟨hk.1.1.1, ⟨hk.1.1.2.1, ⟨hk.1.1.2.2, hk.1.2⟩⟩⟩)⟩, ⟨by (with_reducible repeat (first | apply Kd.V_alloc | apply Kd.V_drewN | apply Kd.V_drew)); exact Kd.V_mono (Kd.V_far (p := ⟨gb289, 1, none⟩) (Kd.V_far (p := ⟨gb289, 0, none⟩) (Kd.V_mono HO286.out (fun k_ hk => (⟨hk, hk.2⟩ : _ ∧ k_ ≠ gb289))) (fun _ hk => hk.2) (.slice Ao76 t281.length co76)) (fun _ hk => hk.2) (.slice Ao80 t284.length co80)) (fun _ hk => ⟨hk.1.1.1, ⟨hk.1.1.2.1, ⟨hk.1.1.2.2, hk.1.2⟩⟩⟩)⟩, ⟨by (with_reducible repeat (first | refine blk_drewN ?_ _ | refine blk_drew ?_ | refine blk_alloc ?_ _)); refine blk_far ?_ NB258_289.out _; (with_reducible repeat (first | refine blk_drewN ?_ _ | refine blk_drew ?_ | refine blk_alloc ?_ _)); refine blk_far ?_ NB258_289.out _; (with_reducible repeat (first | refine blk_drewN ?_ _ | refine blk_drew ?_ | refine blk_alloc ?_ _)); exact BK258.out⟩, ⟨by (with_reducible repeat (first | refine blk_drewN ?_ _ | refine blk_drew ?_ | refine blk_alloc ?_ _)); refine blk_far ?_ NB261_289.out _; (with_reducible repeat (first | refine blk_drewN ?_ _ | refine blk_drew ?_ | refine blk_alloc ?_ _)); refine blk_far ?_ NB261_289.out _; (with_reducible repeat (first | refine blk_drewN ?_ _ | refine blk_drew ?_ | refine blk_alloc ?_ _)); exact BK261.out⟩, ⟨by (with_reducible repeat (first | refine blk_drewN ?_ _ | refine blk_drew ?_ | refine blk_alloc ?_ _)); refine blk_put (cs := #[.slice Ao76 t281.length co76, .slice none 0 0]) ?_ 1 _ rfl; (with_reducible repeat (first | refine blk_drewN ?_ _ | refine blk_drew ?_ | refine blk_alloc ?_ _)); refine blk_put (cs := #[.slice none 0 0, .slice none 0 0]) ?_ 0 _ rfl; (with_reducible repeat (first | refine blk_drewN ?_ _ | refine blk_drew ?_ | refine blk_alloc ?_ _)); exact BK289.out⟩, ⟨by repeat (first | (with_reducible first | exact HB.out | apply below_alloc | apply pw_below_drewN | apply below_drew1 | refine below_set ?_ GE258.out | refine below_set ?_ GE261.out | refine below_set ?_ GE289.out) | exact HB.out)⟩⟩
           case rest =>
            clear HC70
            try clear c1
            try clear c2
            try clear c2b0
            try clear c2b1
            try clear p2
            try clear q2
            try clear hx2
            try clear c3
            try clear c4
            try clear c5
            try clear c6
            try clear c6b0
            try clear p6
            try clear c7
            try clear c7b0
            try clear c8
            try clear c8b0
            try clear c9
            try clear c10
            try clear c11
            try clear c15
            try clear c15b0
            try clear c15b1
            try clear c17
            try clear c17b0
            try clear c17b1
            try clear c18
            try clear c19
            try clear c25
            try clear c26
            try clear p26
            try clear q26
            try clear hx26
            try clear c32
            try clear c38
            try clear c39
            try clear c43
            try clear c43b0
            try clear c43b1
            try clear c45
            try clear c45b0
            try clear c45b1
            try clear c46
            try clear c52
            try clear c53
            try clear c57
            try clear c63
            try clear c64
            try clear p64
            try clear c68
            try clear c68b0
            try clear c68b1
            try clear c71
            try clear c77
            try clear c78
            try clear c81
            try clear c81b0
            try clear c81b1
            try clear c82
            try clear c83
            try clear c84
            try clear hcz12_0
            try clear hcz12_1
            try clear hcz13_0
            try clear hcz13_1
            try clear hcz20_0
            try clear hcz20_1
            try clear hcz27_0
            try clear hcz27_1
            try clear hcz30_0
            try clear hcz30_1
            try clear hcz31_0
            try clear hcz31_1
            try clear hcz33_0
            try clear hcz33_1
            try clear hcz40_0
            try clear hcz40_1
            try clear hcz42_0
            try clear hcz42_1
            try clear hcz47_0
            try clear hcz47_1
            try clear hcz54_0
            try clear hcz54_1
            try clear hcz56_0
            try clear hcz56_1
            try clear hcz58_0
            try clear hcz58_1
            try clear hcz65_0
            try clear hcz65_1
            try clear hcz67_0
            try clear hcz67_1
            try clear hcz72_0
            try clear hcz72_1
            try clear hcz79_0
            try clear hcz79_1
            try clear hcz85_0
            try clear hcz85_1
            try clear hfz12_0
            try clear hfz12_1
            try clear hfz13_0
            try clear hfz13_1
            try clear hfz20_0
            try clear hfz20_1
            try clear hfz27_0
            try clear hfz27_1
            try clear hfz30_0
            try clear hfz30_1
            try clear hfz31_0
            try clear hfz31_1
            try clear hfz33_0
            try clear hfz33_1
            try clear hfz40_0
            try clear hfz40_1
            try clear hfz42_0
            try clear hfz42_1
            try clear hfz47_0
            try clear hfz47_1
            try clear hfz54_0
            try clear hfz54_1
            try clear hfz56_0
            try clear hfz56_1
            try clear hfz58_0
            try clear hfz58_1
            try clear hfz65_0
            try clear hfz65_1
            try clear hfz67_0
            try clear hfz67_1
            try clear hfz72_0
            try clear hfz72_1
            try clear hfz79_0
            try clear hfz79_1
            try clear hfz85_0
            try clear hfz85_1
            try clear hx260_0
            try clear hx260_1
            try clear p2
            try clear p260
            try clear q260
            obtain ⟨kq, x109_69, rfl, HA, HJ69, HO_7, HO_259000, HO_259001, HO_290000, HO_290001, BK258, BK261, BK289, HB⟩ := hcut
            cases kq with
            | zero => exact absurd HA.out (by simp [handshakerlaw20_CondKeeps.j1])
            | succ kj69 =>
             have H := HA.out
             clear HA
             simp only [handshakerlaw20_CondKeeps.j1] at H
             by_cases c86 : x109_69 = true
             ·subst c86
              have H1 : (if (x259000_1.length : Int) > 0 then (none) else (handshakerlaw20_CondKeeps.j2 kj69 x4_1 x5_1 (wrap64 (x6_1 + 1)) x7_1 l0 (l0.length : Int) x35_1 t281 t284)) = some r := by rw [if_pos rfl] at H; exact H
              clear H
              have H := H1
              clear H1
              by_cases c87 : (x259000_1.length : Int) > 0
              ·rw [if_pos c87] at H
               exact absurd H (by simp)
              ·rw [if_neg c87] at H
               have c87b0 : decide (0 < (x259000_1.length : Int)) = false := decide_eq_false c87
               have c87b1 : decide (0 < x259000_1.length) = false := decide_eq_false (by omega)
               clear c87
               have H' := Aside0.mk H
               clear H
               have hnb88 := NB258_261.out
               have hnc88 := NB261_258.out
               have hnb89 := NB258_289.out
               have hnc89 := NB289_258.out
               have hcz90_0 : wc.cell? ⟨gb258, 0, none⟩ = some (.slice Ao73 x259000_1.length co73) := (blk_cell BK258.out 0).trans rfl
               have hcz90_1 : wc.cell? ⟨gb258, 1, none⟩ = some (.slice Ao14 x259001_1.length co14) := (blk_cell BK258.out 1).trans rfl
               have hfz90_0 := blk_frozen BK258.out 0
               have hfz90_1 := blk_frozen BK258.out 1
               have hnb91 := NB289_261.out
               have hnc91 := NB261_289.out
               have hcz92_0 : wc.cell? ⟨gb289, 0, none⟩ = some (.slice Ao76 t281.length co76) := (blk_cell BK289.out 0).trans rfl
               have hcz92_1 : wc.cell? ⟨gb289, 1, none⟩ = some (.slice Ao80 t284.length co80) := (blk_cell BK289.out 1).trans rfl
               have hfz92_0 := blk_frozen BK289.out 0
               have hfz92_1 := blk_frozen BK289.out 1
               go_wp2
               go_meet
               case rel => exact ⟨_, (x4_1), (x5_1), (wrap64 (x6_1 + 1)), (x7_1), (t281), (t284), (.slice Ao76 t281.length co76), (.slice Ao80 t284.length co80), (by first | rfl | (simp; done) | (simp [*]; done)), (by first | rfl | (simp; done) | (simp [*]; done)), (by first | rfl | (simp; done) | (simp [*]; done)), H', ⟨by have := HK1.out; have := HJ69.out; first | omega | exact Nat.le_refl _⟩, ⟨by (with_reducible repeat (first | apply Kd.R_alloc | apply Kd.R_drewN | apply Kd.R_drew)); exact Kd.R_mono (Kd.R_far (p := ⟨gb258, 1, none⟩) (Kd.R_far (p := ⟨gb258, 0, none⟩) (Kd.R_types HO_7.out BK258.out (by decide)) (fun _ hk => hk.2) (.slice Ao76 t281.length co76)) (fun _ hk => hk.2) (.slice Ao80 t284.length co80)) (fun _ hk => trivial)⟩, ⟨by (with_reducible repeat (first | apply Kd.V_alloc | apply Kd.V_drewN | apply Kd.V_drew)); exact Kd.V_mono (Kd.V_far (p := ⟨gb258, 1, none⟩) (Kd.V_far (p := ⟨gb258, 0, none⟩) (Kd.V_mono HO_290000.out (fun k_ hk => (⟨hk, hk.2.1⟩ : _ ∧ k_ ≠ gb258))) (fun _ hk => hk.2) (.slice Ao76 t281.length co76)) (fun _ hk => hk.2) (.slice Ao80 t284.length co80)) (fun _ hk => ⟨hk.1.1, ⟨hk.1.2.1, hk.1.2.2.1⟩⟩)⟩, ⟨by (with_reducible repeat (first | apply Kd.V_alloc | apply Kd.V_drewN | apply Kd.V_drew)); exact Kd.V_mono (Kd.V_far (p := ⟨gb258, 1, none⟩) (Kd.V_far (p := ⟨gb258, 0, none⟩) (Kd.V_mono HO_290001.out (fun k_ hk => (⟨hk, hk.2.1⟩ : _ ∧ k_ ≠ gb258))) (fun _ hk => hk.2) (.slice Ao76 t281.length co76)) (fun _ hk => hk.2) (.slice Ao80 t284.length co80)) (fun _ hk => ⟨hk.1.1, ⟨hk.1.2.1, hk.1.2.2.1⟩⟩)⟩, ⟨by (with_reducible repeat (first | refine blk_drewN ?_ _ | refine blk_drew ?_ | refine blk_alloc ?_ _)); refine blk_put (cs := #[.slice Ao76 t281.length co76, .slice Ao14 x259001_1.length co14]) ?_ 1 _ rfl; (with_reducible repeat (first | refine blk_drewN ?_ _ | refine blk_drew ?_ | refine blk_alloc ?_ _)); refine blk_put (cs := #[.slice Ao73 x259000_1.length co73, .slice Ao14 x259001_1.length co14]) ?_ 0 _ rfl; (with_reducible repeat (first | refine blk_drewN ?_ _ | refine blk_drew ?_ | refine blk_alloc ?_ _)); exact BK258.out⟩, ⟨by (with_reducible repeat (first | refine blk_drewN ?_ _ | refine blk_drew ?_ | refine blk_alloc ?_ _)); refine blk_far ?_ NB261_258.out _; (with_reducible repeat (first | refine blk_drewN ?_ _ | refine blk_drew ?_ | refine blk_alloc ?_ _)); refine blk_far ?_ NB261_258.out _; (with_reducible repeat (first | refine blk_drewN ?_ _ | refine blk_drew ?_ | refine blk_alloc ?_ _)); exact BK261.out⟩, ⟨by repeat (first | (with_reducible first | exact HB.out | apply below_alloc | apply pw_below_drewN | apply below_drew1 | refine below_set ?_ GE258.out | refine below_set ?_ GE261.out | refine below_set ?_ GE289.out) | exact HB.out)⟩⟩
             ·replace c86 := Bool.eq_false_iff.mpr c86
              subst c86
              have H1 : (handshakerlaw20_CondKeeps.j2 kj69 x4_1 x5_1 x6_1 x7_1 l0 (l0.length : Int) x35_1 t281 t284) = some r := by rw [if_neg (show ¬ (false = true) by decide)] at H; exact H
              clear H
              have H := H1
              clear H1
              have H' := Aside0.mk H
              clear H
              have hnb93 := NB289_258.out
              have hnc93 := NB258_289.out
              have hnb94 := NB289_261.out
              have hnc94 := NB261_289.out
              have hcz95_0 : wc.cell? ⟨gb289, 0, none⟩ = some (.slice Ao76 t281.length co76) := (blk_cell BK289.out 0).trans rfl
              have hcz95_1 : wc.cell? ⟨gb289, 1, none⟩ = some (.slice Ao80 t284.length co80) := (blk_cell BK289.out 1).trans rfl
              have hfz95_0 := blk_frozen BK289.out 0
              have hfz95_1 := blk_frozen BK289.out 1
              have hnb96 := NB258_261.out
              have hnc96 := NB261_258.out
              have hcz97_0 : wc.cell? ⟨gb258, 0, none⟩ = some (.slice Ao73 x259000_1.length co73) := (blk_cell BK258.out 0).trans rfl
              have hcz97_1 : wc.cell? ⟨gb258, 1, none⟩ = some (.slice Ao14 x259001_1.length co14) := (blk_cell BK258.out 1).trans rfl
              have hfz97_0 := blk_frozen BK258.out 0
              have hfz97_1 := blk_frozen BK258.out 1
              go_wp2
              go_meet
              case rel => exact ⟨_, (x4_1), (x5_1), (x6_1), (x7_1), (t281), (t284), (.slice Ao76 t281.length co76), (.slice Ao80 t284.length co80), (by first | rfl | (simp; done) | (simp [*]; done)), (by first | rfl | (simp; done) | (simp [*]; done)), (by first | rfl | (simp; done) | (simp [*]; done)), H', ⟨by have := HK1.out; have := HJ69.out; first | omega | exact Nat.le_refl _⟩, ⟨by (with_reducible repeat (first | apply Kd.R_alloc | apply Kd.R_drewN | apply Kd.R_drew)); exact Kd.R_mono (Kd.R_far (p := ⟨gb258, 1, none⟩) (Kd.R_far (p := ⟨gb258, 0, none⟩) (Kd.R_types HO_7.out BK258.out (by decide)) (fun _ hk => hk.2) (.slice Ao76 t281.length co76)) (fun _ hk => hk.2) (.slice Ao80 t284.length co80)) (fun _ hk => trivial)⟩, ⟨by (with_reducible repeat (first | apply Kd.V_alloc | apply Kd.V_drewN | apply Kd.V_drew)); exact Kd.V_mono (Kd.V_far (p := ⟨gb258, 1, none⟩) (Kd.V_far (p := ⟨gb258, 0, none⟩) (Kd.V_mono HO_290000.out (fun k_ hk => (⟨hk, hk.2.1⟩ : _ ∧ k_ ≠ gb258))) (fun _ hk => hk.2) (.slice Ao76 t281.length co76)) (fun _ hk => hk.2) (.slice Ao80 t284.length co80)) (fun _ hk => ⟨hk.1.1, ⟨hk.1.2.1, hk.1.2.2.1⟩⟩)⟩, ⟨by (with_reducible repeat (first | apply Kd.V_alloc | apply Kd.V_drewN | apply Kd.V_drew)); exact Kd.V_mono (Kd.V_far (p := ⟨gb258, 1, none⟩) (Kd.V_far (p := ⟨gb258, 0, none⟩) (Kd.V_mono HO_290001.out (fun k_ hk => (⟨hk, hk.2.1⟩ : _ ∧ k_ ≠ gb258))) (fun _ hk => hk.2) (.slice Ao76 t281.length co76)) (fun _ hk => hk.2) (.slice Ao80 t284.length co80)) (fun _ hk => ⟨hk.1.1, ⟨hk.1.2.1, hk.1.2.2.1⟩⟩)⟩, ⟨by (with_reducible repeat (first | refine blk_drewN ?_ _ | refine blk_drew ?_ | refine blk_alloc ?_ _)); refine blk_put (cs := #[.slice Ao76 t281.length co76, .slice Ao14 x259001_1.length co14]) ?_ 1 _ rfl; (with_reducible repeat (first | refine blk_drewN ?_ _ | refine blk_drew ?_ | refine blk_alloc ?_ _)); refine blk_put (cs := #[.slice Ao73 x259000_1.length co73, .slice Ao14 x259001_1.length co14]) ?_ 0 _ rfl; (with_reducible repeat (first | refine blk_drewN ?_ _ | refine blk_drew ?_ | refine blk_alloc ?_ _)); exact BK258.out⟩, ⟨by (with_reducible repeat (first | refine blk_drewN ?_ _ | refine blk_drew ?_ | refine blk_alloc ?_ _)); refine blk_far ?_ NB261_258.out _; (with_reducible repeat (first | refine blk_drewN ?_ _ | refine blk_drew ?_ | refine blk_alloc ?_ _)); refine blk_far ?_ NB261_258.out _; (with_reducible repeat (first | refine blk_drewN ?_ _ | refine blk_drew ?_ | refine blk_alloc ?_ _)); exact BK261.out⟩, ⟨by repeat (first | (with_reducible first | exact HB.out | apply below_alloc | apply pw_below_drewN | apply below_drew1 | refine below_set ?_ GE258.out | refine below_set ?_ GE261.out | refine below_set ?_ GE289.out) | exact HB.out)⟩⟩
          ·rw [if_neg c68] at H
           have c68b0 : ((Int.tmod ((rd_T48 l0 x35_1).f0) 4) == 2) = false := beq_eq_false_iff_ne.mpr c68
           have c68b1 : ((Int.tmod ((rd_T48 l0 x35_1).f0) 4) != 2) = true := bne_iff_ne.mpr c68
           replace H := Option.bind_eq_some_iff.mp H
           obtain ⟨⟨t290, t293, t296⟩, A980, H⟩ := H
           replace H : (handshakerlaw20_CondKeeps.j2 k1 (wrap64 (x4_1 + (t296.length : Int))) x5_1 x6_1 x7_1 l0 (l0.length : Int) x35_1 t290 t293) = some r := H
           have A98 := Aside0.mk A980
           clear A980
           have H' := Aside0.mk H
           clear H
           have hnb99 := NB258_261.out
           have hnc99 := NB261_258.out
           have hcz100_0 : w10.cell? ⟨gb258, 0, none⟩ = some (u259000) := (blk_cell BK258.out 0).trans rfl
           have hcz100_1 : w10.cell? ⟨gb258, 1, none⟩ = some (.slice Ao14 x259001_1.length co14) := (blk_cell BK258.out 1).trans rfl
           have hfz100_0 := blk_frozen BK258.out 0
           have hfz100_1 := blk_frozen BK258.out 1
           obtain ⟨Ao101, co101, eo101⟩ := Kd.V_slice HO_259000.out
           subst eo101
           go_wp2_with (first | ((with_reducible refine gate_callee (f := 13) rfl ?_); refine goesL_ (some 52) rfl rfl Try.func13 (by kernel_rfl) rfl #[.agg #[.slice Ao101 x259000_1.length co101, .slice Ao14 x259001_1.length co14], .int .i64 1] rfl zm ?_; (with_reducible refine (cond_Signal.calls k1 (fun k_ => ((some k_ ≠ (u7 : Value).ownBlock ∧ k_ ≠ gb258) ∧ k_ ≠ gb261)) _ _ x259000_1 (fun k_ => ((some k_ ≠ (u7 : Value).ownBlock ∧ k_ ≠ gb258) ∧ k_ ≠ gb261)) _ _ x259001_1 1 t290 t293 t296 _ ?side1 ?side2 A98.out).mono ?_); (case side1 => exact (by (with_reducible repeat (first | apply Kd.V_alloc | apply Kd.V_drewN | apply Kd.V_drew)); exact (Kd.V_mono (Kd.V_far (p := ⟨gb261, 1, none⟩) (Kd.V_far (p := ⟨gb261, 0, none⟩) (Kd.V_mono HO_259000.out (fun k_ hk => (⟨hk, hk.2⟩ : _ ∧ k_ ≠ gb261))) (fun _ hk => hk.2) (.int .u8 ((rd_T48 l0 x35_1).f0))) (fun _ hk => hk.2) (.int .u8 ((rd_T48 l0 x35_1).f1))) (fun _ h_ => h_.1)))); (case side2 => exact (by (with_reducible repeat (first | apply Kd.V_alloc | apply Kd.V_drewN | apply Kd.V_drew)); exact (Kd.V_mono (Kd.V_far (p := ⟨gb261, 1, none⟩) (Kd.V_far (p := ⟨gb261, 0, none⟩) (Kd.V_mono HO_259001.out (fun k_ hk => (⟨hk, hk.2⟩ : _ ∧ k_ ≠ gb261))) (fun _ hk => hk.2) (.int .u8 ((rd_T48 l0 x35_1).f0))) (fun _ hk => hk.2) (.int .u8 ((rd_T48 l0 x35_1).f1))) (fun _ h_ => h_.1)))); rintro e w102 ⟨v291, v294, v297, rfl, ho0, ho1, ho2, hb⟩; refine ⟨_, rfl, ?_⟩; have n0_ := Aside0.mk (Kd.R_below (by (with_reducible repeat (first | apply Kd.R_alloc | apply Kd.R_drewN | apply Kd.R_drew)); exact (Kd.R_mono (Kd.R_far (p := ⟨gb261, 1, none⟩) (Kd.R_far (p := ⟨gb261, 0, none⟩) (Kd.R_types HO_7.out BK261.out (by decide)) (fun _ hk => hk.2) (.int .u8 ((rd_T48 l0 x35_1).f0))) (fun _ hk => hk.2) (.int .u8 ((rd_T48 l0 x35_1).f1))) (fun _ h_ => h_.1))) hb); have n1_ := Aside0.mk (Kd.V_below (by (with_reducible repeat (first | apply Kd.V_alloc | apply Kd.V_drewN | apply Kd.V_drew)); exact (Kd.V_mono (Kd.V_far (p := ⟨gb261, 1, none⟩) (Kd.V_far (p := ⟨gb261, 0, none⟩) (Kd.V_mono HO_259000.out (fun k_ hk => (⟨hk, hk.2⟩ : _ ∧ k_ ≠ gb261))) (fun _ hk => hk.2) (.int .u8 ((rd_T48 l0 x35_1).f0))) (fun _ hk => hk.2) (.int .u8 ((rd_T48 l0 x35_1).f1))) (fun _ h_ => h_.1))) hb); have n2_ := Aside0.mk (Kd.V_below (by (with_reducible repeat (first | apply Kd.V_alloc | apply Kd.V_drewN | apply Kd.V_drew)); exact (Kd.V_mono (Kd.V_far (p := ⟨gb261, 1, none⟩) (Kd.V_far (p := ⟨gb261, 0, none⟩) (Kd.V_mono HO_259001.out (fun k_ hk => (⟨hk, hk.2⟩ : _ ∧ k_ ≠ gb261))) (fun _ hk => hk.2) (.int .u8 ((rd_T48 l0 x35_1).f0))) (fun _ hk => hk.2) (.int .u8 ((rd_T48 l0 x35_1).f1))) (fun _ h_ => h_.1))) hb); have n3_ := Aside0.mk (Kd.V_lower (Kd.V_mono (ok' := fun k_ => some k_ ≠ (u7 : Value).ownBlock ∧ k_ ≠ gb258 ∧ k_ ≠ gb261) ho0 (fun k_ hk_ => ⟨Or.elim hk_ (fun hs_ => Or.elim hs_ (fun hs_ => hs_.1.1) (fun hs_ => hs_.1.1)) (fun hn_ => (Kd.fresh' (Kd.R_lt (by (with_reducible repeat (first | apply Kd.R_alloc | apply Kd.R_drewN | apply Kd.R_drew)); exact (Kd.R_mono (Kd.R_far (p := ⟨gb261, 1, none⟩) (Kd.R_far (p := ⟨gb261, 0, none⟩) (Kd.R_types HO_7.out BK261.out (by decide)) (fun _ hk => hk.2) (.int .u8 ((rd_T48 l0 x35_1).f0))) (fun _ hk => hk.2) (.int .u8 ((rd_T48 l0 x35_1).f1))) (fun _ h_ => h_.1)))) k_ hn_)), Or.elim hk_ (fun hs_ => Or.elim hs_ (fun hs_ => hs_.1.2) (fun hs_ => hs_.1.2)) (fun hn_ => (Kd.freshB (g := gb258) (o := .cells #[.slice Ao101 x259000_1.length co101, .slice Ao14 x259001_1.length co14] 24 (0, 0)) (by (with_reducible repeat (first | refine blk_drewN ?_ _ | refine blk_drew ?_ | refine blk_alloc ?_ _)); refine blk_far ?_ NB258_261.out _; (with_reducible repeat (first | refine blk_drewN ?_ _ | refine blk_drew ?_ | refine blk_alloc ?_ _)); refine blk_far ?_ NB258_261.out _; (with_reducible repeat (first | refine blk_drewN ?_ _ | refine blk_drew ?_ | refine blk_alloc ?_ _)); exact BK258.out) k_ hn_)), Or.elim hk_ (fun hs_ => Or.elim hs_ (fun hs_ => hs_.2) (fun hs_ => hs_.2)) (fun hn_ => (Kd.freshB (g := gb261) (o := .cells #[.int .u8 ((rd_T48 l0 x35_1).f0), .int .u8 ((rd_T48 l0 x35_1).f1)] 48 (0, 0)) (by (with_reducible repeat (first | refine blk_drewN ?_ _ | refine blk_drew ?_ | refine blk_alloc ?_ _)); refine blk_put (cs := #[.int .u8 ((rd_T48 l0 x35_1).f0), .int .u8 0]) ?_ 1 _ rfl; (with_reducible repeat (first | refine blk_drewN ?_ _ | refine blk_drew ?_ | refine blk_alloc ?_ _)); refine blk_put (cs := #[.int .u8 0, .int .u8 0]) ?_ 0 _ rfl; (with_reducible repeat (first | refine blk_drewN ?_ _ | refine blk_drew ?_ | refine blk_alloc ?_ _)); exact BK261.out) k_ hn_))⟩)) (below_size (zc2 HB GE258 GE261))); have n4_ := Aside0.mk (Kd.V_lower (Kd.V_mono (ok' := fun k_ => some k_ ≠ (u7 : Value).ownBlock ∧ k_ ≠ gb258 ∧ k_ ≠ gb261) ho1 (fun k_ hk_ => ⟨Or.elim hk_ (fun hs_ => Or.elim hs_ (fun hs_ => hs_.1.1) (fun hs_ => hs_.1.1)) (fun hn_ => (Kd.fresh' (Kd.R_lt (by (with_reducible repeat (first | apply Kd.R_alloc | apply Kd.R_drewN | apply Kd.R_drew)); exact (Kd.R_mono (Kd.R_far (p := ⟨gb261, 1, none⟩) (Kd.R_far (p := ⟨gb261, 0, none⟩) (Kd.R_types HO_7.out BK261.out (by decide)) (fun _ hk => hk.2) (.int .u8 ((rd_T48 l0 x35_1).f0))) (fun _ hk => hk.2) (.int .u8 ((rd_T48 l0 x35_1).f1))) (fun _ h_ => h_.1)))) k_ hn_)), Or.elim hk_ (fun hs_ => Or.elim hs_ (fun hs_ => hs_.1.2) (fun hs_ => hs_.1.2)) (fun hn_ => (Kd.freshB (g := gb258) (o := .cells #[.slice Ao101 x259000_1.length co101, .slice Ao14 x259001_1.length co14] 24 (0, 0)) (by (with_reducible repeat (first | refine blk_drewN ?_ _ | refine blk_drew ?_ | refine blk_alloc ?_ _)); refine blk_far ?_ NB258_261.out _; (with_reducible repeat (first | refine blk_drewN ?_ _ | refine blk_drew ?_ | refine blk_alloc ?_ _)); refine blk_far ?_ NB258_261.out _; (with_reducible repeat (first | refine blk_drewN ?_ _ | refine blk_drew ?_ | refine blk_alloc ?_ _)); exact BK258.out) k_ hn_)), Or.elim hk_ (fun hs_ => Or.elim hs_ (fun hs_ => hs_.2) (fun hs_ => hs_.2)) (fun hn_ => (Kd.freshB (g := gb261) (o := .cells #[.int .u8 ((rd_T48 l0 x35_1).f0), .int .u8 ((rd_T48 l0 x35_1).f1)] 48 (0, 0)) (by (with_reducible repeat (first | refine blk_drewN ?_ _ | refine blk_drew ?_ | refine blk_alloc ?_ _)); refine blk_put (cs := #[.int .u8 ((rd_T48 l0 x35_1).f0), .int .u8 0]) ?_ 1 _ rfl; (with_reducible repeat (first | refine blk_drewN ?_ _ | refine blk_drew ?_ | refine blk_alloc ?_ _)); refine blk_put (cs := #[.int .u8 0, .int .u8 0]) ?_ 0 _ rfl; (with_reducible repeat (first | refine blk_drewN ?_ _ | refine blk_drew ?_ | refine blk_alloc ?_ _)); exact BK261.out) k_ hn_))⟩)) (below_size (zc2 HB GE258 GE261))); have n5_ := Aside0.mk (Kd.V_lower (Kd.V_mono (ok' := fun k_ => some k_ ≠ (u7 : Value).ownBlock ∧ k_ ≠ gb258 ∧ k_ ≠ gb261) ho2 (fun k_ hk_ => ⟨Or.elim hk_ (fun hs_ => Or.elim hs_ (fun hs_ => hs_.1.1) (fun hs_ => hs_.1.1)) (fun hn_ => (Kd.fresh' (Kd.R_lt (by (with_reducible repeat (first | apply Kd.R_alloc | apply Kd.R_drewN | apply Kd.R_drew)); exact (Kd.R_mono (Kd.R_far (p := ⟨gb261, 1, none⟩) (Kd.R_far (p := ⟨gb261, 0, none⟩) (Kd.R_types HO_7.out BK261.out (by decide)) (fun _ hk => hk.2) (.int .u8 ((rd_T48 l0 x35_1).f0))) (fun _ hk => hk.2) (.int .u8 ((rd_T48 l0 x35_1).f1))) (fun _ h_ => h_.1)))) k_ hn_)), Or.elim hk_ (fun hs_ => Or.elim hs_ (fun hs_ => hs_.1.2) (fun hs_ => hs_.1.2)) (fun hn_ => (Kd.freshB (g := gb258) (o := .cells #[.slice Ao101 x259000_1.length co101, .slice Ao14 x259001_1.length co14] 24 (0, 0)) (by (with_reducible repeat (first | refine blk_drewN ?_ _ | refine blk_drew ?_ | refine blk_alloc ?_ _)); refine blk_far ?_ NB258_261.out _; (with_reducible repeat (first | refine blk_drewN ?_ _ | refine blk_drew ?_ | refine blk_alloc ?_ _)); refine blk_far ?_ NB258_261.out _; (with_reducible repeat (first | refine blk_drewN ?_ _ | refine blk_drew ?_ | refine blk_alloc ?_ _)); exact BK258.out) k_ hn_)), Or.elim hk_ (fun hs_ => Or.elim hs_ (fun hs_ => hs_.2) (fun hs_ => hs_.2)) (fun hn_ => (Kd.freshB (g := gb261) (o := .cells #[.int .u8 ((rd_T48 l0 x35_1).f0), .int .u8 ((rd_T48 l0 x35_1).f1)] 48 (0, 0)) (by (with_reducible repeat (first | refine blk_drewN ?_ _ | refine blk_drew ?_ | refine blk_alloc ?_ _)); refine blk_put (cs := #[.int .u8 ((rd_T48 l0 x35_1).f0), .int .u8 0]) ?_ 1 _ rfl; (with_reducible repeat (first | refine blk_drewN ?_ _ | refine blk_drew ?_ | refine blk_alloc ?_ _)); refine blk_put (cs := #[.int .u8 0, .int .u8 0]) ?_ 0 _ rfl; (with_reducible repeat (first | refine blk_drewN ?_ _ | refine blk_drew ?_ | refine blk_alloc ?_ _)); exact BK261.out) k_ hn_))⟩)) (below_size (zc2 HB GE258 GE261))); have n6_ := Aside0.mk (blk_below (g := gb258) (o := .cells #[.slice Ao101 x259000_1.length co101, .slice Ao14 x259001_1.length co14] 24 (0, 0)) (by (with_reducible repeat (first | refine blk_drewN ?_ _ | refine blk_drew ?_ | refine blk_alloc ?_ _)); refine blk_far ?_ NB258_261.out _; (with_reducible repeat (first | refine blk_drewN ?_ _ | refine blk_drew ?_ | refine blk_alloc ?_ _)); refine blk_far ?_ NB258_261.out _; (with_reducible repeat (first | refine blk_drewN ?_ _ | refine blk_drew ?_ | refine blk_alloc ?_ _)); exact BK258.out) hb); have n7_ := Aside0.mk (blk_below (g := gb261) (o := .cells #[.int .u8 ((rd_T48 l0 x35_1).f0), .int .u8 ((rd_T48 l0 x35_1).f1)] 48 (0, 0)) (by (with_reducible repeat (first | refine blk_drewN ?_ _ | refine blk_drew ?_ | refine blk_alloc ?_ _)); refine blk_put (cs := #[.int .u8 ((rd_T48 l0 x35_1).f0), .int .u8 0]) ?_ 1 _ rfl; (with_reducible repeat (first | refine blk_drewN ?_ _ | refine blk_drew ?_ | refine blk_alloc ?_ _)); refine blk_put (cs := #[.int .u8 0, .int .u8 0]) ?_ 0 _ rfl; (with_reducible repeat (first | refine blk_drewN ?_ _ | refine blk_drew ?_ | refine blk_alloc ?_ _)); exact BK261.out) hb); have n8_ := Aside0.mk (below_step (zc2 HB GE258 GE261) hb); clear HO_7; clear HO_259000; clear HO_259001; clear BK258; clear BK261; clear HB; have HO_7 := n0_; have HO_259000 := n1_; have HO_259001 := n2_; have HO292 := n3_; have HO295 := n4_; have HO298 := n5_; have BK258 := n6_; have BK261 := n7_; have HB := n8_; clear n0_ n1_ n2_ n3_ n4_ n5_ n6_ n7_ n8_; (try clear hb); (try clear hb2); (try clear hk); (try clear hi); (try clear ho0); (try clear ho1); (try clear ho2)) | ((with_reducible refine gate_dst (N := 19) rfl ?_); (try (refine gate_guard (by rfl) ?_; dsimp only)); refine box_event ?hg (N := 19) ?hd (cs := #[.slice none 0 0, .slice none 0 0]) (t := 24) ?hr ?_; (case hd => rfl); (case hg => rfl); (case hr => first | (go_simp; done) | (go_simp; rfl)); intro gb299 hg w103 hbox hb; have n0_ := Aside0.mk (Kd.R_below (zR HO_7) hb); have n1_ := Aside0.mk (Kd.V_below (Kd.V_elderB (zV HO_259000) gb299 (Nat.le_of_eq hg.symm)) hb); have n2_ := Aside0.mk (Kd.V_below (Kd.V_elderB (zV HO_259001) gb299 (Nat.le_of_eq hg.symm)) hb); have n3_ := Aside0.mk (Kd.V_below (Kd.V_elderB (zV HO292) gb299 (Nat.le_of_eq hg.symm)) hb); have n4_ := Aside0.mk (Kd.V_below (Kd.V_elderB (zV HO295) gb299 (Nat.le_of_eq hg.symm)) hb); have n5_ := Aside0.mk (Kd.V_below (Kd.V_elderB (zV HO298) gb299 (Nat.le_of_eq hg.symm)) hb); have n6_ := Aside0.mk (blk_below (g := gb258) (o := .cells #[.slice Ao101 x259000_1.length co101, .slice Ao14 x259001_1.length co14] 24 (0, 0)) (zb BK258) hb); have n7_ := Aside0.mk (blk_below (g := gb261) (o := .cells #[.int .u8 ((rd_T48 l0 x35_1).f0), .int .u8 ((rd_T48 l0 x35_1).f1)] 48 (0, 0)) (zb BK261) hb); have n8_ := Aside0.mk (below_step (zc2 HB GE258 GE261) hb); have n9_ := Aside0.mk (hbox); have n10_ := Aside0.mk ((by rw [hg]; exact (below_size (zc2 HB GE258 GE261)) : w.heap.size ≤ gb299)); have n11_ := Aside0.mk ((by rw [hg]; exact (below_size (zc2 HB GE258 GE261)) : w.heap.size ≤ gb299)); have n12_ := Aside0.mk ((by rw [hg]; exact Nat.ne_of_lt (blk_lt (g := gb258) (o := .cells #[.slice Ao101 x259000_1.length co101, .slice Ao14 x259001_1.length co14] 24 (0, 0)) (zb BK258)) : gb258 ≠ gb299)); have n13_ := Aside0.mk ((by rw [hg]; exact Nat.ne_of_gt (blk_lt (g := gb258) (o := .cells #[.slice Ao101 x259000_1.length co101, .slice Ao14 x259001_1.length co14] 24 (0, 0)) (zb BK258)) : gb299 ≠ gb258)); have n14_ := Aside0.mk ((by rw [hg]; exact Nat.ne_of_lt (blk_lt (g := gb261) (o := .cells #[.int .u8 ((rd_T48 l0 x35_1).f0), .int .u8 ((rd_T48 l0 x35_1).f1)] 48 (0, 0)) (zb BK261)) : gb261 ≠ gb299)); have n15_ := Aside0.mk ((by rw [hg]; exact Nat.ne_of_gt (blk_lt (g := gb261) (o := .cells #[.int .u8 ((rd_T48 l0 x35_1).f0), .int .u8 ((rd_T48 l0 x35_1).f1)] 48 (0, 0)) (zb BK261)) : gb299 ≠ gb261)); clear HO_7; clear HO_259000; clear HO_259001; clear HO292; clear HO295; clear HO298; clear BK258; clear BK261; clear HB; have HO_7 := n0_; have HO_259000 := n1_; have HO_259001 := n2_; have HO292 := n3_; have HO295 := n4_; have HO298 := n5_; have BK258 := n6_; have BK261 := n7_; have HB := n8_; have BK299 := n9_; have GW299 := n10_; have GE299 := n11_; have NB258_299 := n12_; have NB299_258 := n13_; have NB261_299 := n14_; have NB299_261 := n15_; clear n0_ n1_ n2_ n3_ n4_ n5_ n6_ n7_ n8_ n9_ n10_ n11_ n12_ n13_ n14_ n15_; clear hb hbox hg; obtain ⟨Ao104, co104, eo104⟩ := Kd.V_slice HO292.out; subst eo104; have hnb105 := NB299_258.out; have hnc105 := NB258_299.out; have hnb106 := NB299_261.out; have hnc106 := NB261_299.out; have hcz107_0 : w103.cell? ⟨gb299, 0, none⟩ = some (.slice none 0 0) := (blk_cell BK299.out 0).trans rfl; have hcz107_1 : w103.cell? ⟨gb299, 1, none⟩ = some (.slice none 0 0) := (blk_cell BK299.out 1).trans rfl; have hfz107_0 := blk_frozen BK299.out 0; have hfz107_1 := blk_frozen BK299.out 1; obtain ⟨Ao108, co108, eo108⟩ := Kd.V_slice HO295.out; subst eo108; obtain ⟨Ao109, co109, eo109⟩ := Kd.V_slice HO298.out; subst eo109; have hcz110_0 : w103.cell? ⟨gb258, 0, none⟩ = some (.slice Ao101 x259000_1.length co101) := (blk_cell BK258.out 0).trans rfl; have hcz110_1 : w103.cell? ⟨gb258, 1, none⟩ = some (.slice Ao14 x259001_1.length co14) := (blk_cell BK258.out 1).trans rfl; have hfz110_0 := blk_frozen BK258.out 0; have hfz110_1 := blk_frozen BK258.out 1))
           go_meet
           case rel => exact ⟨_, (wrap64 (x4_1 + (t296.length : Int))), (x5_1), (x6_1), (x7_1), (t290), (t293), (.slice Ao104 t290.length co104), (.slice Ao108 t293.length co108), (by first | rfl | (simp; done) | (simp [*]; done)), (by first | rfl | (simp; done) | (simp [*]; done)), (by first | rfl | (simp; done) | (simp [*]; done)), H', ⟨by have := HK1.out; first | omega | exact Nat.le_refl _⟩, ⟨by (with_reducible repeat (first | apply Kd.R_alloc | apply Kd.R_drewN | apply Kd.R_drew)); exact Kd.R_mono (Kd.R_far (p := ⟨gb258, 1, none⟩) (Kd.R_far (p := ⟨gb258, 0, none⟩) (Kd.R_far (p := ⟨gb299, 1, none⟩) (Kd.R_far (p := ⟨gb299, 0, none⟩) (Kd.R_types (Kd.R_types HO_7.out BK299.out (by decide)) BK258.out (by decide)) (fun _ hk => hk.1.2) (.slice Ao104 t290.length co104)) (fun _ hk => hk.1.2) (.slice Ao108 t293.length co108)) (fun _ hk => hk.2) (.slice Ao104 t290.length co104)) (fun _ hk => hk.2) (.slice Ao108 t293.length co108)) (fun _ hk => trivial)⟩, ⟨by (with_reducible repeat (first | apply Kd.V_alloc | apply Kd.V_drewN | apply Kd.V_drew)); exact Kd.V_mono (Kd.V_far (p := ⟨gb258, 1, none⟩) (Kd.V_far (p := ⟨gb258, 0, none⟩) (Kd.V_far (p := ⟨gb299, 1, none⟩) (Kd.V_far (p := ⟨gb299, 0, none⟩) (Kd.V_mono (Kd.V_mono HO292.out (fun k_ hk => (⟨hk, hk.2⟩ : _ ∧ k_ ≠ gb299))) (fun k_ hk => (⟨hk, hk.1.1.2.1⟩ : _ ∧ k_ ≠ gb258))) (fun _ hk => hk.1.2) (.slice Ao104 t290.length co104)) (fun _ hk => hk.1.2) (.slice Ao108 t293.length co108)) (fun _ hk => hk.2) (.slice Ao104 t290.length co104)) (fun _ hk => hk.2) (.slice Ao108 t293.length co108)) (fun _ hk => ⟨hk.1.1.1.1, ⟨hk.1.1.1.2.1, hk.1.1.1.2.2⟩⟩)⟩, ⟨by (with_reducible repeat (first | apply Kd.V_alloc | apply Kd.V_drewN | apply Kd.V_drew)); exact Kd.V_mono (Kd.V_far (p := ⟨gb258, 1, none⟩) (Kd.V_far (p := ⟨gb258, 0, none⟩) (Kd.V_far (p := ⟨gb299, 1, none⟩) (Kd.V_far (p := ⟨gb299, 0, none⟩) (Kd.V_mono (Kd.V_mono HO295.out (fun k_ hk => (⟨hk, hk.2⟩ : _ ∧ k_ ≠ gb299))) (fun k_ hk => (⟨hk, hk.1.1.2.1⟩ : _ ∧ k_ ≠ gb258))) (fun _ hk => hk.1.2) (.slice Ao104 t290.length co104)) (fun _ hk => hk.1.2) (.slice Ao108 t293.length co108)) (fun _ hk => hk.2) (.slice Ao104 t290.length co104)) (fun _ hk => hk.2) (.slice Ao108 t293.length co108)) (fun _ hk => ⟨hk.1.1.1.1, ⟨hk.1.1.1.2.1, hk.1.1.1.2.2⟩⟩)⟩, ⟨by (with_reducible repeat (first | refine blk_drewN ?_ _ | refine blk_drew ?_ | refine blk_alloc ?_ _)); refine blk_put (cs := #[.slice Ao104 t290.length co104, .slice Ao14 x259001_1.length co14]) ?_ 1 _ rfl; (with_reducible repeat (first | refine blk_drewN ?_ _ | refine blk_drew ?_ | refine blk_alloc ?_ _)); refine blk_put (cs := #[.slice Ao101 x259000_1.length co101, .slice Ao14 x259001_1.length co14]) ?_ 0 _ rfl; (with_reducible repeat (first | refine blk_drewN ?_ _ | refine blk_drew ?_ | refine blk_alloc ?_ _)); refine blk_far ?_ NB258_299.out _; (with_reducible repeat (first | refine blk_drewN ?_ _ | refine blk_drew ?_ | refine blk_alloc ?_ _)); refine blk_far ?_ NB258_299.out _; (with_reducible repeat (first | refine blk_drewN ?_ _ | refine blk_drew ?_ | refine blk_alloc ?_ _)); exact BK258.out⟩, ⟨by (with_reducible repeat (first | refine blk_drewN ?_ _ | refine blk_drew ?_ | refine blk_alloc ?_ _)); refine blk_far ?_ NB261_258.out _; (with_reducible repeat (first | refine blk_drewN ?_ _ | refine blk_drew ?_ | refine blk_alloc ?_ _)); refine blk_far ?_ NB261_258.out _; (with_reducible repeat (first | refine blk_drewN ?_ _ | refine blk_drew ?_ | refine blk_alloc ?_ _)); refine blk_far ?_ NB261_299.out _; (with_reducible repeat (first | refine blk_drewN ?_ _ | refine blk_drew ?_ | refine blk_alloc ?_ _)); refine blk_far ?_ NB261_299.out _; (with_reducible repeat (first | refine blk_drewN ?_ _ | refine blk_drew ?_ | refine blk_alloc ?_ _)); exact BK261.out⟩, ⟨by repeat (first | (with_reducible first | exact HB.out | apply below_alloc | apply pw_below_drewN | apply below_drew1 | refine below_set ?_ GE258.out | refine below_set ?_ GE261.out | refine below_set ?_ GE299.out) | exact HB.out)⟩⟩
       case rest =>
        clear HC9
        try clear c1
        try clear c2
        try clear c2b0
        try clear c2b1
        try clear p2
        try clear q2
        try clear hx2
        try clear c3
        try clear c4
        try clear c5
        try clear c6
        try clear c6b0
        try clear p6
        try clear c7
        try clear c7b0
        try clear c8
        try clear c8b0
        try clear c9
        try clear c10
        try clear c11
        try clear c13
        try clear c15
        try clear c15b0
        try clear c15b1
        try clear c17
        try clear c17b0
        try clear c17b1
        try clear c18
        try clear c19
        try clear c25
        try clear c26
        try clear p26
        try clear q26
        try clear hx26
        try clear c32
        try clear c38
        try clear c39
        try clear c43
        try clear c43b0
        try clear c43b1
        try clear c45
        try clear c45b0
        try clear c45b1
        try clear c46
        try clear c52
        try clear c53
        try clear c57
        try clear c63
        try clear c64
        try clear p64
        try clear c68
        try clear c68b0
        try clear c68b1
        try clear c71
        try clear c77
        try clear c78
        try clear c81
        try clear c81b0
        try clear c81b1
        try clear c82
        try clear c83
        try clear c84
        try clear c86
        try clear c87
        try clear c87b0
        try clear c87b1
        try clear c88
        try clear c89
        try clear c91
        try clear c93
        try clear c94
        try clear c96
        try clear c99
        try clear c105
        try clear c106
        try clear hcz100_0
        try clear hcz100_1
        try clear hcz107_0
        try clear hcz107_1
        try clear hcz110_0
        try clear hcz110_1
        try clear hcz12_0
        try clear hcz12_1
        try clear hcz13_0
        try clear hcz13_1
        try clear hcz20_0
        try clear hcz20_1
        try clear hcz27_0
        try clear hcz27_1
        try clear hcz30_0
        try clear hcz30_1
        try clear hcz31_0
        try clear hcz31_1
        try clear hcz33_0
        try clear hcz33_1
        try clear hcz40_0
        try clear hcz40_1
        try clear hcz42_0
        try clear hcz42_1
        try clear hcz47_0
        try clear hcz47_1
        try clear hcz54_0
        try clear hcz54_1
        try clear hcz56_0
        try clear hcz56_1
        try clear hcz58_0
        try clear hcz58_1
        try clear hcz65_0
        try clear hcz65_1
        try clear hcz67_0
        try clear hcz67_1
        try clear hcz72_0
        try clear hcz72_1
        try clear hcz79_0
        try clear hcz79_1
        try clear hcz85_0
        try clear hcz85_1
        try clear hcz90_0
        try clear hcz90_1
        try clear hcz92_0
        try clear hcz92_1
        try clear hcz95_0
        try clear hcz95_1
        try clear hcz97_0
        try clear hcz97_1
        try clear hfz100_0
        try clear hfz100_1
        try clear hfz107_0
        try clear hfz107_1
        try clear hfz110_0
        try clear hfz110_1
        try clear hfz12_0
        try clear hfz12_1
        try clear hfz13_0
        try clear hfz13_1
        try clear hfz20_0
        try clear hfz20_1
        try clear hfz27_0
        try clear hfz27_1
        try clear hfz30_0
        try clear hfz30_1
        try clear hfz31_0
        try clear hfz31_1
        try clear hfz33_0
        try clear hfz33_1
        try clear hfz40_0
        try clear hfz40_1
        try clear hfz42_0
        try clear hfz42_1
        try clear hfz47_0
        try clear hfz47_1
        try clear hfz54_0
        try clear hfz54_1
        try clear hfz56_0
        try clear hfz56_1
        try clear hfz58_0
        try clear hfz58_1
        try clear hfz65_0
        try clear hfz65_1
        try clear hfz67_0
        try clear hfz67_1
        try clear hfz72_0
        try clear hfz72_1
        try clear hfz79_0
        try clear hfz79_1
        try clear hfz85_0
        try clear hfz85_1
        try clear hfz90_0
        try clear hfz90_1
        try clear hfz92_0
        try clear hfz92_1
        try clear hfz95_0
        try clear hfz95_1
        try clear hfz97_0
        try clear hfz97_1
        try clear hx260_0
        try clear hx260_1
        try clear p2
        try clear p26
        try clear p260
        try clear p6
        try clear p64
        try clear q2
        try clear q26
        try clear q260
        obtain ⟨kq, x4_8, x5_8, x6_8, x7_8, x259000_8, x259001_8, u259000, u259001, rfl, rfl, rfl, HA, HJ8, HO_7, HO_259000, HO_259001, BK258, BK261, HB⟩ := hcut
        cases kq with
        | zero => exact absurd HA.out (by simp [handshakerlaw20_CondKeeps.j2])
        | succ kj8 =>
         have H := HA.out
         clear HA
         simp only [handshakerlaw20_CondKeeps.j2] at H
         have HC111 := Aside0.mk H
         clear H
         go_upto_region 32 with (fail)
         go_cut [130] (fun v130 wc => ∃ (kq : Nat) (x130_110 : Bool), v130 = .bool x130_110 ∧ Aside0 (handshakerlaw20_CondKeeps.j3 kq x4_8 x5_8 x6_8 x7_8 l0 (l0.length : Int) x35_1 x130_110 x259000_8 x259001_8 = some r) ∧ Aside0 (kq ≤ kj8) ∧ Aside0 (Kd.R (Kd.int .i64) 3 wc w.heap.size (fun _ => True) u7 x7_8) ∧ Aside0 (Kd.V (Kd.int .i64) 3 wc w.heap.size (fun k_ => some k_ ≠ (u7 : Value).ownBlock ∧ k_ ≠ gb258 ∧ k_ ≠ gb261) u259000 x259000_8) ∧ Aside0 (Kd.V (Kd.int .i64) 3 wc w.heap.size (fun k_ => some k_ ≠ (u7 : Value).ownBlock ∧ k_ ≠ gb258 ∧ k_ ≠ gb261) u259001 x259001_8) ∧ Aside0 (wc.heap[gb258]? = some (.cells #[u259000, u259001] 24 (0, 0))) ∧ Aside0 (wc.heap[gb261]? = some (.cells #[.int .u8 ((rd_T48 l0 x35_1).f0), .int .u8 ((rd_T48 l0 x35_1).f1)] 48 (0, 0))) ∧ Aside0 (Below w.heap.size w wc))
         case first =>
          have H := HC111.out
          clear HC111
          replace H := Option.bind_eq_some_iff.mp H
          obtain ⟨t300, A1120, H⟩ := H
          replace H : (if t300 = true then (handshakerlaw20_CondKeeps.j3 kj8 x4_8 x5_8 x6_8 x7_8 l0 (l0.length : Int) x35_1 (x4_8 != (wrap64 ((wrap64 (x5_8 + x6_8)) + (x259001_8.length : Int)))) x259000_8 x259001_8) else (none)) = some r := H
          have A112 := Aside0.mk A1120
          clear A1120
          by_cases c113 : t300 = true
          ·subst c113
           have H1 : (handshakerlaw20_CondKeeps.j3 kj8 x4_8 x5_8 x6_8 x7_8 l0 (l0.length : Int) x35_1 (x4_8 != (wrap64 ((wrap64 (x5_8 + x6_8)) + (x259001_8.length : Int)))) x259000_8 x259001_8) = some r := by rw [if_pos rfl] at H; exact H
           clear H
           have H := H1
           clear H1
           have H' := Aside0.mk H
           clear H
           have hnb114 := NB258_261.out
           have hnc114 := NB261_258.out
           have hcz115_0 : wc.cell? ⟨gb258, 0, none⟩ = some (u259000) := (blk_cell BK258.out 0).trans rfl
           have hcz115_1 : wc.cell? ⟨gb258, 1, none⟩ = some (u259001) := (blk_cell BK258.out 1).trans rfl
           have hfz115_0 := blk_frozen BK258.out 0
           have hfz115_1 := blk_frozen BK258.out 1
           obtain ⟨Ao116, co116, eo116⟩ := Kd.V_slice HO_259000.out
           subst eo116
           obtain ⟨Ao117, co117, eo117⟩ := Kd.V_slice HO_259001.out
           subst eo117
           go_wp2_with (first | ((with_reducible refine gate_callee (f := 19) rfl ?_); refine goesL_ (some 118) rfl rfl Try.func19 (by kernel_rfl) rfl #[.agg #[.slice Ao116 x259000_8.length co116, .slice Ao117 x259001_8.length co117]] rfl zm ?_; (with_reducible refine (cond_Right.calls kj8 (fun k_ => (some k_ ≠ (u7 : Value).ownBlock ∧ (k_ ≠ gb258 ∧ k_ ≠ gb261))) _ _ x259000_8 (fun k_ => (some k_ ≠ (u7 : Value).ownBlock ∧ (k_ ≠ gb258 ∧ k_ ≠ gb261))) _ _ x259001_8 true _ ?side1 ?side2 A112.out).mono ?_); (case side1 => exact HO_259000.out); (case side2 => exact HO_259001.out); rintro e w118 ⟨rfl, hb⟩; refine ⟨_, rfl, ?_⟩; have n0_ := Aside0.mk (Kd.R_below (zR HO_7) hb); have n1_ := Aside0.mk (Kd.V_below (zV HO_259000) hb); have n2_ := Aside0.mk (Kd.V_below (zV HO_259001) hb); have n3_ := Aside0.mk (blk_below (g := gb258) (o := .cells #[.slice Ao116 x259000_8.length co116, .slice Ao117 x259001_8.length co117] 24 (0, 0)) (zb BK258) hb); have n4_ := Aside0.mk (blk_below (g := gb261) (o := .cells #[.int .u8 ((rd_T48 l0 x35_1).f0), .int .u8 ((rd_T48 l0 x35_1).f1)] 48 (0, 0)) (zb BK261) hb); have n5_ := Aside0.mk (below_step (zc2 HB GE258 GE261) hb); clear HO_7; clear HO_259000; clear HO_259001; clear BK258; clear BK261; clear HB; have HO_7 := n0_; have HO_259000 := n1_; have HO_259001 := n2_; have BK258 := n3_; have BK261 := n4_; have HB := n5_; clear n0_ n1_ n2_ n3_ n4_ n5_; (try clear hb); (try clear hb2); (try clear hk); (try clear hi); have hcz119_0 : w118.cell? ⟨gb258, 0, none⟩ = some (.slice Ao116 x259000_8.length co116) := (blk_cell BK258.out 0).trans rfl; have hcz119_1 : w118.cell? ⟨gb258, 1, none⟩ = some (.slice Ao117 x259001_8.length co117) := (blk_cell BK258.out 1).trans rfl; have hfz119_0 := blk_frozen BK258.out 0; have hfz119_1 := blk_frozen BK258.out 1))
           go_meet
           case rel => exact ⟨_, ((x4_8 != (wrap64 ((wrap64 (x5_8 + x6_8)) + (x259001_8.length : Int))))), (by first | rfl | (simp; done) | (simp [*]; done)), H', ⟨by have := HK1.out; have := HJ8.out; first | omega | exact Nat.le_refl _⟩, ⟨by (with_reducible repeat (first | apply Kd.R_alloc | apply Kd.R_drewN | apply Kd.R_drew)); exact HO_7.out⟩, ⟨by (with_reducible repeat (first | apply Kd.V_alloc | apply Kd.V_drewN | apply Kd.V_drew)); exact HO_259000.out⟩, ⟨by (with_reducible repeat (first | apply Kd.V_alloc | apply Kd.V_drewN | apply Kd.V_drew)); exact HO_259001.out⟩, ⟨by (with_reducible repeat (first | refine blk_drewN ?_ _ | refine blk_drew ?_ | refine blk_alloc ?_ _)); exact BK258.out⟩, ⟨by (with_reducible repeat (first | refine blk_drewN ?_ _ | refine blk_drew ?_ | refine blk_alloc ?_ _)); exact BK261.out⟩, ⟨by repeat (first | (with_reducible first | exact HB.out | apply below_alloc | apply pw_below_drewN | apply below_drew1 | refine below_set ?_ GE258.out | refine below_set ?_ GE261.out) | exact HB.out)⟩⟩
          ·replace c113 := Bool.eq_false_iff.mpr c113
           subst c113
           have H1 : (none) = some r := by rw [if_neg (show ¬ (false = true) by decide)] at H; exact H
           clear H
           have H := H1
           clear H1
           exact absurd H (by simp)
         case rest =>
          clear HC111
          try clear c1
          try clear c2
          try clear c2b0
          try clear c2b1
          try clear p2
          try clear q2
          try clear hx2
          try clear c3
          try clear c4
          try clear c5
          try clear c6
          try clear c6b0
          try clear p6
          try clear c7
          try clear c7b0
          try clear c8
          try clear c8b0
          try clear c9
          try clear c10
          try clear c11
          try clear c13
          try clear c15
          try clear c15b0
          try clear c15b1
          try clear c17
          try clear c17b0
          try clear c17b1
          try clear c18
          try clear c19
          try clear c25
          try clear c26
          try clear p26
          try clear q26
          try clear hx26
          try clear c32
          try clear c38
          try clear c39
          try clear c43
          try clear c43b0
          try clear c43b1
          try clear c45
          try clear c45b0
          try clear c45b1
          try clear c46
          try clear c52
          try clear c53
          try clear c57
          try clear c63
          try clear c64
          try clear p64
          try clear c68
          try clear c68b0
          try clear c68b1
          try clear c71
          try clear c77
          try clear c78
          try clear c81
          try clear c81b0
          try clear c81b1
          try clear c82
          try clear c83
          try clear c84
          try clear c86
          try clear c87
          try clear c87b0
          try clear c87b1
          try clear c88
          try clear c89
          try clear c91
          try clear c93
          try clear c94
          try clear c96
          try clear c99
          try clear c105
          try clear c106
          try clear c113
          try clear c114
          try clear hcz100_0
          try clear hcz100_1
          try clear hcz107_0
          try clear hcz107_1
          try clear hcz110_0
          try clear hcz110_1
          try clear hcz115_0
          try clear hcz115_1
          try clear hcz119_0
          try clear hcz119_1
          try clear hcz12_0
          try clear hcz12_1
          try clear hcz13_0
          try clear hcz13_1
          try clear hcz20_0
          try clear hcz20_1
          try clear hcz27_0
          try clear hcz27_1
          try clear hcz30_0
          try clear hcz30_1
          try clear hcz31_0
          try clear hcz31_1
          try clear hcz33_0
          try clear hcz33_1
          try clear hcz40_0
          try clear hcz40_1
          try clear hcz42_0
          try clear hcz42_1
          try clear hcz47_0
          try clear hcz47_1
          try clear hcz54_0
          try clear hcz54_1
          try clear hcz56_0
          try clear hcz56_1
          try clear hcz58_0
          try clear hcz58_1
          try clear hcz65_0
          try clear hcz65_1
          try clear hcz67_0
          try clear hcz67_1
          try clear hcz72_0
          try clear hcz72_1
          try clear hcz79_0
          try clear hcz79_1
          try clear hcz85_0
          try clear hcz85_1
          try clear hcz90_0
          try clear hcz90_1
          try clear hcz92_0
          try clear hcz92_1
          try clear hcz95_0
          try clear hcz95_1
          try clear hcz97_0
          try clear hcz97_1
          try clear hfz100_0
          try clear hfz100_1
          try clear hfz107_0
          try clear hfz107_1
          try clear hfz110_0
          try clear hfz110_1
          try clear hfz115_0
          try clear hfz115_1
          try clear hfz119_0
          try clear hfz119_1
          try clear hfz12_0
          try clear hfz12_1
          try clear hfz13_0
          try clear hfz13_1
          try clear hfz20_0
          try clear hfz20_1
          try clear hfz27_0
          try clear hfz27_1
          try clear hfz30_0
          try clear hfz30_1
          try clear hfz31_0
          try clear hfz31_1
          try clear hfz33_0
          try clear hfz33_1
          try clear hfz40_0
          try clear hfz40_1
          try clear hfz42_0
          try clear hfz42_1
          try clear hfz47_0
          try clear hfz47_1
          try clear hfz54_0
          try clear hfz54_1
          try clear hfz56_0
          try clear hfz56_1
          try clear hfz58_0
          try clear hfz58_1
          try clear hfz65_0
          try clear hfz65_1
          try clear hfz67_0
          try clear hfz67_1
          try clear hfz72_0
          try clear hfz72_1
          try clear hfz79_0
          try clear hfz79_1
          try clear hfz85_0
          try clear hfz85_1
          try clear hfz90_0
          try clear hfz90_1
          try clear hfz92_0
          try clear hfz92_1
          try clear hfz95_0
          try clear hfz95_1
          try clear hfz97_0
          try clear hfz97_1
          try clear hx260_0
          try clear hx260_1
          try clear p2
          try clear p26
          try clear p260
          try clear p6
          try clear p64
          try clear q2
          try clear q26
          try clear q260
          obtain ⟨kq, x130_110, rfl, HA, HJ110, HO_7, HO_259000, HO_259001, BK258, BK261, HB⟩ := hcut
          cases kq with
          | zero => exact absurd HA.out (by simp [handshakerlaw20_CondKeeps.j3])
          | succ kj110 =>
           have H := HA.out
           clear HA
           simp only [handshakerlaw20_CondKeeps.j3] at H
           by_cases c120 : x130_110 = true
           ·subst c120
            have H1 : (none) = some r := by rw [if_pos rfl] at H; exact H
            clear H
            have H := H1
            clear H1
            exact absurd H (by simp)
           ·replace c120 := Bool.eq_false_iff.mpr c120
            subst c120
            have H1 : (handshakerlaw20_CondKeeps.l1 kj110 x4_8 x5_8 x6_8 x7_8 l0 (l0.length : Int) x35_1 x259001_8 (x259001_8.length : Int) 0 x259000_8 x259001_8) = some r := by rw [if_neg (show ¬ (false = true) by decide)] at H; exact H
            clear H
            have H := H1
            clear H1
            have H' := Aside0.mk H
            clear H
            have hnb121 := NB258_261.out
            have hnc121 := NB261_258.out
            have hcz122_0 : wc.cell? ⟨gb258, 0, none⟩ = some (u259000) := (blk_cell BK258.out 0).trans rfl
            have hcz122_1 : wc.cell? ⟨gb258, 1, none⟩ = some (u259001) := (blk_cell BK258.out 1).trans rfl
            have hfz122_0 := blk_frozen BK258.out 0
            have hfz122_1 := blk_frozen BK258.out 1
            obtain ⟨Ao123, co123, eo123⟩ := Kd.V_slice HO_259001.out
            subst eo123
            go_wp2
            go_loopg [134] kj110 (fun kq v134 w' => ∃ (x134_4 : Int), v134 = .int .i64 x134_4 ∧ Aside0 (handshakerlaw20_CondKeeps.l1 kq x4_8 x5_8 x6_8 x7_8 l0 (l0.length : Int) x35_1 x259001_8 (x259001_8.length : Int) x134_4 x259000_8 x259001_8 = some r) ∧ Aside0 (kq ≤ kj110) ∧ Aside0 (Kd.R (Kd.int .i64) 3 w' w.heap.size (fun _ => True) u7 x7_8) ∧ Aside0 (Kd.V (Kd.int .i64) 3 w' w.heap.size (fun k_ => some k_ ≠ (u7 : Value).ownBlock ∧ k_ ≠ gb258 ∧ k_ ≠ gb261) (.slice Ao123 x259001_8.length co123) x259001_8) ∧ Aside0 (Kd.V (Kd.int .i64) 3 w' w.heap.size (fun k_ => some k_ ≠ (u7 : Value).ownBlock ∧ k_ ≠ gb258 ∧ k_ ≠ gb261) u259000 x259000_8) ∧ Aside0 (Kd.V (Kd.int .i64) 3 w' w.heap.size (fun k_ => some k_ ≠ (u7 : Value).ownBlock ∧ k_ ≠ gb258 ∧ k_ ≠ gb261) (.slice Ao123 x259001_8.length co123) x259001_8) ∧ Aside0 (w'.heap[gb258]? = some (.cells #[u259000, (.slice Ao123 x259001_8.length co123)] 24 (0, 0))) ∧ Aside0 (w'.heap[gb261]? = some (.cells #[.int .u8 ((rd_T48 l0 x35_1).f0), .int .u8 ((rd_T48 l0 x35_1).f1)] 48 (0, 0))) ∧ Aside0 (Below w.heap.size w w'))
            case atStart => exact ⟨(0), (by first | rfl | (simp; done) | (simp [*]; done)), H', ⟨Nat.le_refl _⟩, ⟨by (with_reducible repeat (first | apply Kd.R_alloc | apply Kd.R_drewN | apply Kd.R_drew)); exact HO_7.out⟩, ⟨by (with_reducible repeat (first | apply Kd.V_alloc | apply Kd.V_drewN | apply Kd.V_drew)); exact HO_259001.out⟩, ⟨by (with_reducible repeat (first | apply Kd.V_alloc | apply Kd.V_drewN | apply Kd.V_drew)); exact HO_259000.out⟩, ⟨by (with_reducible repeat (first | apply Kd.V_alloc | apply Kd.V_drewN | apply Kd.V_drew)); exact HO_259001.out⟩, ⟨by (with_reducible repeat (first | refine blk_drewN ?_ _ | refine blk_drew ?_ | refine blk_alloc ?_ _)); exact BK258.out⟩, ⟨by (with_reducible repeat (first | refine blk_drewN ?_ _ | refine blk_drew ?_ | refine blk_alloc ?_ _)); exact BK261.out⟩, ⟨by repeat (first | (with_reducible first | exact HB.out | apply below_alloc | apply pw_below_drewN | apply below_drew1 | refine below_set ?_ GE258.out | refine below_set ?_ GE261.out) | exact HB.out)⟩⟩
            case round =>
             clear H'
             try clear c1
             try clear c2
             try clear c2b0
             try clear c2b1
             try clear p2
             try clear q2
             try clear hx2
             try clear c3
             try clear c4
             try clear c5
             try clear c6
             try clear c6b0
             try clear p6
             try clear c7
             try clear c7b0
             try clear c8
             try clear c8b0
             try clear c9
             try clear c10
             try clear c11
             try clear c12
             try clear c13
             try clear c15
             try clear c15b0
             try clear c15b1
             try clear c17
             try clear c17b0
             try clear c17b1
             try clear c18
             try clear c19
             try clear c25
             try clear c26
             try clear p26
             try clear q26
             try clear hx26
             try clear c32
             try clear c38
             try clear c39
             try clear c43
             try clear c43b0
             try clear c43b1
             try clear c45
             try clear c45b0
             try clear c45b1
             try clear c46
             try clear c52
             try clear c53
             try clear c57
             try clear c63
             try clear c64
             try clear p64
             try clear c68
             try clear c68b0
             try clear c68b1
             try clear c71
             try clear c77
             try clear c78
             try clear c81
             try clear c81b0
             try clear c81b1
             try clear c82
             try clear c83
             try clear c84
             try clear c86
             try clear c87
             try clear c87b0
             try clear c87b1
             try clear c88
             try clear c89
             try clear c91
             try clear c93
             try clear c94
             try clear c96
             try clear c99
             try clear c105
             try clear c106
             try clear c113
             try clear c114
             try clear c120
             try clear c121
             try clear hcz100_0
             try clear hcz100_1
             try clear hcz107_0
             try clear hcz107_1
             try clear hcz110_0
             try clear hcz110_1
             try clear hcz115_0
             try clear hcz115_1
             try clear hcz119_0
             try clear hcz119_1
             try clear hcz122_0
             try clear hcz122_1
             try clear hcz12_0
             try clear hcz12_1
             try clear hcz13_0
             try clear hcz13_1
             try clear hcz20_0
             try clear hcz20_1
             try clear hcz27_0
             try clear hcz27_1
             try clear hcz30_0
             try clear hcz30_1
             try clear hcz31_0
             try clear hcz31_1
             try clear hcz33_0
             try clear hcz33_1
             try clear hcz40_0
             try clear hcz40_1
             try clear hcz42_0
             try clear hcz42_1
             try clear hcz47_0
             try clear hcz47_1
             try clear hcz54_0
             try clear hcz54_1
             try clear hcz56_0
             try clear hcz56_1
             try clear hcz58_0
             try clear hcz58_1
             try clear hcz65_0
             try clear hcz65_1
             try clear hcz67_0
             try clear hcz67_1
             try clear hcz72_0
             try clear hcz72_1
             try clear hcz79_0
             try clear hcz79_1
             try clear hcz85_0
             try clear hcz85_1
             try clear hcz90_0
             try clear hcz90_1
             try clear hcz92_0
             try clear hcz92_1
             try clear hcz95_0
             try clear hcz95_1
             try clear hcz97_0
             try clear hcz97_1
             try clear hfz100_0
             try clear hfz100_1
             try clear hfz107_0
             try clear hfz107_1
             try clear hfz110_0
             try clear hfz110_1
             try clear hfz115_0
             try clear hfz115_1
             try clear hfz119_0
             try clear hfz119_1
             try clear hfz122_0
             try clear hfz122_1
             try clear hfz12_0
             try clear hfz12_1
             try clear hfz13_0
             try clear hfz13_1
             try clear hfz20_0
             try clear hfz20_1
             try clear hfz27_0
             try clear hfz27_1
             try clear hfz30_0
             try clear hfz30_1
             try clear hfz31_0
             try clear hfz31_1
             try clear hfz33_0
             try clear hfz33_1
             try clear hfz40_0
             try clear hfz40_1
             try clear hfz42_0
             try clear hfz42_1
             try clear hfz47_0
             try clear hfz47_1
             try clear hfz54_0
             try clear hfz54_1
             try clear hfz56_0
             try clear hfz56_1
             try clear hfz58_0
             try clear hfz58_1
             try clear hfz65_0
             try clear hfz65_1
             try clear hfz67_0
             try clear hfz67_1
             try clear hfz72_0
             try clear hfz72_1
             try clear hfz79_0
             try clear hfz79_1
             try clear hfz85_0
             try clear hfz85_1
             try clear hfz90_0
             try clear hfz90_1
             try clear hfz92_0
             try clear hfz92_1
             try clear hfz95_0
             try clear hfz95_1
             try clear hfz97_0
             try clear hfz97_1
             try clear hx260_0
             try clear hx260_1
             try clear p2
             try clear p26
             try clear p260
             try clear p6
             try clear p64
             try clear q2
             try clear q26
             try clear q260
             obtain ⟨x134_4, rfl, HA, HK4, HO_7, HO_132, HO_259000, HO_259001, BK258, BK261, HB⟩ := hrel
             cases gk with
             | zero => exact absurd HA.out (by simp [handshakerlaw20_CondKeeps.l1])
             | succ k4 =>
              have H := HA.out
              clear HA
              simp only [handshakerlaw20_CondKeeps.l1] at H
              by_cases c124 : x134_4 < (x259001_8.length : Int)
              ·rw [if_pos c124] at H
               have c124b0 : decide (x134_4 < (x259001_8.length : Int)) = true := decide_eq_true c124
               clear c124
               by_cases c125 : 0 ≤ x134_4
               ·rw [if_pos c125] at H
                have c125b0 : decide (0 ≤ x134_4) = true := decide_eq_true c125
                clear c125
                by_cases c126 : x134_4 < (x259001_8.length : Int)
                ·rw [if_pos c126] at H
                 have c126b0 : decide (x134_4 < (x259001_8.length : Int)) = true := decide_eq_true c126
                 clear c126
                 have H' := Aside0.mk H
                 clear H
                 have p301 : 0 ≤ (x134_4 : Int) := of_decide_eq_true (by first | (with_reducible assumption) | assumption)
                 have q301 : x134_4 < (x259001_8.length : Int) := of_decide_eq_true (by first | (with_reducible assumption) | assumption)
                 obtain ⟨ad301, e301, hx301_0⟩ := Kd.at_int (Kd.V_reads' HO_132.out).2.2 x134_4 p301 q301
                 cases e301
                 replace p301 := eq_true p301
                 replace q301 := eq_true q301
                 have hnb127 := NB258_261.out
                 have hnc127 := NB261_258.out
                 have hcz128_0 : wr.cell? ⟨gb258, 0, none⟩ = some (u259000) := (blk_cell BK258.out 0).trans rfl
                 have hcz128_1 : wr.cell? ⟨gb258, 1, none⟩ = some (.slice (some ad301) x259001_8.length co123) := (blk_cell BK258.out 1).trans rfl
                 have hfz128_0 := blk_frozen BK258.out 0
                 have hfz128_1 := blk_frozen BK258.out 1
                 obtain ⟨Ao129, co129, eo129⟩ := Kd.V_slice HO_259000.out
                 subst eo129
                 go_wp2
                 go_loopg [141] k4 (fun kq v141 w' => ∃ (x141_5 : Int), v141 = .int .i64 x141_5 ∧ Aside0 (handshakerlaw20_CondKeeps.l2 kq x4_8 x5_8 x6_8 x7_8 (rd x259001_8 x134_4) l0 (l0.length : Int) x35_1 x259001_8 (x259001_8.length : Int) x134_4 x259000_8 (x259000_8.length : Int) x141_5 x259000_8 x259001_8 = some r) ∧ Aside0 (kq ≤ k4) ∧ Aside0 (Kd.R (Kd.int .i64) 3 w' w.heap.size (fun _ => True) u7 x7_8) ∧ Aside0 (Kd.V (Kd.int .i64) 3 w' w.heap.size (fun k_ => some k_ ≠ (u7 : Value).ownBlock ∧ k_ ≠ gb258 ∧ k_ ≠ gb261) (.slice (some ad301) x259001_8.length co123) x259001_8) ∧ Aside0 (Kd.V (Kd.int .i64) 3 w' w.heap.size (fun k_ => some k_ ≠ (u7 : Value).ownBlock ∧ k_ ≠ gb258 ∧ k_ ≠ gb261) (.slice Ao129 x259000_8.length co129) x259000_8) ∧ Aside0 (Kd.V (Kd.int .i64) 3 w' w.heap.size (fun k_ => some k_ ≠ (u7 : Value).ownBlock ∧ k_ ≠ gb258 ∧ k_ ≠ gb261) (.slice Ao129 x259000_8.length co129) x259000_8) ∧ Aside0 (Kd.V (Kd.int .i64) 3 w' w.heap.size (fun k_ => some k_ ≠ (u7 : Value).ownBlock ∧ k_ ≠ gb258 ∧ k_ ≠ gb261) (.slice (some ad301) x259001_8.length co123) x259001_8) ∧ Aside0 (w'.heap[gb258]? = some (.cells #[(.slice Ao129 x259000_8.length co129), (.slice (some ad301) x259001_8.length co123)] 24 (0, 0))) ∧ Aside0 (w'.heap[gb261]? = some (.cells #[.int .u8 ((rd_T48 l0 x35_1).f0), .int .u8 ((rd_T48 l0 x35_1).f1)] 48 (0, 0))) ∧ Aside0 (Below w.heap.size w w'))
                 case atStart => exact ⟨(0), (by first | rfl | (simp; done) | (simp [*]; done)), H', ⟨Nat.le_refl _⟩, ⟨by (with_reducible repeat (first | apply Kd.R_alloc | apply Kd.R_drewN | apply Kd.R_drew)); exact HO_7.out⟩, ⟨by (with_reducible repeat (first | apply Kd.V_alloc | apply Kd.V_drewN | apply Kd.V_drew)); exact HO_132.out⟩, ⟨by (with_reducible repeat (first | apply Kd.V_alloc | apply Kd.V_drewN | apply Kd.V_drew)); exact HO_259000.out⟩, ⟨by (with_reducible repeat (first | apply Kd.V_alloc | apply Kd.V_drewN | apply Kd.V_drew)); exact HO_259000.out⟩, ⟨by (with_reducible repeat (first | apply Kd.V_alloc | apply Kd.V_drewN | apply Kd.V_drew)); exact HO_259001.out⟩, ⟨by (with_reducible repeat (first | refine blk_drewN ?_ _ | refine blk_drew ?_ | refine blk_alloc ?_ _)); exact BK258.out⟩, ⟨by (with_reducible repeat (first | refine blk_drewN ?_ _ | refine blk_drew ?_ | refine blk_alloc ?_ _)); exact BK261.out⟩, ⟨by repeat (first | (with_reducible first | exact HB.out | apply below_alloc | apply pw_below_drewN | apply below_drew1 | refine below_set ?_ GE258.out | refine below_set ?_ GE261.out) | exact HB.out)⟩⟩
                 case round =>
                  clear H'
                  try clear c1
                  try clear c2
                  try clear c2b0
                  try clear c2b1
                  try clear p2
                  try clear q2
                  try clear hx2
                  try clear c3
                  try clear p3
                  try clear q3
                  try clear hx3
                  try clear c4
                  try clear c5
                  try clear c6
                  try clear c6b0
                  try clear p6
                  try clear c7
                  try clear c7b0
                  try clear c8
                  try clear c8b0
                  try clear c9
                  try clear c10
                  try clear c11
                  try clear c12
                  try clear c13
                  try clear c15
                  try clear c15b0
                  try clear c15b1
                  try clear c17
                  try clear c17b0
                  try clear c17b1
                  try clear c18
                  try clear c19
                  try clear c25
                  try clear c26
                  try clear p26
                  try clear q26
                  try clear hx26
                  try clear p30
                  try clear q30
                  try clear hx30
                  try clear c32
                  try clear c38
                  try clear c39
                  try clear c43
                  try clear c43b0
                  try clear c43b1
                  try clear c45
                  try clear c45b0
                  try clear c45b1
                  try clear c46
                  try clear c52
                  try clear c53
                  try clear c57
                  try clear c63
                  try clear c64
                  try clear p64
                  try clear c68
                  try clear c68b0
                  try clear c68b1
                  try clear c71
                  try clear c77
                  try clear c78
                  try clear c81
                  try clear c81b0
                  try clear c81b1
                  try clear c82
                  try clear c83
                  try clear c84
                  try clear c86
                  try clear c87
                  try clear c87b0
                  try clear c87b1
                  try clear c88
                  try clear c89
                  try clear c91
                  try clear c93
                  try clear c94
                  try clear c96
                  try clear c99
                  try clear c105
                  try clear c106
                  try clear c113
                  try clear c114
                  try clear c120
                  try clear c121
                  try clear c124
                  try clear c124b0
                  try clear c125
                  try clear c125b0
                  try clear c126
                  try clear c126b0
                  try clear c127
                  try clear hcz100_0
                  try clear hcz100_1
                  try clear hcz107_0
                  try clear hcz107_1
                  try clear hcz110_0
                  try clear hcz110_1
                  try clear hcz115_0
                  try clear hcz115_1
                  try clear hcz119_0
                  try clear hcz119_1
                  try clear hcz122_0
                  try clear hcz122_1
                  try clear hcz128_0
                  try clear hcz128_1
                  try clear hcz12_0
                  try clear hcz12_1
                  try clear hcz13_0
                  try clear hcz13_1
                  try clear hcz20_0
                  try clear hcz20_1
                  try clear hcz27_0
                  try clear hcz27_1
                  try clear hcz30_0
                  try clear hcz30_1
                  try clear hcz31_0
                  try clear hcz31_1
                  try clear hcz33_0
                  try clear hcz33_1
                  try clear hcz40_0
                  try clear hcz40_1
                  try clear hcz42_0
                  try clear hcz42_1
                  try clear hcz47_0
                  try clear hcz47_1
                  try clear hcz54_0
                  try clear hcz54_1
                  try clear hcz56_0
                  try clear hcz56_1
                  try clear hcz58_0
                  try clear hcz58_1
                  try clear hcz65_0
                  try clear hcz65_1
                  try clear hcz67_0
                  try clear hcz67_1
                  try clear hcz72_0
                  try clear hcz72_1
                  try clear hcz79_0
                  try clear hcz79_1
                  try clear hcz85_0
                  try clear hcz85_1
                  try clear hcz90_0
                  try clear hcz90_1
                  try clear hcz92_0
                  try clear hcz92_1
                  try clear hcz95_0
                  try clear hcz95_1
                  try clear hcz97_0
                  try clear hcz97_1
                  try clear hfz100_0
                  try clear hfz100_1
                  try clear hfz107_0
                  try clear hfz107_1
                  try clear hfz110_0
                  try clear hfz110_1
                  try clear hfz115_0
                  try clear hfz115_1
                  try clear hfz119_0
                  try clear hfz119_1
                  try clear hfz122_0
                  try clear hfz122_1
                  try clear hfz128_0
                  try clear hfz128_1
                  try clear hfz12_0
                  try clear hfz12_1
                  try clear hfz13_0
                  try clear hfz13_1
                  try clear hfz20_0
                  try clear hfz20_1
                  try clear hfz27_0
                  try clear hfz27_1
                  try clear hfz30_0
                  try clear hfz30_1
                  try clear hfz31_0
                  try clear hfz31_1
                  try clear hfz33_0
                  try clear hfz33_1
                  try clear hfz40_0
                  try clear hfz40_1
                  try clear hfz42_0
                  try clear hfz42_1
                  try clear hfz47_0
                  try clear hfz47_1
                  try clear hfz54_0
                  try clear hfz54_1
                  try clear hfz56_0
                  try clear hfz56_1
                  try clear hfz58_0
                  try clear hfz58_1
                  try clear hfz65_0
                  try clear hfz65_1
                  try clear hfz67_0
                  try clear hfz67_1
                  try clear hfz72_0
                  try clear hfz72_1
                  try clear hfz79_0
                  try clear hfz79_1
                  try clear hfz85_0
                  try clear hfz85_1
                  try clear hfz90_0
                  try clear hfz90_1
                  try clear hfz92_0
                  try clear hfz92_1
                  try clear hfz95_0
                  try clear hfz95_1
                  try clear hfz97_0
                  try clear hfz97_1
                  try clear hx260_0
                  try clear hx260_1
                  try clear hx301_0
                  try clear p2
                  try clear p26
                  try clear p260
                  try clear p301
                  try clear p6
                  try clear p64
                  try clear q2
                  try clear q26
                  try clear q260
                  try clear q301
                  obtain ⟨x141_5, rfl, HA, HK5, HO_7, HO_132, HO_139, HO_259000, HO_259001, BK258, BK261, HB⟩ := hrel
                  cases gk with
                  | zero => exact absurd HA.out (by simp [handshakerlaw20_CondKeeps.l2])
                  | succ k5 =>
                   have H := HA.out
                   clear HA
                   simp only [handshakerlaw20_CondKeeps.l2] at H
                   by_cases c130 : x141_5 < (x259000_8.length : Int)
                   ·rw [if_pos c130] at H
                    have c130b0 : decide (x141_5 < (x259000_8.length : Int)) = true := decide_eq_true c130
                    clear c130
                    by_cases c131 : 0 ≤ x141_5
                    ·rw [if_pos c131] at H
                     have c131b0 : decide (0 ≤ x141_5) = true := decide_eq_true c131
                     clear c131
                     by_cases c132 : x141_5 < (x259000_8.length : Int)
                     ·rw [if_pos c132] at H
                      have c132b0 : decide (x141_5 < (x259000_8.length : Int)) = true := decide_eq_true c132
                      clear c132
                      have H' := Aside0.mk H
                      clear H
                      have p302 : 0 ≤ (x141_5 : Int) := of_decide_eq_true (by first | (with_reducible assumption) | assumption)
                      have q302 : x141_5 < (x259000_8.length : Int) := of_decide_eq_true (by first | (with_reducible assumption) | assumption)
                      obtain ⟨ad302, e302, hx302_0⟩ := Kd.at_int (Kd.V_reads' HO_139.out).2.2 x141_5 p302 q302
                      cases e302
                      replace p302 := eq_true p302
                      replace q302 := eq_true q302
                      obtain ⟨Ao133, co133, eo133⟩ := Kd.R_slice HO_7.out
                      subst eo133
                      go_wp2
                      go_loopg [25, 26, 147] k5 (fun kq v25 v26 v147 w' => ∃ (x25_6 : Int) (x26_6 : Int) (x147_6 : Int), v25 = .int .i64 x25_6 ∧ v26 = .int .i64 x26_6 ∧ v147 = .int .i64 x147_6 ∧ Aside0 (handshakerlaw20_CondKeeps.l3 kq x4_8 x5_8 x6_8 x7_8 (rd x259001_8 x134_4) (rd x259000_8 x141_5) x25_6 x26_6 l0 (l0.length : Int) x35_1 x259001_8 (x259001_8.length : Int) x134_4 x259000_8 (x259000_8.length : Int) x141_5 x7_8 (x7_8.length : Int) x147_6 x259000_8 x259001_8 = some r) ∧ Aside0 (kq ≤ k5) ∧ Aside0 (Kd.R (Kd.int .i64) 3 w' w.heap.size (fun _ => True) (.slice Ao133 x7_8.length co133) x7_8) ∧ Aside0 (Kd.V (Kd.int .i64) 3 w' w.heap.size (fun k_ => some k_ ≠ ((.slice Ao133 x7_8.length co133) : Value).ownBlock ∧ some k_ ≠ ((.slice Ao133 x7_8.length co133) : Value).ownBlock ∧ k_ ≠ gb258 ∧ k_ ≠ gb261) (.slice (some ad301) x259001_8.length co123) x259001_8) ∧ Aside0 (Kd.V (Kd.int .i64) 3 w' w.heap.size (fun k_ => some k_ ≠ ((.slice Ao133 x7_8.length co133) : Value).ownBlock ∧ some k_ ≠ ((.slice Ao133 x7_8.length co133) : Value).ownBlock ∧ k_ ≠ gb258 ∧ k_ ≠ gb261) (.slice (some ad302) x259000_8.length co129) x259000_8) ∧ Aside0 (Kd.R (Kd.int .i64) 3 w' w.heap.size (fun _ => True) (.slice Ao133 x7_8.length co133) x7_8) ∧ Aside0 (Kd.V (Kd.int .i64) 3 w' w.heap.size (fun k_ => some k_ ≠ ((.slice Ao133 x7_8.length co133) : Value).ownBlock ∧ some k_ ≠ ((.slice Ao133 x7_8.length co133) : Value).ownBlock ∧ k_ ≠ gb258 ∧ k_ ≠ gb261) (.slice (some ad302) x259000_8.length co129) x259000_8) ∧ Aside0 (Kd.V (Kd.int .i64) 3 w' w.heap.size (fun k_ => some k_ ≠ ((.slice Ao133 x7_8.length co133) : Value).ownBlock ∧ some k_ ≠ ((.slice Ao133 x7_8.length co133) : Value).ownBlock ∧ k_ ≠ gb258 ∧ k_ ≠ gb261) (.slice (some ad301) x259001_8.length co123) x259001_8) ∧ Aside0 (w'.heap[gb258]? = some (.cells #[(.slice (some ad302) x259000_8.length co129), (.slice (some ad301) x259001_8.length co123)] 24 (0, 0))) ∧ Aside0 (w'.heap[gb261]? = some (.cells #[.int .u8 ((rd_T48 l0 x35_1).f0), .int .u8 ((rd_T48 l0 x35_1).f1)] 48 (0, 0))) ∧ Aside0 (Below w.heap.size w w'))
                      case atStart => exact ⟨((-1)), ((-1)), (0), (by first | rfl | (simp; done) | (simp [*]; done)), (by first | rfl | (simp; done) | (simp [*]; done)), (by first | rfl | (simp; done) | (simp [*]; done)), H', ⟨Nat.le_refl _⟩, ⟨by (with_reducible repeat (first | apply Kd.R_alloc | apply Kd.R_drewN | apply Kd.R_drew)); exact HO_7.out⟩, ⟨by (with_reducible repeat (first | apply Kd.V_alloc | apply Kd.V_drewN | apply Kd.V_drew)); exact Kd.V_mono HO_132.out (fun _ hk => ⟨hk.1, ⟨hk.1, ⟨hk.2.1, hk.2.2⟩⟩⟩)⟩, ⟨by (with_reducible repeat (first | apply Kd.V_alloc | apply Kd.V_drewN | apply Kd.V_drew)); exact Kd.V_mono HO_139.out (fun _ hk => ⟨hk.1, ⟨hk.1, ⟨hk.2.1, hk.2.2⟩⟩⟩)⟩, ⟨by (with_reducible repeat (first | apply Kd.R_alloc | apply Kd.R_drewN | apply Kd.R_drew)); exact HO_7.out⟩, ⟨by (with_reducible repeat (first | apply Kd.V_alloc | apply Kd.V_drewN | apply Kd.V_drew)); exact Kd.V_mono HO_259000.out (fun _ hk => ⟨hk.1, ⟨hk.1, ⟨hk.2.1, hk.2.2⟩⟩⟩)⟩, ⟨by (with_reducible repeat (first | apply Kd.V_alloc | apply Kd.V_drewN | apply Kd.V_drew)); exact Kd.V_mono HO_259001.out (fun _ hk => ⟨hk.1, ⟨hk.1, ⟨hk.2.1, hk.2.2⟩⟩⟩)⟩, ⟨by (with_reducible repeat (first | refine blk_drewN ?_ _ | refine blk_drew ?_ | refine blk_alloc ?_ _)); exact BK258.out⟩, ⟨by (with_reducible repeat (first | refine blk_drewN ?_ _ | refine blk_drew ?_ | refine blk_alloc ?_ _)); exact BK261.out⟩, ⟨by repeat (first | (with_reducible first | exact HB.out | apply below_alloc | apply pw_below_drewN | apply below_drew1 | refine below_set ?_ GE258.out | refine below_set ?_ GE261.out) | exact HB.out)⟩⟩
                      case round =>
                       clear H'
                       try clear c1
                       try clear c2
                       try clear c2b0
                       try clear c2b1
                       try clear p2
                       try clear q2
                       try clear hx2
                       try clear c3
                       try clear p3
                       try clear q3
                       try clear hx3
                       try clear c4
                       try clear c5
                       try clear c6
                       try clear c6b0
                       try clear p6
                       try clear c7
                       try clear c7b0
                       try clear c8
                       try clear c8b0
                       try clear c9
                       try clear c10
                       try clear c11
                       try clear c12
                       try clear c13
                       try clear c15
                       try clear c15b0
                       try clear c15b1
                       try clear c17
                       try clear c17b0
                       try clear c17b1
                       try clear c18
                       try clear c19
                       try clear c25
                       try clear c26
                       try clear p26
                       try clear q26
                       try clear hx26
                       try clear p30
                       try clear q30
                       try clear hx30
                       try clear c32
                       try clear c38
                       try clear c39
                       try clear c43
                       try clear c43b0
                       try clear c43b1
                       try clear c45
                       try clear c45b0
                       try clear c45b1
                       try clear c46
                       try clear c52
                       try clear c53
                       try clear c57
                       try clear c63
                       try clear c64
                       try clear p64
                       try clear c68
                       try clear c68b0
                       try clear c68b1
                       try clear c71
                       try clear c77
                       try clear c78
                       try clear c81
                       try clear c81b0
                       try clear c81b1
                       try clear c82
                       try clear c83
                       try clear c84
                       try clear c86
                       try clear c87
                       try clear c87b0
                       try clear c87b1
                       try clear c88
                       try clear c89
                       try clear c91
                       try clear c93
                       try clear c94
                       try clear c96
                       try clear c99
                       try clear c105
                       try clear c106
                       try clear c113
                       try clear c114
                       try clear c120
                       try clear c121
                       try clear c124
                       try clear c124b0
                       try clear c125
                       try clear c125b0
                       try clear c126
                       try clear c126b0
                       try clear c127
                       try clear c130
                       try clear c130b0
                       try clear c131
                       try clear c131b0
                       try clear c132
                       try clear c132b0
                       try clear hcz100_0
                       try clear hcz100_1
                       try clear hcz107_0
                       try clear hcz107_1
                       try clear hcz110_0
                       try clear hcz110_1
                       try clear hcz115_0
                       try clear hcz115_1
                       try clear hcz119_0
                       try clear hcz119_1
                       try clear hcz122_0
                       try clear hcz122_1
                       try clear hcz128_0
                       try clear hcz128_1
                       try clear hcz12_0
                       try clear hcz12_1
                       try clear hcz13_0
                       try clear hcz13_1
                       try clear hcz20_0
                       try clear hcz20_1
                       try clear hcz27_0
                       try clear hcz27_1
                       try clear hcz30_0
                       try clear hcz30_1
                       try clear hcz31_0
                       try clear hcz31_1
                       try clear hcz33_0
                       try clear hcz33_1
                       try clear hcz40_0
                       try clear hcz40_1
                       try clear hcz42_0
                       try clear hcz42_1
                       try clear hcz47_0
                       try clear hcz47_1
                       try clear hcz54_0
                       try clear hcz54_1
                       try clear hcz56_0
                       try clear hcz56_1
                       try clear hcz58_0
                       try clear hcz58_1
                       try clear hcz65_0
                       try clear hcz65_1
                       try clear hcz67_0
                       try clear hcz67_1
                       try clear hcz72_0
                       try clear hcz72_1
                       try clear hcz79_0
                       try clear hcz79_1
                       try clear hcz85_0
                       try clear hcz85_1
                       try clear hcz90_0
                       try clear hcz90_1
                       try clear hcz92_0
                       try clear hcz92_1
                       try clear hcz95_0
                       try clear hcz95_1
                       try clear hcz97_0
                       try clear hcz97_1
                       try clear hfz100_0
                       try clear hfz100_1
                       try clear hfz107_0
                       try clear hfz107_1
                       try clear hfz110_0
                       try clear hfz110_1
                       try clear hfz115_0
                       try clear hfz115_1
                       try clear hfz119_0
                       try clear hfz119_1
                       try clear hfz122_0
                       try clear hfz122_1
                       try clear hfz128_0
                       try clear hfz128_1
                       try clear hfz12_0
                       try clear hfz12_1
                       try clear hfz13_0
                       try clear hfz13_1
                       try clear hfz20_0
                       try clear hfz20_1
                       try clear hfz27_0
                       try clear hfz27_1
                       try clear hfz30_0
                       try clear hfz30_1
                       try clear hfz31_0
                       try clear hfz31_1
                       try clear hfz33_0
                       try clear hfz33_1
                       try clear hfz40_0
                       try clear hfz40_1
                       try clear hfz42_0
                       try clear hfz42_1
                       try clear hfz47_0
                       try clear hfz47_1
                       try clear hfz54_0
                       try clear hfz54_1
                       try clear hfz56_0
                       try clear hfz56_1
                       try clear hfz58_0
                       try clear hfz58_1
                       try clear hfz65_0
                       try clear hfz65_1
                       try clear hfz67_0
                       try clear hfz67_1
                       try clear hfz72_0
                       try clear hfz72_1
                       try clear hfz79_0
                       try clear hfz79_1
                       try clear hfz85_0
                       try clear hfz85_1
                       try clear hfz90_0
                       try clear hfz90_1
                       try clear hfz92_0
                       try clear hfz92_1
                       try clear hfz95_0
                       try clear hfz95_1
                       try clear hfz97_0
                       try clear hfz97_1
                       try clear hx260_0
                       try clear hx260_1
                       try clear hx301_0
                       try clear hx302_0
                       try clear p2
                       try clear p26
                       try clear p260
                       try clear p3
                       try clear p30
                       try clear p301
                       try clear p302
                       try clear p6
                       try clear p64
                       try clear q2
                       try clear q26
                       try clear q260
                       try clear q3
                       try clear q30
                       try clear q301
                       try clear q302
                       obtain ⟨x25_6, x26_6, x147_6, rfl, rfl, rfl, HA, HK6, HO_7, HO_132, HO_139, HO_145, HO_259000, HO_259001, BK258, BK261, HB⟩ := hrel
                       cases gk with
                       | zero => exact absurd HA.out (by simp [handshakerlaw20_CondKeeps.l3])
                       | succ k6 =>
                        have H := HA.out
                        clear HA
                        simp only [handshakerlaw20_CondKeeps.l3] at H
                        by_cases c134 : x147_6 < (x7_8.length : Int)
                        ·rw [if_pos c134] at H
                         have c134b0 : decide (x147_6 < (x7_8.length : Int)) = true := decide_eq_true c134
                         clear c134
                         by_cases c135 : 0 ≤ x147_6
                         ·rw [if_pos c135] at H
                          have c135b0 : decide (0 ≤ x147_6) = true := decide_eq_true c135
                          clear c135
                          by_cases c136 : x147_6 < (x7_8.length : Int)
                          ·rw [if_pos c136] at H
                           have c136b0 : decide (x147_6 < (x7_8.length : Int)) = true := decide_eq_true c136
                           clear c136
                           by_cases c137 : (rd x7_8 x147_6) = (rd x259001_8 x134_4)
                           ·rw [if_pos c137] at H
                            have c137b0 : ((rd x7_8 x147_6) == (rd x259001_8 x134_4)) = true := beq_iff_eq.mpr c137
                            have c137b1 : ((rd x7_8 x147_6) != (rd x259001_8 x134_4)) = false := bne_eq_false_iff_eq.mpr c137
                            clear c137
                            by_cases c138 : (rd x7_8 x147_6) = (rd x259000_8 x141_5)
                            ·rw [if_pos c138] at H
                             have c138b0 : ((rd x7_8 x147_6) == (rd x259000_8 x141_5)) = true := beq_iff_eq.mpr c138
                             have c138b1 : ((rd x7_8 x147_6) != (rd x259000_8 x141_5)) = false := bne_eq_false_iff_eq.mpr c138
                             clear c138
                             have H' := Aside0.mk H
                             clear H
                             have p303 : 0 ≤ (x147_6 : Int) := of_decide_eq_true (by first | (with_reducible assumption) | assumption)
                             have q303 : x147_6 < (x7_8.length : Int) := of_decide_eq_true (by first | (with_reducible assumption) | assumption)
                             obtain ⟨ad303, e303, hx303_0⟩ := Kd.at_int (Kd.R_reads' HO_145.out).2.2 x147_6 p303 q303
                             cases e303
                             replace p303 := eq_true p303
                             replace q303 := eq_true q303
                             go_wp2
                             go_roundg k6
                             case measure => have := HK1.out; have := HJ8.out; have := HJ110.out; have := HK4.out; have := HK5.out; have := HK6.out; omega
                             case rel => exact ⟨(x147_6), (x147_6), (wrap64 (x147_6 + 1)), (by first | rfl | (simp; done) | (simp [*]; done)), (by first | rfl | (simp; done) | (simp [*]; done)), (by first | rfl | (simp; done) | (simp [*]; done)), H', ⟨by have := HK1.out; have := HJ8.out; have := HJ110.out; have := HK4.out; have := HK5.out; have := HK6.out; omega⟩, ⟨by (with_reducible repeat (first | apply Kd.R_alloc | apply Kd.R_drewN | apply Kd.R_drew)); exact HO_7.out⟩, ⟨by (with_reducible repeat (first | apply Kd.V_alloc | apply Kd.V_drewN | apply Kd.V_drew)); exact HO_132.out⟩, ⟨by (with_reducible repeat (first | apply Kd.V_alloc | apply Kd.V_drewN | apply Kd.V_drew)); exact HO_139.out⟩, ⟨by (with_reducible repeat (first | apply Kd.R_alloc | apply Kd.R_drewN | apply Kd.R_drew)); exact HO_145.out⟩, ⟨by (with_reducible repeat (first | apply Kd.V_alloc | apply Kd.V_drewN | apply Kd.V_drew)); exact HO_259000.out⟩, ⟨by (with_reducible repeat (first | apply Kd.V_alloc | apply Kd.V_drewN | apply Kd.V_drew)); exact HO_259001.out⟩, ⟨by (with_reducible repeat (first | refine blk_drewN ?_ _ | refine blk_drew ?_ | refine blk_alloc ?_ _)); exact BK258.out⟩, ⟨by (with_reducible repeat (first | refine blk_drewN ?_ _ | refine blk_drew ?_ | refine blk_alloc ?_ _)); exact BK261.out⟩, ⟨by repeat (first | (with_reducible first | exact HB.out | apply below_alloc | apply pw_below_drewN | apply below_drew1 | refine below_set ?_ GE258.out | refine below_set ?_ GE261.out) | exact HB.out)⟩⟩
                            ·rw [if_neg c138] at H
                             have c138b0 : ((rd x7_8 x147_6) == (rd x259000_8 x141_5)) = false := beq_eq_false_iff_ne.mpr c138
                             have c138b1 : ((rd x7_8 x147_6) != (rd x259000_8 x141_5)) = true := bne_iff_ne.mpr c138
                             have H' := Aside0.mk H
                             clear H
                             have p303 : 0 ≤ (x147_6 : Int) := of_decide_eq_true (by first | (with_reducible assumption) | assumption)
                             have q303 : x147_6 < (x7_8.length : Int) := of_decide_eq_true (by first | (with_reducible assumption) | assumption)
                             obtain ⟨ad303, e303, hx303_0⟩ := Kd.at_int (Kd.R_reads' HO_145.out).2.2 x147_6 p303 q303
                             cases e303
                             replace p303 := eq_true p303
                             replace q303 := eq_true q303
                             go_wp2
                             go_roundg k6
                             case measure => have := HK1.out; have := HJ8.out; have := HJ110.out; have := HK4.out; have := HK5.out; have := HK6.out; omega
                             case rel => exact ⟨(x147_6), (x26_6), (wrap64 (x147_6 + 1)), (by first | rfl | (simp; done) | (simp [*]; done)), (by first | rfl | (simp; done) | (simp [*]; done)), (by first | rfl | (simp; done) | (simp [*]; done)), H', ⟨by have := HK1.out; have := HJ8.out; have := HJ110.out; have := HK4.out; have := HK5.out; have := HK6.out; omega⟩, ⟨by (with_reducible repeat (first | apply Kd.R_alloc | apply Kd.R_drewN | apply Kd.R_drew)); exact HO_7.out⟩, ⟨by (with_reducible repeat (first | apply Kd.V_alloc | apply Kd.V_drewN | apply Kd.V_drew)); exact HO_132.out⟩, ⟨by (with_reducible repeat (first | apply Kd.V_alloc | apply Kd.V_drewN | apply Kd.V_drew)); exact HO_139.out⟩, ⟨by (with_reducible repeat (first | apply Kd.R_alloc | apply Kd.R_drewN | apply Kd.R_drew)); exact HO_145.out⟩, ⟨by (with_reducible repeat (first | apply Kd.V_alloc | apply Kd.V_drewN | apply Kd.V_drew)); exact HO_259000.out⟩, ⟨by (with_reducible repeat (first | apply Kd.V_alloc | apply Kd.V_drewN | apply Kd.V_drew)); exact HO_259001.out⟩, ⟨by (with_reducible repeat (first | refine blk_drewN ?_ _ | refine blk_drew ?_ | refine blk_alloc ?_ _)); exact BK258.out⟩, ⟨by (with_reducible repeat (first | refine blk_drewN ?_ _ | refine blk_drew ?_ | refine blk_alloc ?_ _)); exact BK261.out⟩, ⟨by repeat (first | (with_reducible first | exact HB.out | apply below_alloc | apply pw_below_drewN | apply below_drew1 | refine below_set ?_ GE258.out | refine below_set ?_ GE261.out) | exact HB.out)⟩⟩
                           ·rw [if_neg c137] at H
                            have c137b0 : ((rd x7_8 x147_6) == (rd x259001_8 x134_4)) = false := beq_eq_false_iff_ne.mpr c137
                            have c137b1 : ((rd x7_8 x147_6) != (rd x259001_8 x134_4)) = true := bne_iff_ne.mpr c137
                            by_cases c139 : (rd x7_8 x147_6) = (rd x259000_8 x141_5)
                            ·rw [if_pos c139] at H
                             have c139b0 : ((rd x7_8 x147_6) == (rd x259000_8 x141_5)) = true := beq_iff_eq.mpr c139
                             have c139b1 : ((rd x7_8 x147_6) != (rd x259000_8 x141_5)) = false := bne_eq_false_iff_eq.mpr c139
                             clear c139
                             have H' := Aside0.mk H
                             clear H
                             have p303 : 0 ≤ (x147_6 : Int) := of_decide_eq_true (by first | (with_reducible assumption) | assumption)
                             have q303 : x147_6 < (x7_8.length : Int) := of_decide_eq_true (by first | (with_reducible assumption) | assumption)
                             obtain ⟨ad303, e303, hx303_0⟩ := Kd.at_int (Kd.R_reads' HO_145.out).2.2 x147_6 p303 q303
                             cases e303
                             replace p303 := eq_true p303
                             replace q303 := eq_true q303
                             go_wp2
                             go_roundg k6
                             case measure => have := HK1.out; have := HJ8.out; have := HJ110.out; have := HK4.out; have := HK5.out; have := HK6.out; omega
                             case rel => exact ⟨(x25_6), (x147_6), (wrap64 (x147_6 + 1)), (by first | rfl | (simp; done) | (simp [*]; done)), (by first | rfl | (simp; done) | (simp [*]; done)), (by first | rfl | (simp; done) | (simp [*]; done)), H', ⟨by have := HK1.out; have := HJ8.out; have := HJ110.out; have := HK4.out; have := HK5.out; have := HK6.out; omega⟩, ⟨by (with_reducible repeat (first | apply Kd.R_alloc | apply Kd.R_drewN | apply Kd.R_drew)); exact HO_7.out⟩, ⟨by (with_reducible repeat (first | apply Kd.V_alloc | apply Kd.V_drewN | apply Kd.V_drew)); exact HO_132.out⟩, ⟨by (with_reducible repeat (first | apply Kd.V_alloc | apply Kd.V_drewN | apply Kd.V_drew)); exact HO_139.out⟩, ⟨by (with_reducible repeat (first | apply Kd.R_alloc | apply Kd.R_drewN | apply Kd.R_drew)); exact HO_145.out⟩, ⟨by (with_reducible repeat (first | apply Kd.V_alloc | apply Kd.V_drewN | apply Kd.V_drew)); exact HO_259000.out⟩, ⟨by (with_reducible repeat (first | apply Kd.V_alloc | apply Kd.V_drewN | apply Kd.V_drew)); exact HO_259001.out⟩, ⟨by (with_reducible repeat (first | refine blk_drewN ?_ _ | refine blk_drew ?_ | refine blk_alloc ?_ _)); exact BK258.out⟩, ⟨by (with_reducible repeat (first | refine blk_drewN ?_ _ | refine blk_drew ?_ | refine blk_alloc ?_ _)); exact BK261.out⟩, ⟨by repeat (first | (with_reducible first | exact HB.out | apply below_alloc | apply pw_below_drewN | apply below_drew1 | refine below_set ?_ GE258.out | refine below_set ?_ GE261.out) | exact HB.out)⟩⟩
                            ·rw [if_neg c139] at H
                             have c139b0 : ((rd x7_8 x147_6) == (rd x259000_8 x141_5)) = false := beq_eq_false_iff_ne.mpr c139
                             have c139b1 : ((rd x7_8 x147_6) != (rd x259000_8 x141_5)) = true := bne_iff_ne.mpr c139
                             have H' := Aside0.mk H
                             clear H
                             have p303 : 0 ≤ (x147_6 : Int) := of_decide_eq_true (by first | (with_reducible assumption) | assumption)
                             have q303 : x147_6 < (x7_8.length : Int) := of_decide_eq_true (by first | (with_reducible assumption) | assumption)
                             obtain ⟨ad303, e303, hx303_0⟩ := Kd.at_int (Kd.R_reads' HO_145.out).2.2 x147_6 p303 q303
                             cases e303
                             replace p303 := eq_true p303
                             replace q303 := eq_true q303
                             go_wp2
                             go_roundg k6
                             case measure => have := HK1.out; have := HJ8.out; have := HJ110.out; have := HK4.out; have := HK5.out; have := HK6.out; omega
                             case rel => exact ⟨(x25_6), (x26_6), (wrap64 (x147_6 + 1)), (by first | rfl | (simp; done) | (simp [*]; done)), (by first | rfl | (simp; done) | (simp [*]; done)), (by first | rfl | (simp; done) | (simp [*]; done)), H', ⟨by have := HK1.out; have := HJ8.out; have := HJ110.out; have := HK4.out; have := HK5.out; have := HK6.out; omega⟩, ⟨by (with_reducible repeat (first | apply Kd.R_alloc | apply Kd.R_drewN | apply Kd.R_drew)); exact HO_7.out⟩, ⟨by (with_reducible repeat (first | apply Kd.V_alloc | apply Kd.V_drewN | apply Kd.V_drew)); exact HO_132.out⟩, ⟨by (with_reducible repeat (first | apply Kd.V_alloc | apply Kd.V_drewN | apply Kd.V_drew)); exact HO_139.out⟩, ⟨by (with_reducible repeat (first | apply Kd.R_alloc | apply Kd.R_drewN | apply Kd.R_drew)); exact HO_145.out⟩, ⟨by (with_reducible repeat (first | apply Kd.V_alloc | apply Kd.V_drewN | apply Kd.V_drew)); exact HO_259000.out⟩, ⟨by (with_reducible repeat (first | apply Kd.V_alloc | apply Kd.V_drewN | apply Kd.V_drew)); exact HO_259001.out⟩, ⟨by (with_reducible repeat (first | refine blk_drewN ?_ _ | refine blk_drew ?_ | refine blk_alloc ?_ _)); exact BK258.out⟩, ⟨by (with_reducible repeat (first | refine blk_drewN ?_ _ | refine blk_drew ?_ | refine blk_alloc ?_ _)); exact BK261.out⟩, ⟨by repeat (first | (with_reducible first | exact HB.out | apply below_alloc | apply pw_below_drewN | apply below_drew1 | refine below_set ?_ GE258.out | refine below_set ?_ GE261.out) | exact HB.out)⟩⟩
                          ·rw [if_neg c136] at H
                           exact absurd H (by simp)
                         ·rw [if_neg c135] at H
                          exact absurd H (by simp)
                        ·rw [if_neg c134] at H
                         have c134b0 : decide (x147_6 < (x7_8.length : Int)) = false := decide_eq_false c134
                         clear c134
                         by_cases c140 : x25_6 > x26_6
                         ·rw [if_pos c140] at H
                          exact absurd H (by simp)
                         ·rw [if_neg c140] at H
                          have c140b0 : decide (x26_6 < x25_6) = false := decide_eq_false c140
                          clear c140
                          have H' := Aside0.mk H
                          clear H
                          go_wp2
                          go_roundg k6
                          case measure => have := HK1.out; have := HJ8.out; have := HJ110.out; have := HK4.out; have := HK5.out; have := HK6.out; omega
                          case rel => exact ⟨(wrap64 (x141_5 + 1)), (by first | rfl | (simp; done) | (simp [*]; done)), H', ⟨by have := HK1.out; have := HJ8.out; have := HJ110.out; have := HK4.out; have := HK5.out; have := HK6.out; omega⟩, ⟨by (with_reducible repeat (first | apply Kd.R_alloc | apply Kd.R_drewN | apply Kd.R_drew)); exact HO_7.out⟩, ⟨by (with_reducible repeat (first | apply Kd.V_alloc | apply Kd.V_drewN | apply Kd.V_drew)); exact Kd.V_mono HO_132.out (fun _ hk => ⟨hk.1, ⟨hk.2.2.1, hk.2.2.2⟩⟩)⟩, ⟨by (with_reducible repeat (first | apply Kd.V_alloc | apply Kd.V_drewN | apply Kd.V_drew)); exact Kd.V_mono HO_139.out (fun _ hk => ⟨hk.1, ⟨hk.2.2.1, hk.2.2.2⟩⟩)⟩, ⟨by (with_reducible repeat (first | apply Kd.V_alloc | apply Kd.V_drewN | apply Kd.V_drew)); exact Kd.V_mono HO_259000.out (fun _ hk => ⟨hk.1, ⟨hk.2.2.1, hk.2.2.2⟩⟩)⟩, ⟨by (with_reducible repeat (first | apply Kd.V_alloc | apply Kd.V_drewN | apply Kd.V_drew)); exact Kd.V_mono HO_259001.out (fun _ hk => ⟨hk.1, ⟨hk.2.2.1, hk.2.2.2⟩⟩)⟩, ⟨by (with_reducible repeat (first | refine blk_drewN ?_ _ | refine blk_drew ?_ | refine blk_alloc ?_ _)); exact BK258.out⟩, ⟨by (with_reducible repeat (first | refine blk_drewN ?_ _ | refine blk_drew ?_ | refine blk_alloc ?_ _)); exact BK261.out⟩, ⟨by repeat (first | (with_reducible first | exact HB.out | apply below_alloc | apply pw_below_drewN | apply below_drew1 | refine below_set ?_ GE258.out | refine below_set ?_ GE261.out) | exact HB.out)⟩⟩
                     ·rw [if_neg c132] at H
                      exact absurd H (by simp)
                    ·rw [if_neg c131] at H
                     exact absurd H (by simp)
                   ·rw [if_neg c130] at H
                    have c130b0 : decide (x141_5 < (x259000_8.length : Int)) = false := decide_eq_false c130
                    clear c130
                    have H' := Aside0.mk H
                    clear H
                    go_wp2
                    go_roundg k5
                    case measure => have := HK1.out; have := HJ8.out; have := HJ110.out; have := HK4.out; have := HK5.out; omega
                    case rel => exact ⟨(wrap64 (x134_4 + 1)), (by first | rfl | (simp; done) | (simp [*]; done)), H', ⟨by have := HK1.out; have := HJ8.out; have := HJ110.out; have := HK4.out; have := HK5.out; omega⟩, ⟨by (with_reducible repeat (first | apply Kd.R_alloc | apply Kd.R_drewN | apply Kd.R_drew)); exact HO_7.out⟩, ⟨by (with_reducible repeat (first | apply Kd.V_alloc | apply Kd.V_drewN | apply Kd.V_drew)); exact HO_132.out⟩, ⟨by (with_reducible repeat (first | apply Kd.V_alloc | apply Kd.V_drewN | apply Kd.V_drew)); exact HO_259000.out⟩, ⟨by (with_reducible repeat (first | apply Kd.V_alloc | apply Kd.V_drewN | apply Kd.V_drew)); exact HO_259001.out⟩, ⟨by (with_reducible repeat (first | refine blk_drewN ?_ _ | refine blk_drew ?_ | refine blk_alloc ?_ _)); exact BK258.out⟩, ⟨by (with_reducible repeat (first | refine blk_drewN ?_ _ | refine blk_drew ?_ | refine blk_alloc ?_ _)); exact BK261.out⟩, ⟨by repeat (first | (with_reducible first | exact HB.out | apply below_alloc | apply pw_below_drewN | apply below_drew1 | refine below_set ?_ GE258.out | refine below_set ?_ GE261.out) | exact HB.out)⟩⟩
                ·rw [if_neg c126] at H
                 exact absurd H (by simp)
               ·rw [if_neg c125] at H
                exact absurd H (by simp)
              ·rw [if_neg c124] at H
               have c124b0 : decide (x134_4 < (x259001_8.length : Int)) = false := decide_eq_false c124
               clear c124
               have H' := Aside0.mk H
               clear H
               go_wp2
               go_roundg k4
               case measure => have := HK1.out; have := HJ8.out; have := HJ110.out; have := HK4.out; omega
               case rel => exact ⟨(x4_8), (x5_8), (x6_8), (x7_8), (wrap64 (x35_1 + 1)), (x259000_8), (x259001_8), (u259000), (.slice Ao123 x259001_8.length co123), (by first | rfl | (simp; done) | (simp [*]; done)), (by first | rfl | (simp; done) | (simp [*]; done)), (by first | rfl | (simp; done) | (simp [*]; done)), (by first | rfl | (simp; done) | (simp [*]; done)), H', ⟨by have := HK1.out; have := HJ8.out; have := HJ110.out; have := HK4.out; omega⟩, ⟨by (with_reducible repeat (first | apply Kd.R_alloc | apply Kd.R_drewN | apply Kd.R_drew)); exact HO_7.out⟩, ⟨by (with_reducible repeat (first | apply Kd.V_alloc | apply Kd.V_drewN | apply Kd.V_drew)); exact Kd.V_mono HO_259000.out (fun _ hk => ⟨hk.1, hk.2.1⟩)⟩, ⟨by (with_reducible repeat (first | apply Kd.V_alloc | apply Kd.V_drewN | apply Kd.V_drew)); exact Kd.V_mono HO_259001.out (fun _ hk => ⟨hk.1, hk.2.1⟩)⟩, ⟨by (with_reducible repeat (first | refine blk_drewN ?_ _ | refine blk_drew ?_ | refine blk_alloc ?_ _)); exact BK258.out⟩, ⟨by repeat (first | (with_reducible first | exact HB.out | apply below_alloc | apply pw_below_drewN | apply below_drew1 | refine below_set ?_ GE258.out | refine below_set ?_ GE261.out) | exact HB.out)⟩⟩
      ·rw [if_neg c8] at H
       exact absurd H (by simp)
     ·rw [if_neg c7] at H
      exact absurd H (by simp)
    ·rw [if_neg c6] at H
     have c6b0 : decide (x35_1 < (l0.length : Int)) = false := decide_eq_false c6
     clear c6
     replace H := Option.bind_eq_some_iff.mp H
     obtain ⟨t259, A1410, H⟩ := H
     replace H : (some t259) = some r := H
     have A141 := Aside0.mk A1410
     clear A1410
     obtain rfl := Option.some.inj H
     go_wp2_with (first | ((with_reducible refine gate_callee (f := 9) rfl ?_); refine goesL_ (some 167) rfl rfl Try.func9 (by kernel_rfl) rfl #[] rfl zm ?_; (with_reducible refine (handshakerlaw20_awake.calls k1  t259 _ A141.out).mono ?_); rintro e w142 ⟨rfl, hb⟩; refine ⟨_, rfl, ?_⟩; have n0_ := Aside0.mk (Kd.R_below (zR HO_7) hb); have n1_ := Aside0.mk (Kd.V_below (zV HO_259000) hb); have n2_ := Aside0.mk (Kd.V_below (zV HO_259001) hb); have n3_ := Aside0.mk (blk_below (g := gb258) (o := .cells #[u259000, u259001] 24 (0, 0)) (zb BK258) hb); have n4_ := Aside0.mk (below_step (zc1 HB GE258) hb); clear HO_7; clear HO_259000; clear HO_259001; clear BK258; clear HB; have HO_7 := n0_; have HO_259000 := n1_; have HO_259001 := n2_; have BK258 := n3_; have HB := n4_; clear n0_ n1_ n2_ n3_ n4_; (try clear hb); (try clear hb2); (try clear hk); (try clear hi)))
     go_ret
     exact ⟨by first | rfl | (simp [errW_none, errW_some] <;> rfl) | (simp [*, errW_none, errW_some] <;> rfl), by repeat (first | (with_reducible first | exact HB.out | apply below_alloc | apply pw_below_drewN | apply below_drew1 | refine below_set ?_ GE258.out) | exact HB.out)⟩

end Go.Proofs.Ytllmfahkiabkcaa.PCondKeeps
