/- Lean functions that say what functions of the given program compute, and proofs by walking the code that each call does just that; no condition but those that each statement names. -/
import Derived.Test.YtablikjahajkkaaPGateRoundsx0
import Derived.Test.YtablikjahajkkaaPGateRoundsx1
import Derived.Test.YtablikjahajkkaaPGateRoundsx2
namespace Go.Proofs.Ytablikjahajkkaa.PGateRounds
open Go.RowKit Go.Proofs.YtablikjahajkkaaW.PrintWords Go.Proofs.YtablikjahajkkaaW.PrintLast Go.Proofs.YtablikjahajkkaaW.PrintMore
attribute [local go_sem] max2_int min2_int max_two min_two max_three min_three max_four min_four   -- for this text's walks alone
set_option linter.unusedVariables false
set_option linter.unusedSimpArgs false

/-! ### handshakerlaw19_GateRounds: function 4 -/
mutual
def handshakerlaw19_GateRounds.l0 : Nat → Int → Int → List Int → Int → List Int → Int → Int → Int → Int → List Int → Option (Bool)
  | 0, _, _, _, _, _, _, _, _, _, _ => none
  | k + 1, x5, x7, x8, x9, x34, x35, x36, x214000, x214001, x214002 => if x36 < x35 then (if 0 ≤ x36 then (if x36 < (x34.length : Int) then (handshakerlaw19_GateRounds.l1 k x5 x7 x8 x9 (wrap64 (rd x34 x36)) (-1) x34 x35 x36 x8 (x8.length : Int) 0 x214000 x214001 x214002) else (none)) else (none)) else (if x7 = 0 then ((handshakerlaw19_awake.f k).bind fun t214 => (some t214)) else (none))
def handshakerlaw19_GateRounds.l1 : Nat → Int → Int → List Int → Int → Int → Int → List Int → Int → Int → List Int → Int → Int → Int → Int → List Int → Option (Bool)
  | 0, _, _, _, _, _, _, _, _, _, _, _, _, _, _, _ => none
  | k + 1, x5, x7, x8, x9, x12, x13, x34, x35, x36, x42, x43, x44, x214000, x214001, x214002 => if x44 < x43 then (if 0 ≤ x44 then (if x44 < (x42.length : Int) then (if (rd x42 x44) = x12 then (handshakerlaw19_GateRounds.l1 k x5 x7 x8 x9 x12 x44 x34 x35 x36 x42 x43 (wrap64 (x44 + 1)) x214000 x214001 x214002) else (if (rd x42 x44) = (wrap64 (-x12)) then (handshakerlaw19_GateRounds.l1 k x5 x7 x8 x9 x12 x44 x34 x35 x36 x42 x43 (wrap64 (x44 + 1)) x214000 x214001 x214002) else (handshakerlaw19_GateRounds.l1 k x5 x7 x8 x9 x12 x13 x34 x35 x36 x42 x43 (wrap64 (x44 + 1)) x214000 x214001 x214002))) else (none)) else (none)) else (if x12 < 0 then ((gate_Leave.f k x214000 x214001 x214002 (wrap64 (-x12))).bind fun bt217 => (if bt217.2.2.2 = 0 then (if x13 ≥ 0 then ((some (([] : List Int) : List Int)).bind fun y224 => (if 0 ≤ x13 then (if x13 ≤ (x8.length : Int) then ((some (x8.take (x13 : Int).toNat : List Int)).bind fun y227 => (if y224.length + y227.length < 17592186044416 then ((some (y224 ++ y227 : List Int)).bind fun y231 => (if 0 ≤ (wrap64 (x13 + 1)) then (if (wrap64 (x13 + 1)) ≤ (x8.length : Int) then ((some (x8.drop ((wrap64 (x13 + 1)) : Int).toNat : List Int)).bind fun y234 => (if y231.length + y234.length < 17592186044416 then (handshakerlaw19_GateRounds.j4 k x5 x7 (y231 ++ y234) x9 x34 x35 x36 bt217.1 bt217.2.1 bt217.2.2.1) else (none))) else (none)) else (none))) else (none))) else (none)) else (none))) else (none)) else (if x13 ≥ 0 then (none) else (handshakerlaw19_GateRounds.j4 k x5 x7 x8 x9 x34 x35 x36 bt217.1 bt217.2.1 bt217.2.2.1)))) else ((gate_Come.f k x214000 x214001 x214002 x12).bind fun bt241 => (if x12 ≥ 1 then (if x12 ≤ 8 then (if bt241.2.2.2.2 = 0 then (if x13 < 0 then (handshakerlaw19_GateRounds.j2 k x5 x7 x8 x9 x12 bt241.2.2.2.1 bt241.2.2.2.2 x34 x35 x36 false bt241.1 bt241.2.1 bt241.2.2.1) else (none)) else (if x13 < 0 then (none) else (handshakerlaw19_GateRounds.j2 k x5 x7 x8 x9 x12 bt241.2.2.2.1 bt241.2.2.2.2 x34 x35 x36 false bt241.1 bt241.2.1 bt241.2.2.1))) else (if bt241.2.2.2.2 = 0 then (none) else (handshakerlaw19_GateRounds.j2 k x5 x7 x8 x9 x12 bt241.2.2.2.1 bt241.2.2.2.2 x34 x35 x36 false bt241.1 bt241.2.1 bt241.2.2.1))) else (if bt241.2.2.2.2 = 0 then (none) else (handshakerlaw19_GateRounds.j2 k x5 x7 x8 x9 x12 bt241.2.2.2.1 bt241.2.2.2.2 x34 x35 x36 false bt241.1 bt241.2.1 bt241.2.2.1)))))
def handshakerlaw19_GateRounds.j4 : Nat → Int → Int → List Int → Int → List Int → Int → Int → Int → Int → List Int → Option (Bool)
  | 0, _, _, _, _, _, _, _, _, _, _ => none
  | k + 1, x5, x7, x8, x9, x34, x35, x36, x214000, x214001, x214002 => if x214001 = x9 then ((handshakerref03_Numbers.f k x214002 x8).bind fun t261 => (if t261 = true then ((gate_Right.f k x214000 x214001 x214002).bind fun t262 => (if t262 = true then (handshakerlaw19_GateRounds.l0 k x5 x7 x8 x9 x34 x35 (wrap64 (x36 + 1)) x214000 x214001 x214002) else (none))) else (none))) else (none)
def handshakerlaw19_GateRounds.j2 : Nat → Int → Int → List Int → Int → Int → List Int → Int → List Int → Int → Int → Bool → Int → Int → List Int → Option (Bool)
  | 0, _, _, _, _, _, _, _, _, _, _, _, _, _, _ => none
  | k + 1, x5, x7, x8, x9, x12, x19, x20, x34, x35, x36, x106, x251000, x251001, x251002 => if x106 = true then (none) else (if x20 = 0 then ((some (([] : List Int) : List Int)).bind fun y251 => (if y251.length + x8.length < 17592186044416 then ((some (y251 ++ x8 : List Int)).bind fun y254 => (if y254.length < 17592186044416 then (handshakerlaw19_GateRounds.j3 k x5 x7 (y254 ++ [x12]) x9 x19 x34 x35 x36 x251000 x251001 x251002) else (none))) else (none))) else (handshakerlaw19_GateRounds.j3 k x5 x7 x8 x9 x19 x34 x35 x36 x251000 x251001 x251002))
def handshakerlaw19_GateRounds.j3 : Nat → Int → Int → List Int → Int → List Int → List Int → Int → Int → Int → Int → List Int → Option (Bool)
  | 0, _, _, _, _, _, _, _, _, _, _, _ => none
  | k + 1, x5, x7, x8, x9, x19, x34, x35, x36, x251000, x251001, x251002 => if (x8.length : Int) = x5 then ((handshakerref03_Numbers.f k x19 x8).bind fun t260 => (if t260 = true then (if (([] : List Int).length : Int) > 0 then (none) else (handshakerlaw19_GateRounds.j4 k x5 x7 ([] : List Int) (wrap64 (x9 + 1)) x34 x35 x36 x251000 x251001 x251002)) else (none))) else (if (x19.length : Int) > 0 then (none) else (handshakerlaw19_GateRounds.j4 k x5 x7 x8 x9 x34 x35 x36 x251000 x251001 x251002))
end
def handshakerlaw19_GateRounds.f (k : Nat) (a0 : Int) (l1 : List Int) : Option (Bool) := if (l1.length : Int) > 60 then ((handshakerlaw19_awake.f k).bind fun t206 => (some t206)) else ((gate_New.f k (wrap64 (1 + (wrap64 (Int.tmod a0 8))))).bind fun bt207 => (handshakerlaw19_GateRounds.l0 k (wrap64 (1 + (wrap64 (Int.tmod a0 8)))) bt207.2.2.2 ([] : List Int) 0 l1 (l1.length : Int) 0 bt207.1 bt207.2.1 bt207.2.2.1))
theorem handshakerlaw19_GateRounds.mono_l : ∀ k, (∀ y0 y1 y2 y3 y4 y5 y6 y7 y8 y9, LeO (handshakerlaw19_GateRounds.l0 k y0 y1 y2 y3 y4 y5 y6 y7 y8 y9) (handshakerlaw19_GateRounds.l0 (k + 1) y0 y1 y2 y3 y4 y5 y6 y7 y8 y9)) ∧ (∀ y0 y1 y2 y3 y4 y5 y6 y7 y8 y9 y10 y11 y12 y13 y14, LeO (handshakerlaw19_GateRounds.l1 k y0 y1 y2 y3 y4 y5 y6 y7 y8 y9 y10 y11 y12 y13 y14) (handshakerlaw19_GateRounds.l1 (k + 1) y0 y1 y2 y3 y4 y5 y6 y7 y8 y9 y10 y11 y12 y13 y14)) ∧ (∀ y0 y1 y2 y3 y4 y5 y6 y7 y8 y9, LeO (handshakerlaw19_GateRounds.j4 k y0 y1 y2 y3 y4 y5 y6 y7 y8 y9) (handshakerlaw19_GateRounds.j4 (k + 1) y0 y1 y2 y3 y4 y5 y6 y7 y8 y9)) ∧ (∀ y0 y1 y2 y3 y4 y5 y6 y7 y8 y9 y10 y11 y12 y13, LeO (handshakerlaw19_GateRounds.j2 k y0 y1 y2 y3 y4 y5 y6 y7 y8 y9 y10 y11 y12 y13) (handshakerlaw19_GateRounds.j2 (k + 1) y0 y1 y2 y3 y4 y5 y6 y7 y8 y9 y10 y11 y12 y13)) ∧ (∀ y0 y1 y2 y3 y4 y5 y6 y7 y8 y9 y10, LeO (handshakerlaw19_GateRounds.j3 k y0 y1 y2 y3 y4 y5 y6 y7 y8 y9 y10) (handshakerlaw19_GateRounds.j3 (k + 1) y0 y1 y2 y3 y4 y5 y6 y7 y8 y9 y10))
  | 0 => ⟨fun _ _ _ _ _ _ _ _ _ _ r h => by simp [handshakerlaw19_GateRounds.l0] at h, fun _ _ _ _ _ _ _ _ _ _ _ _ _ _ _ r h => by simp [handshakerlaw19_GateRounds.l1] at h, fun _ _ _ _ _ _ _ _ _ _ r h => by simp [handshakerlaw19_GateRounds.j4] at h, fun _ _ _ _ _ _ _ _ _ _ _ _ _ _ r h => by simp [handshakerlaw19_GateRounds.j2] at h, fun _ _ _ _ _ _ _ _ _ _ _ r h => by simp [handshakerlaw19_GateRounds.j3] at h⟩
  | k + 1 => by
    obtain ⟨ih0, ih1, ih2, ih3, ih4⟩ := handshakerlaw19_GateRounds.mono_l k
    refine ⟨?_, ?_, ?_, ?_, ?_⟩
    · intro y0 y1 y2 y3 y4 y5 y6 y7 y8 y9
      unfold handshakerlaw19_GateRounds.l0
      repeat' first
      | (with_reducible exact ih0 _ _ _ _ _ _ _ _ _ _)
      | (with_reducible exact ih1 _ _ _ _ _ _ _ _ _ _ _ _ _ _ _)
      | (with_reducible exact ih2 _ _ _ _ _ _ _ _ _ _)
      | (with_reducible exact ih3 _ _ _ _ _ _ _ _ _ _ _ _ _ _)
      | (with_reducible exact ih4 _ _ _ _ _ _ _ _ _ _ _)
      | (with_reducible exact gate_Come.mono _ _ _ _ _)
      | (with_reducible exact gate_Leave.mono _ _ _ _ _)
      | (with_reducible exact gate_New.mono _ _)
      | (with_reducible exact gate_Right.mono _ _ _ _)
      | (with_reducible exact handshakerlaw19_awake.mono _)
      | (with_reducible exact handshakerref03_Numbers.mono _ _ _)
      | (with_reducible exact LeO.refl _)
      | (with_reducible exact LeO.none _)
      | (with_reducible refine LeO.ite ?_ ?_)
      | (with_reducible refine LeO.bind ?_ (fun _ => ?_))
      | exact ih0 _ _ _ _ _ _ _ _ _ _
      | exact ih1 _ _ _ _ _ _ _ _ _ _ _ _ _ _ _
      | exact ih2 _ _ _ _ _ _ _ _ _ _
      | exact ih3 _ _ _ _ _ _ _ _ _ _ _ _ _ _
      | exact ih4 _ _ _ _ _ _ _ _ _ _ _
      | exact gate_Come.mono _ _ _ _ _
      | exact gate_Leave.mono _ _ _ _ _
      | exact gate_New.mono _ _
      | exact gate_Right.mono _ _ _ _
      | exact handshakerlaw19_awake.mono _
      | exact handshakerref03_Numbers.mono _ _ _
      | exact LeO.none _
      | refine LeO.ite ?_ ?_
      | refine LeO.bind ?_ (fun _ => ?_)
    · intro y0 y1 y2 y3 y4 y5 y6 y7 y8 y9 y10 y11 y12 y13 y14
      unfold handshakerlaw19_GateRounds.l1
      repeat' first
      | (with_reducible exact ih0 _ _ _ _ _ _ _ _ _ _)
      | (with_reducible exact ih1 _ _ _ _ _ _ _ _ _ _ _ _ _ _ _)
      | (with_reducible exact ih2 _ _ _ _ _ _ _ _ _ _)
      | (with_reducible exact ih3 _ _ _ _ _ _ _ _ _ _ _ _ _ _)
      | (with_reducible exact ih4 _ _ _ _ _ _ _ _ _ _ _)
      | (with_reducible exact gate_Come.mono _ _ _ _ _)
      | (with_reducible exact gate_Leave.mono _ _ _ _ _)
      | (with_reducible exact gate_New.mono _ _)
      | (with_reducible exact gate_Right.mono _ _ _ _)
      | (with_reducible exact handshakerlaw19_awake.mono _)
      | (with_reducible exact handshakerref03_Numbers.mono _ _ _)
      | (with_reducible exact LeO.refl _)
      | (with_reducible exact LeO.none _)
      | (with_reducible refine LeO.ite ?_ ?_)
      | (with_reducible refine LeO.bind ?_ (fun _ => ?_))
      | exact ih0 _ _ _ _ _ _ _ _ _ _
      | exact ih1 _ _ _ _ _ _ _ _ _ _ _ _ _ _ _
      | exact ih2 _ _ _ _ _ _ _ _ _ _
      | exact ih3 _ _ _ _ _ _ _ _ _ _ _ _ _ _
      | exact ih4 _ _ _ _ _ _ _ _ _ _ _
      | exact gate_Come.mono _ _ _ _ _
      | exact gate_Leave.mono _ _ _ _ _
      | exact gate_New.mono _ _
      | exact gate_Right.mono _ _ _ _
      | exact handshakerlaw19_awake.mono _
      | exact handshakerref03_Numbers.mono _ _ _
      | exact LeO.none _
      | refine LeO.ite ?_ ?_
      | refine LeO.bind ?_ (fun _ => ?_)
    · intro y0 y1 y2 y3 y4 y5 y6 y7 y8 y9
      unfold handshakerlaw19_GateRounds.j4
      repeat' first
      | (with_reducible exact ih0 _ _ _ _ _ _ _ _ _ _)
      | (with_reducible exact ih1 _ _ _ _ _ _ _ _ _ _ _ _ _ _ _)
      | (with_reducible exact ih2 _ _ _ _ _ _ _ _ _ _)
      | (with_reducible exact ih3 _ _ _ _ _ _ _ _ _ _ _ _ _ _)
      | (with_reducible exact ih4 _ _ _ _ _ _ _ _ _ _ _)
      | (with_reducible exact gate_Come.mono _ _ _ _ _)
      | (with_reducible exact gate_Leave.mono _ _ _ _ _)
      | (with_reducible exact gate_New.mono _ _)
      | (with_reducible exact gate_Right.mono _ _ _ _)
      | (with_reducible exact handshakerlaw19_awake.mono _)
      | (with_reducible exact handshakerref03_Numbers.mono _ _ _)
      | (with_reducible exact LeO.refl _)
      | (with_reducible exact LeO.none _)
      | (with_reducible refine LeO.ite ?_ ?_)
      | (with_reducible refine LeO.bind ?_ (fun _ => ?_))
      | exact ih0 _ _ _ _ _ _ _ _ _ _
      | exact ih1 _ _ _ _ _ _ _ _ _ _ _ _ _ _ _
      | exact ih2 _ _ _ _ _ _ _ _ _ _
      | exact ih3 _ _ _ _ _ _ _ _ _ _ _ _ _ _
      | exact ih4 _ _ _ _ _ _ _ _ _ _ _
      | exact gate_Come.mono _ _ _ _ _
      | exact gate_Leave.mono _ _ _ _ _
      | exact gate_New.mono _ _
      | exact gate_Right.mono _ _ _ _
      | exact handshakerlaw19_awake.mono _
      | exact handshakerref03_Numbers.mono _ _ _
      | exact LeO.none _
      | refine LeO.ite ?_ ?_
      | refine LeO.bind ?_ (fun _ => ?_)
    · intro y0 y1 y2 y3 y4 y5 y6 y7 y8 y9 y10 y11 y12 y13
      unfold handshakerlaw19_GateRounds.j2
      repeat' first
      | (with_reducible exact ih0 _ _ _ _ _ _ _ _ _ _)
      | (with_reducible exact ih1 _ _ _ _ _ _ _ _ _ _ _ _ _ _ _)
      | (with_reducible exact ih2 _ _ _ _ _ _ _ _ _ _)
      | (with_reducible exact ih3 _ _ _ _ _ _ _ _ _ _ _ _ _ _)
      | (with_reducible exact ih4 _ _ _ _ _ _ _ _ _ _ _)
      | (with_reducible exact gate_Come.mono _ _ _ _ _)
      | (with_reducible exact gate_Leave.mono _ _ _ _ _)
      | (with_reducible exact gate_New.mono _ _)
      | (with_reducible exact gate_Right.mono _ _ _ _)
      | (with_reducible exact handshakerlaw19_awake.mono _)
      | (with_reducible exact handshakerref03_Numbers.mono _ _ _)
      | (with_reducible exact LeO.refl _)
      | (with_reducible exact LeO.none _)
      | (with_reducible refine LeO.ite ?_ ?_)
      | (with_reducible refine LeO.bind ?_ (fun _ => ?_))
      | exact ih0 _ _ _ _ _ _ _ _ _ _
      | exact ih1 _ _ _ _ _ _ _ _ _ _ _ _ _ _ _
      | exact ih2 _ _ _ _ _ _ _ _ _ _
      | exact ih3 _ _ _ _ _ _ _ _ _ _ _ _ _ _
      | exact ih4 _ _ _ _ _ _ _ _ _ _ _
      | exact gate_Come.mono _ _ _ _ _
      | exact gate_Leave.mono _ _ _ _ _
      | exact gate_New.mono _ _
      | exact gate_Right.mono _ _ _ _
      | exact handshakerlaw19_awake.mono _
      | exact handshakerref03_Numbers.mono _ _ _
      | exact LeO.none _
      | refine LeO.ite ?_ ?_
      | refine LeO.bind ?_ (fun _ => ?_)
    · intro y0 y1 y2 y3 y4 y5 y6 y7 y8 y9 y10
      unfold handshakerlaw19_GateRounds.j3
      repeat' first
      | (with_reducible exact ih0 _ _ _ _ _ _ _ _ _ _)
      | (with_reducible exact ih1 _ _ _ _ _ _ _ _ _ _ _ _ _ _ _)
      | (with_reducible exact ih2 _ _ _ _ _ _ _ _ _ _)
      | (with_reducible exact ih3 _ _ _ _ _ _ _ _ _ _ _ _ _ _)
      | (with_reducible exact ih4 _ _ _ _ _ _ _ _ _ _ _)
      | (with_reducible exact gate_Come.mono _ _ _ _ _)
      | (with_reducible exact gate_Leave.mono _ _ _ _ _)
      | (with_reducible exact gate_New.mono _ _)
      | (with_reducible exact gate_Right.mono _ _ _ _)
      | (with_reducible exact handshakerlaw19_awake.mono _)
      | (with_reducible exact handshakerref03_Numbers.mono _ _ _)
      | (with_reducible exact LeO.refl _)
      | (with_reducible exact LeO.none _)
      | (with_reducible refine LeO.ite ?_ ?_)
      | (with_reducible refine LeO.bind ?_ (fun _ => ?_))
      | exact ih0 _ _ _ _ _ _ _ _ _ _
      | exact ih1 _ _ _ _ _ _ _ _ _ _ _ _ _ _ _
      | exact ih2 _ _ _ _ _ _ _ _ _ _
      | exact ih3 _ _ _ _ _ _ _ _ _ _ _ _ _ _
      | exact ih4 _ _ _ _ _ _ _ _ _ _ _
      | exact gate_Come.mono _ _ _ _ _
      | exact gate_Leave.mono _ _ _ _ _
      | exact gate_New.mono _ _
      | exact gate_Right.mono _ _ _ _
      | exact handshakerlaw19_awake.mono _
      | exact handshakerref03_Numbers.mono _ _ _
      | exact LeO.none _
      | refine LeO.ite ?_ ?_
      | refine LeO.bind ?_ (fun _ => ?_)
theorem handshakerlaw19_GateRounds.mono : ∀ a0 a1 k, LeO (handshakerlaw19_GateRounds.f k a0 a1) (handshakerlaw19_GateRounds.f (k + 1) a0 a1) := by
  intro a0 a1 k
  obtain ⟨ih0, ih1, ih2, ih3, ih4⟩ := handshakerlaw19_GateRounds.mono_l k
  unfold handshakerlaw19_GateRounds.f
  repeat' first
      | (with_reducible exact ih0 _ _ _ _ _ _ _ _ _ _)
      | (with_reducible exact ih1 _ _ _ _ _ _ _ _ _ _ _ _ _ _ _)
      | (with_reducible exact ih2 _ _ _ _ _ _ _ _ _ _)
      | (with_reducible exact ih3 _ _ _ _ _ _ _ _ _ _ _ _ _ _)
      | (with_reducible exact ih4 _ _ _ _ _ _ _ _ _ _ _)
      | (with_reducible exact gate_Come.mono _ _ _ _ _)
      | (with_reducible exact gate_Leave.mono _ _ _ _ _)
      | (with_reducible exact gate_New.mono _ _)
      | (with_reducible exact gate_Right.mono _ _ _ _)
      | (with_reducible exact handshakerlaw19_awake.mono _)
      | (with_reducible exact handshakerref03_Numbers.mono _ _ _)
      | (with_reducible exact LeO.refl _)
      | (with_reducible exact LeO.none _)
      | (with_reducible refine LeO.ite ?_ ?_)
      | (with_reducible refine LeO.bind ?_ (fun _ => ?_))
      | exact ih0 _ _ _ _ _ _ _ _ _ _
      | exact ih1 _ _ _ _ _ _ _ _ _ _ _ _ _ _ _
      | exact ih2 _ _ _ _ _ _ _ _ _ _
      | exact ih3 _ _ _ _ _ _ _ _ _ _ _ _ _ _
      | exact ih4 _ _ _ _ _ _ _ _ _ _ _
      | exact gate_Come.mono _ _ _ _ _
      | exact gate_Leave.mono _ _ _ _ _
      | exact gate_New.mono _ _
      | exact gate_Right.mono _ _ _ _
      | exact handshakerlaw19_awake.mono _
      | exact handshakerref03_Numbers.mono _ _ _
      | exact LeO.none _
      | refine LeO.ite ?_ ?_
      | refine LeO.bind ?_ (fun _ => ?_)
def handshakerlaw19_GateRounds.T23 : Bool × List (List Nat × List Nat) := (true, [([], []), ([], []), ([], []), ([1, 2], [1, 2]), ([0, 3], [0, 3]), ([], []), ([], []), ([6], [6]), ([5, 7], [5, 7]), ([4, 8, 4], [4, 8]), ([9, 9, 0, 1, 2, 3, 4, 5, 6, 7, 8, 9], [1, 5, 9])])
def handshakerlaw19_GateRounds.B23 : List Nat := [0, 0, 0, 6, 15, 0, 0, 64, 224, 511, 1023]
theorem handshakerlaw19_GateRounds.tab23 : rtab .any (opsOf Try.f4 23) = handshakerlaw19_GateRounds.T23 := by kernel_rfl
theorem handshakerlaw19_GateRounds.bits23 : waitsOk handshakerlaw19_GateRounds.T23.2 handshakerlaw19_GateRounds.B23 = true := by kernel_rfl
set_option maxHeartbeats 8000000 in
set_option maxRecDepth 100000 in
theorem handshakerlaw19_GateRounds.calls (k : Nat) (a0 : Int) (A1 : Option Addr) (c1 : Nat) (l1 : List Int) (r : Bool) (w : World) (hr1 : Kd.C (Kd.int .i8) w A1 l1.length l1) (hc1 : l1.length ≤ c1) (h : handshakerlaw19_GateRounds.f k a0 l1 = some r) :
    Calls Try.prog 4 #[.int .u8 a0, .slice A1 l1.length c1] w fun e w' => e = .returned (.bool r) ∧ Below w.heap.size w w' := by
  have hu24 := Try.underlying24
  have HR1 := Aside0.mk hr1
  have HC1 := Aside0.mk hc1
  clear hr1 hc1
  have HB := Aside0.mk (Below.refl w.heap.size w)
  have H : (if (l1.length : Int) > 60 then ((handshakerlaw19_awake.f k).bind fun t206 => (some t206)) else ((gate_New.f k (wrap64 (1 + (wrap64 (Int.tmod a0 8))))).bind fun bt207 => (handshakerlaw19_GateRounds.l0 k (wrap64 (1 + (wrap64 (Int.tmod a0 8)))) bt207.2.2.2 ([] : List Int) 0 l1 (l1.length : Int) 0 bt207.1 bt207.2.1 bt207.2.2.1))) = some r := h
  clear h
  by_cases c3 : (l1.length : Int) > 60
  · rw [if_pos c3] at H
    have c3b0 : decide (60 < (l1.length : Int)) = true := decide_eq_true c3
    have c3b1 : decide (60 < l1.length) = true := decide_eq_true (by omega)
    clear c3
    replace H := Option.bind_eq_some_iff.mp H
    obtain ⟨t206, A40, H⟩ := H
    replace H : (some t206) = some r := H
    have A4 := Aside0.mk A40
    clear A40
    obtain rfl := Option.some.inj H
    go_enter Try.func4, Try.ntmps4
    go_wp2_with (first | ((with_reducible refine gate_callee (f := 8) rfl ?_); refine goesL_ (some 24) rfl rfl Try.func8 (by kernel_rfl) rfl #[] rfl (by (try simp only [List.map_toArray, List.map_cons, List.map_nil]); first | done | rfl | (simp only [List.length_drop, List.length_take]; rfl)) ?_; (with_reducible refine (handshakerlaw19_awake.calls k  t206 _ A4.out).mono ?_); rintro e w5 ⟨rfl, hb⟩; refine ⟨_, rfl, ?_⟩; have n0_ := Aside0.mk (below_step (by repeat (first | (with_reducible first | exact HB.out | apply below_alloc | apply pw_below_drewN | apply below_drew1) | exact HB.out)) hb); clear HB; have HB := n0_; clear n0_; (try clear hb); (try clear hb2); (try clear hk); (try clear hi)))
    go_ret
    exact ⟨by first | rfl | (simp [errW_none, errW_some] <;> rfl) | (simp [*, errW_none, errW_some] <;> rfl), by repeat (first | (with_reducible first | exact HB.out | apply below_alloc | apply pw_below_drewN | apply below_drew1) | exact HB.out)⟩
  · rw [if_neg c3] at H
    have c3b0 : decide (60 < (l1.length : Int)) = false := decide_eq_false c3
    have c3b1 : decide (60 < l1.length) = false := decide_eq_false (by omega)
    clear c3
    replace H := Option.bind_eq_some_iff.mp H
    obtain ⟨⟨t207, t208, t209, t212⟩, A60, H⟩ := H
    replace H : (handshakerlaw19_GateRounds.l0 k (wrap64 (1 + (wrap64 (Int.tmod a0 8)))) t212 ([] : List Int) 0 l1 (l1.length : Int) 0 t207 t208 t209) = some r := H
    have A6 := Aside0.mk A60
    clear A60
    have H' := Aside0.mk H
    clear H
    go_enter Try.func4, Try.ntmps4
    go_wp2_with (first | ((with_reducible refine gate_callee (f := 14) rfl ?_); refine goesL_ (some 31) rfl rfl Try.func14 (by kernel_rfl) rfl #[.int .i64 (wrap64 (1 + (wrap64 (Int.tmod a0 8))))] rfl (by (try simp only [List.map_toArray, List.map_cons, List.map_nil]); first | done | rfl | (simp only [List.length_drop, List.length_take]; rfl)) ?_; (with_reducible refine (gate_New.calls k (wrap64 (1 + (wrap64 (Int.tmod a0 8)))) t207 t208 t209 t212 _ A6.out).mono ?_); rintro e w7 ⟨v210, rfl, ho0, hb⟩; refine ⟨_, rfl, ?_⟩; have n0_ := Aside0.mk (Kd.R_lower ho0 (below_size (by repeat (first | (with_reducible first | exact HB.out | apply below_alloc | apply pw_below_drewN | apply below_drew1) | exact HB.out)))); have n1_ := Aside0.mk (below_step (by repeat (first | (with_reducible first | exact HB.out | apply below_alloc | apply pw_below_drewN | apply below_drew1) | exact HB.out)) hb); clear HB; have HO211 := n0_; have HB := n1_; clear n0_ n1_; (try clear hb); (try clear hb2); (try clear hk); (try clear hi); (try clear ho0)) | ((with_reducible refine gate_dst (N := 6) rfl ?_); refine box_event ?hg (N := 6) ?hd (cs := #[.int .i64 0, .int .i64 0, .slice none 0 0]) (t := 24) ?hr ?_; (case hd => rfl); (case hg => rfl); (case hr => first | (go_simp; done) | (go_simp; rfl)); intro gb213 hg w8 hbox hb; have n0_ := Aside0.mk (Kd.R_below (by (with_reducible repeat (first | apply Kd.R_alloc | apply Kd.R_drewN | apply Kd.R_drew)); exact HO211.out) hb); have n1_ := Aside0.mk (below_step (by repeat (first | (with_reducible first | exact HB.out | apply below_alloc | apply pw_below_drewN | apply below_drew1) | exact HB.out)) hb); have n2_ := Aside0.mk (hbox); have n3_ := Aside0.mk ((by rw [hg]; exact (below_size (by repeat (first | (with_reducible first | exact HB.out | apply below_alloc | apply pw_below_drewN | apply below_drew1) | exact HB.out))) : w.heap.size ≤ gb213)); have n4_ := Aside0.mk ((by rw [hg]; exact (below_size (by repeat (first | (with_reducible first | exact HB.out | apply below_alloc | apply pw_below_drewN | apply below_drew1) | exact HB.out))) : w.heap.size ≤ gb213)); clear HO211; clear HB; have HO211 := n0_; have HB := n1_; have BK213 := n2_; have GW213 := n3_; have GE213 := n4_; clear n0_ n1_ n2_ n3_ n4_; clear hb hbox hg; have hcz9_0 : w8.cell? ⟨gb213, 0, none⟩ = some (.int .i64 0) := (blk_cell BK213.out 0).trans rfl; have hcz9_1 : w8.cell? ⟨gb213, 1, none⟩ = some (.int .i64 0) := (blk_cell BK213.out 1).trans rfl; have hcz9_2 : w8.cell? ⟨gb213, 2, none⟩ = some (.slice none 0 0) := (blk_cell BK213.out 2).trans rfl; have hfz9_0 := blk_frozen BK213.out 0; have hfz9_1 := blk_frozen BK213.out 1; have hfz9_2 := blk_frozen BK213.out 2; obtain ⟨Ao10, co10, eo10⟩ := Kd.R_slice HO211.out; subst eo10))
    go_loopg [8, 9, 36] k (fun kq v8 v9 v36 w' => ∃ (x8_1 : List Int) (x9_1 : Int) (x36_1 : Int) (x214000_1 : Int) (x214001_1 : Int) (x214002_1 : List Int) (u214002 : Value), v9 = .int .i64 x9_1 ∧ v36 = .int .i64 x36_1 ∧ Aside0 (handshakerlaw19_GateRounds.l0 kq (wrap64 (1 + (wrap64 (Int.tmod a0 8)))) t212 x8_1 x9_1 l1 (l1.length : Int) x36_1 x214000_1 x214001_1 x214002_1 = some r) ∧ Aside0 (kq ≤ k) ∧ Aside0 (Kd.R (Kd.int .i64) 3 w' w.heap.size (fun _ => True) v8 x8_1) ∧ Aside0 (Kd.V (Kd.int .i64) 3 w' w.heap.size (fun k_ => some k_ ≠ (v8 : Value).ownBlock ∧ k_ ≠ gb213) u214002 x214002_1) ∧ Aside0 (w'.heap[gb213]? = some (.cells #[.int .i64 x214000_1, .int .i64 x214001_1, u214002] 24 (0, 0))) ∧ Aside0 (Below w.heap.size w w'))
    case atStart => exact ⟨(([] : List Int)), (0), (0), (t207), (t208), (t209), (.slice Ao10 t209.length co10), (by first | rfl | (simp; done) | (simp [*]; done)), (by first | rfl | (simp; done) | (simp [*]; done)), H', ⟨Nat.le_refl _⟩, ⟨by first | exact Kd.R_nil _ _ _ _ _ | exact Kd.N_nil _ _ _ _ _ | exact Kd.V_nil _ _ _ _ _ | exact Kd.Q_nil _ _ _ _ _ | exact Kd.S_nil _ _ _ _ _⟩, ⟨Kd.R_V (by (with_reducible repeat (first | apply Kd.R_alloc | apply Kd.R_drewN | apply Kd.R_drew)); exact Kd.R_mono (Kd.R_far (p := ⟨gb213, 2, none⟩) (Kd.R_far (p := ⟨gb213, 1, none⟩) (Kd.R_far (p := ⟨gb213, 0, none⟩) (Kd.R_types (Kd.R_types HO211.out BK213.out (by decide)) BK213.out (by decide)) (fun _ hk => hk.2) (.int .i64 t207)) (fun _ hk => hk.2) (.int .i64 t208)) (fun _ hk => hk.2) (.slice Ao10 t209.length co10)) (fun _ hk => ⟨(by simp [Value.ownBlock]), hk.1.2⟩))⟩, ⟨by (with_reducible repeat (first | refine blk_drewN ?_ _ | refine blk_drew ?_ | refine blk_alloc ?_ _)); refine blk_put (cs := #[.int .i64 t207, .int .i64 t208, .slice none 0 0]) ?_ 2 _ rfl; (with_reducible repeat (first | refine blk_drewN ?_ _ | refine blk_drew ?_ | refine blk_alloc ?_ _)); refine blk_put (cs := #[.int .i64 t207, .int .i64 0, .slice none 0 0]) ?_ 1 _ rfl; (with_reducible repeat (first | refine blk_drewN ?_ _ | refine blk_drew ?_ | refine blk_alloc ?_ _)); refine blk_put (cs := #[.int .i64 0, .int .i64 0, .slice none 0 0]) ?_ 0 _ rfl; (with_reducible repeat (first | refine blk_drewN ?_ _ | refine blk_drew ?_ | refine blk_alloc ?_ _)); exact BK213.out⟩, ⟨by repeat (first | (with_reducible first | exact HB.out | apply below_alloc | apply pw_below_drewN | apply below_drew1 | refine below_set ?_ GE213.out) | exact HB.out)⟩⟩
    case round =>
      clear H'
      try clear c1
      try clear p2
      try clear c3
      try clear c3b0
      try clear c3b1
      try clear c4
      try clear p6
      try clear c8
      try clear hcz9_0
      try clear hcz9_1
      try clear hcz9_2
      try clear hfz9_0
      try clear hfz9_1
      try clear hfz9_2
      obtain ⟨x8_1, x9_1, x36_1, x214000_1, x214001_1, x214002_1, u214002, rfl, rfl, HA, HK1, HO_8, HO_214002, BK213, HB⟩ := hrel
      cases gk with
      | zero => exact absurd HA.out (by simp [handshakerlaw19_GateRounds.l0])
      | succ k1 =>
        have H := HA.out
        clear HA
        simp only [handshakerlaw19_GateRounds.l0] at H
        by_cases c11 : x36_1 < (l1.length : Int)
        · rw [if_pos c11] at H
          have c11b0 : decide (x36_1 < (l1.length : Int)) = true := decide_eq_true c11
          clear c11
          by_cases c12 : 0 ≤ x36_1
          · rw [if_pos c12] at H
            have c12b0 : decide (0 ≤ x36_1) = true := decide_eq_true c12
            clear c12
            by_cases c13 : x36_1 < (l1.length : Int)
            · rw [if_pos c13] at H
              have c13b0 : decide (x36_1 < (l1.length : Int)) = true := decide_eq_true c13
              clear c13
              have H' := Aside0.mk H
              clear H
              have p215 : 0 ≤ (x36_1 : Int) := of_decide_eq_true (by first | (with_reducible assumption) | assumption)
              have q215 : x36_1 < (l1.length : Int) := of_decide_eq_true (by first | (with_reducible assumption) | assumption)
              obtain ⟨ad215, e215, hx215_0⟩ := Kd.at_int HR1.out x36_1 p215 q215
              cases e215
              replace hx215_0 := (HB.out.cell (World.block_lt_of_cell? w _ hx215_0)).trans hx215_0
              replace p215 := eq_true p215
              replace q215 := eq_true q215
              obtain ⟨Ao14, co14, eo14⟩ := Kd.R_slice HO_8.out
              subst eo14
              go_wp2
              go_loopg [13, 44] k1 (fun kq v13 v44 w' => ∃ (x13_2 : Int) (x44_2 : Int), v13 = .int .i64 x13_2 ∧ v44 = .int .i64 x44_2 ∧ Aside0 (handshakerlaw19_GateRounds.l1 kq (wrap64 (1 + (wrap64 (Int.tmod a0 8)))) t212 x8_1 x9_1 (wrap64 (rd l1 x36_1)) x13_2 l1 (l1.length : Int) x36_1 x8_1 (x8_1.length : Int) x44_2 x214000_1 x214001_1 x214002_1 = some r) ∧ Aside0 (kq ≤ k1) ∧ Aside0 (Kd.R (Kd.int .i64) 3 w' w.heap.size (fun _ => True) (.slice Ao14 x8_1.length co14) x8_1) ∧ Aside0 (Kd.R (Kd.int .i64) 3 w' w.heap.size (fun _ => True) (.slice Ao14 x8_1.length co14) x8_1) ∧ Aside0 (Kd.V (Kd.int .i64) 3 w' w.heap.size (fun k_ => some k_ ≠ ((.slice Ao14 x8_1.length co14) : Value).ownBlock ∧ some k_ ≠ ((.slice Ao14 x8_1.length co14) : Value).ownBlock ∧ k_ ≠ gb213) u214002 x214002_1) ∧ Aside0 (w'.heap[gb213]? = some (.cells #[.int .i64 x214000_1, .int .i64 x214001_1, u214002] 24 (0, 0))) ∧ Aside0 (Below w.heap.size w w'))
              case atStart => exact ⟨((-1)), (0), (by first | rfl | (simp; done) | (simp [*]; done)), (by first | rfl | (simp; done) | (simp [*]; done)), H', ⟨Nat.le_refl _⟩, ⟨by (with_reducible repeat (first | apply Kd.R_alloc | apply Kd.R_drewN | apply Kd.R_drew)); exact HO_8.out⟩, ⟨by (with_reducible repeat (first | apply Kd.R_alloc | apply Kd.R_drewN | apply Kd.R_drew)); exact HO_8.out⟩, ⟨by (with_reducible repeat (first | apply Kd.V_alloc | apply Kd.V_drewN | apply Kd.V_drew)); exact Kd.V_mono HO_214002.out (fun _ hk => ⟨hk.1, ⟨hk.1, hk.2⟩⟩)⟩, ⟨by (with_reducible repeat (first | refine blk_drewN ?_ _ | refine blk_drew ?_ | refine blk_alloc ?_ _)); exact BK213.out⟩, ⟨by repeat (first | (with_reducible first | exact HB.out | apply below_alloc | apply pw_below_drewN | apply below_drew1 | refine below_set ?_ GE213.out) | exact HB.out)⟩⟩
              case round =>
                clear H'
                try clear c1
                try clear p2
                try clear q2
                try clear hx2
                try clear c3
                try clear c3b0
                try clear c3b1
                try clear c4
                try clear p6
                try clear c8
                try clear c11
                try clear c11b0
                try clear c12
                try clear c12b0
                try clear c13
                try clear c13b0
                try clear c14
                try clear hcz9_0
                try clear hcz9_1
                try clear hcz9_2
                try clear hfz9_0
                try clear hfz9_1
                try clear hfz9_2
                try clear hx215_0
                try clear p2
                try clear p215
                try clear p6
                try clear q215
                obtain ⟨x13_2, x44_2, rfl, rfl, HA, HK2, HO_8, HO_42, HO_214002, BK213, HB⟩ := hrel
                cases gk with
                | zero => exact absurd HA.out (by simp [handshakerlaw19_GateRounds.l1])
                | succ k2 =>
                  have H := HA.out
                  clear HA
                  simp only [handshakerlaw19_GateRounds.l1] at H
                  by_cases c15 : x44_2 < (x8_1.length : Int)
                  · rw [if_pos c15] at H
                    have c15b0 : decide (x44_2 < (x8_1.length : Int)) = true := decide_eq_true c15
                    clear c15
                    by_cases c16 : 0 ≤ x44_2
                    · rw [if_pos c16] at H
                      have c16b0 : decide (0 ≤ x44_2) = true := decide_eq_true c16
                      clear c16
                      by_cases c17 : x44_2 < (x8_1.length : Int)
                      · rw [if_pos c17] at H
                        have c17b0 : decide (x44_2 < (x8_1.length : Int)) = true := decide_eq_true c17
                        clear c17
                        by_cases c18 : (rd x8_1 x44_2) = (wrap64 (rd l1 x36_1))
                        · rw [if_pos c18] at H
                          have c18b0 : ((rd x8_1 x44_2) == (wrap64 (rd l1 x36_1))) = true := beq_iff_eq.mpr c18
                          have c18b1 : ((rd x8_1 x44_2) != (wrap64 (rd l1 x36_1))) = false := bne_eq_false_iff_eq.mpr c18
                          clear c18
                          have H' := Aside0.mk H
                          clear H
                          have p216 : 0 ≤ (x44_2 : Int) := of_decide_eq_true (by first | (with_reducible assumption) | assumption)
                          have q216 : x44_2 < (x8_1.length : Int) := of_decide_eq_true (by first | (with_reducible assumption) | assumption)
                          obtain ⟨ad216, e216, hx216_0⟩ := Kd.at_int (Kd.R_reads' HO_42.out).2.2 x44_2 p216 q216
                          cases e216
                          replace p216 := eq_true p216
                          replace q216 := eq_true q216
                          go_wp2
                          go_roundg k2
                          case measure => have := HK1.out; have := HK2.out; omega
                          case rel => exact ⟨(x44_2), (wrap64 (x44_2 + 1)), (by first | rfl | (simp; done) | (simp [*]; done)), (by first | rfl | (simp; done) | (simp [*]; done)), H', ⟨by have := HK1.out; have := HK2.out; omega⟩, ⟨by (with_reducible repeat (first | apply Kd.R_alloc | apply Kd.R_drewN | apply Kd.R_drew)); exact HO_8.out⟩, ⟨by (with_reducible repeat (first | apply Kd.R_alloc | apply Kd.R_drewN | apply Kd.R_drew)); exact HO_42.out⟩, ⟨by (with_reducible repeat (first | apply Kd.V_alloc | apply Kd.V_drewN | apply Kd.V_drew)); exact HO_214002.out⟩, ⟨by (with_reducible repeat (first | refine blk_drewN ?_ _ | refine blk_drew ?_ | refine blk_alloc ?_ _)); exact BK213.out⟩, ⟨by repeat (first | (with_reducible first | exact HB.out | apply below_alloc | apply pw_below_drewN | apply below_drew1 | refine below_set ?_ GE213.out) | exact HB.out)⟩⟩
                        · rw [if_neg c18] at H
                          have c18b0 : ((rd x8_1 x44_2) == (wrap64 (rd l1 x36_1))) = false := beq_eq_false_iff_ne.mpr c18
                          have c18b1 : ((rd x8_1 x44_2) != (wrap64 (rd l1 x36_1))) = true := bne_iff_ne.mpr c18
                          by_cases c19 : (rd x8_1 x44_2) = (wrap64 (-(wrap64 (rd l1 x36_1))))
                          · rw [if_pos c19] at H
                            have c19b0 : ((rd x8_1 x44_2) == (wrap64 (-(wrap64 (rd l1 x36_1))))) = true := beq_iff_eq.mpr c19
                            have c19b1 : ((rd x8_1 x44_2) != (wrap64 (-(wrap64 (rd l1 x36_1))))) = false := bne_eq_false_iff_eq.mpr c19
                            clear c19
                            have H' := Aside0.mk H
                            clear H
                            have p216 : 0 ≤ (x44_2 : Int) := of_decide_eq_true (by first | (with_reducible assumption) | assumption)
                            have q216 : x44_2 < (x8_1.length : Int) := of_decide_eq_true (by first | (with_reducible assumption) | assumption)
                            obtain ⟨ad216, e216, hx216_0⟩ := Kd.at_int (Kd.R_reads' HO_42.out).2.2 x44_2 p216 q216
                            cases e216
                            replace p216 := eq_true p216
                            replace q216 := eq_true q216
                            go_wp2
                            go_roundg k2
                            case measure => have := HK1.out; have := HK2.out; omega
                            case rel => exact ⟨(x44_2), (wrap64 (x44_2 + 1)), (by first | rfl | (simp; done) | (simp [*]; done)), (by first | rfl | (simp; done) | (simp [*]; done)), H', ⟨by have := HK1.out; have := HK2.out; omega⟩, ⟨by (with_reducible repeat (first | apply Kd.R_alloc | apply Kd.R_drewN | apply Kd.R_drew)); exact HO_8.out⟩, ⟨by (with_reducible repeat (first | apply Kd.R_alloc | apply Kd.R_drewN | apply Kd.R_drew)); exact HO_42.out⟩, ⟨by (with_reducible repeat (first | apply Kd.V_alloc | apply Kd.V_drewN | apply Kd.V_drew)); exact HO_214002.out⟩, ⟨by (with_reducible repeat (first | refine blk_drewN ?_ _ | refine blk_drew ?_ | refine blk_alloc ?_ _)); exact BK213.out⟩, ⟨by repeat (first | (with_reducible first | exact HB.out | apply below_alloc | apply pw_below_drewN | apply below_drew1 | refine below_set ?_ GE213.out) | exact HB.out)⟩⟩
                          · rw [if_neg c19] at H
                            have c19b0 : ((rd x8_1 x44_2) == (wrap64 (-(wrap64 (rd l1 x36_1))))) = false := beq_eq_false_iff_ne.mpr c19
                            have c19b1 : ((rd x8_1 x44_2) != (wrap64 (-(wrap64 (rd l1 x36_1))))) = true := bne_iff_ne.mpr c19
                            have H' := Aside0.mk H
                            clear H
                            have p216 : 0 ≤ (x44_2 : Int) := of_decide_eq_true (by first | (with_reducible assumption) | assumption)
                            have q216 : x44_2 < (x8_1.length : Int) := of_decide_eq_true (by first | (with_reducible assumption) | assumption)
                            obtain ⟨ad216, e216, hx216_0⟩ := Kd.at_int (Kd.R_reads' HO_42.out).2.2 x44_2 p216 q216
                            cases e216
                            replace p216 := eq_true p216
                            replace q216 := eq_true q216
                            go_wp2
                            go_roundg k2
                            case measure => have := HK1.out; have := HK2.out; omega
                            case rel => exact ⟨(x13_2), (wrap64 (x44_2 + 1)), (by first | rfl | (simp; done) | (simp [*]; done)), (by first | rfl | (simp; done) | (simp [*]; done)), H', ⟨by have := HK1.out; have := HK2.out; omega⟩, ⟨by (with_reducible repeat (first | apply Kd.R_alloc | apply Kd.R_drewN | apply Kd.R_drew)); exact HO_8.out⟩, ⟨by (with_reducible repeat (first | apply Kd.R_alloc | apply Kd.R_drewN | apply Kd.R_drew)); exact HO_42.out⟩, ⟨by (with_reducible repeat (first | apply Kd.V_alloc | apply Kd.V_drewN | apply Kd.V_drew)); exact HO_214002.out⟩, ⟨by (with_reducible repeat (first | refine blk_drewN ?_ _ | refine blk_drew ?_ | refine blk_alloc ?_ _)); exact BK213.out⟩, ⟨by repeat (first | (with_reducible first | exact HB.out | apply below_alloc | apply pw_below_drewN | apply below_drew1 | refine below_set ?_ GE213.out) | exact HB.out)⟩⟩
                      · rw [if_neg c17] at H
                        exact absurd H (by simp)
                    · rw [if_neg c16] at H
                      exact absurd H (by simp)
                  · rw [if_neg c15] at H
                    have c15b0 : decide (x44_2 < (x8_1.length : Int)) = false := decide_eq_false c15
                    clear c15
                    have HC20 := Aside0.mk H
                    clear H
                    go_upto_if 61 with (fail)
                    go_cut [8, 9] (fun v8 v9 wc => ∃ (kq : Nat) (x8_19 : List Int) (x9_19 : Int) (x214000_19 : Int) (x214001_19 : Int) (x214002_19 : List Int) (u214002 : Value), v9 = .int .i64 x9_19 ∧ Aside0 (handshakerlaw19_GateRounds.j4 kq (wrap64 (1 + (wrap64 (Int.tmod a0 8)))) t212 x8_19 x9_19 l1 (l1.length : Int) x36_1 x214000_19 x214001_19 x214002_19 = some r) ∧ Aside0 (kq ≤ k2) ∧ Aside0 (Kd.R (Kd.int .i64) 3 wc w.heap.size (fun _ => True) v8 x8_19) ∧ Aside0 (Kd.V (Kd.int .i64) 3 wc w.heap.size (fun k_ => some k_ ≠ (v8 : Value).ownBlock ∧ k_ ≠ gb213) u214002 x214002_19) ∧ Aside0 (wc.heap[gb213]? = some (.cells #[.int .i64 x214000_19, .int .i64 x214001_19, u214002] 24 (0, 0))) ∧ Aside0 (Below w.heap.size w wc))
                    case first =>
                      have H := HC20.out
                      clear HC20
                      by_cases c21 : (wrap64 (rd l1 x36_1)) < 0
                      · rw [if_pos c21] at H
                        have c21b0 : decide ((wrap64 (rd l1 x36_1)) < 0) = true := decide_eq_true c21
                        clear c21
                        (first | rw [c21b0] | (simp only [i64_w, i32_w]; rw [c21b0]) | skip)
                        replace H := Option.bind_eq_some_iff.mp H
                        obtain ⟨⟨t217, t218, t219, t222⟩, A220, H⟩ := H
                        replace H : (if t222 = 0 then (if x13_2 ≥ 0 then ((some (([] : List Int) : List Int)).bind fun y224 => (if 0 ≤ x13_2 then (if x13_2 ≤ (x8_1.length : Int) then ((some (x8_1.take (x13_2 : Int).toNat : List Int)).bind fun y227 => (if y224.length + y227.length < 17592186044416 then ((some (y224 ++ y227 : List Int)).bind fun y231 => (if 0 ≤ (wrap64 (x13_2 + 1)) then (if (wrap64 (x13_2 + 1)) ≤ (x8_1.length : Int) then ((some (x8_1.drop ((wrap64 (x13_2 + 1)) : Int).toNat : List Int)).bind fun y234 => (if y231.length + y234.length < 17592186044416 then (handshakerlaw19_GateRounds.j4 k2 (wrap64 (1 + (wrap64 (Int.tmod a0 8)))) t212 (y231 ++ y234) x9_1 l1 (l1.length : Int) x36_1 t217 t218 t219) else (none))) else (none)) else (none))) else (none))) else (none)) else (none))) else (none)) else (if x13_2 ≥ 0 then (none) else (handshakerlaw19_GateRounds.j4 k2 (wrap64 (1 + (wrap64 (Int.tmod a0 8)))) t212 x8_1 x9_1 l1 (l1.length : Int) x36_1 t217 t218 t219))) = some r := H
                        have A22 := Aside0.mk A220
                        clear A220
                        by_cases c23 : t222 = 0
                        · rw [if_pos c23] at H
                          have c23b0 : (t222 == 0) = true := beq_iff_eq.mpr c23
                          have c23b1 : (t222 != 0) = false := bne_eq_false_iff_eq.mpr c23
                          clear c23
                          by_cases c24 : x13_2 ≥ 0
                          · rw [if_pos c24] at H
                            have c24b0 : decide (0 ≤ x13_2) = true := decide_eq_true c24
                            clear c24
                            obtain ⟨y224, hy224⟩ : ∃ y_ : List Int, y_ = (([] : List Int)) := ⟨_, rfl⟩
                            replace H : (if 0 ≤ x13_2 then (if x13_2 ≤ (x8_1.length : Int) then ((some (x8_1.take (x13_2 : Int).toNat : List Int)).bind fun y227 => (if y224.length + y227.length < 17592186044416 then ((some (y224 ++ y227 : List Int)).bind fun y231 => (if 0 ≤ (wrap64 (x13_2 + 1)) then (if (wrap64 (x13_2 + 1)) ≤ (x8_1.length : Int) then ((some (x8_1.drop ((wrap64 (x13_2 + 1)) : Int).toNat : List Int)).bind fun y234 => (if y231.length + y234.length < 17592186044416 then (handshakerlaw19_GateRounds.j4 k2 (wrap64 (1 + (wrap64 (Int.tmod a0 8)))) t212 (y231 ++ y234) x9_1 l1 (l1.length : Int) x36_1 t217 t218 t219) else (none))) else (none)) else (none))) else (none))) else (none)) else (none)) = some r := by first | (rw [hy224]; with_reducible exact H) | (have H2_ := (Option.bind_some _ _).symm.trans H; rw [hy224]; with_reducible exact H2_) | (have H2_ := (Option.bind_some _ _).symm.trans H; with_reducible exact H2_) | with_reducible exact H | (rw [hy224]; exact H) | exact H
                            have Ny224 := Aside0.mk hy224
                            clear hy224
                            by_cases c25 : 0 ≤ x13_2
                            · rw [if_pos c25] at H
                              have c25b0 := eq_true c25
                              have c25b1 : decide (0 ≤ x13_2) = true := decide_eq_true c25
                              clear c25
                              by_cases c26 : x13_2 ≤ (x8_1.length : Int)
                              · rw [if_pos c26] at H
                                have c26b0 := eq_true c26
                                have c26b1 : decide (x13_2 ≤ (x8_1.length : Int)) = true := decide_eq_true c26
                                clear c26
                                obtain ⟨y227, hy227⟩ : ∃ y_ : List Int, y_ = (x8_1.take (x13_2 : Int).toNat) := ⟨_, rfl⟩
                                replace H : (if y224.length + y227.length < 17592186044416 then ((some (y224 ++ y227 : List Int)).bind fun y231 => (if 0 ≤ (wrap64 (x13_2 + 1)) then (if (wrap64 (x13_2 + 1)) ≤ (x8_1.length : Int) then ((some (x8_1.drop ((wrap64 (x13_2 + 1)) : Int).toNat : List Int)).bind fun y234 => (if y231.length + y234.length < 17592186044416 then (handshakerlaw19_GateRounds.j4 k2 (wrap64 (1 + (wrap64 (Int.tmod a0 8)))) t212 (y231 ++ y234) x9_1 l1 (l1.length : Int) x36_1 t217 t218 t219) else (none))) else (none)) else (none))) else (none)) = some r := by first | (rw [hy227]; with_reducible exact H) | (have H2_ := (Option.bind_some _ _).symm.trans H; rw [hy227]; with_reducible exact H2_) | (have H2_ := (Option.bind_some _ _).symm.trans H; with_reducible exact H2_) | with_reducible exact H | (rw [hy227]; exact H) | exact H
                                have Ny227 := Aside0.mk hy227
                                clear hy227
                                by_cases c27 : y224.length + y227.length < 17592186044416
                                · rw [if_pos c27] at H
                                  have LMc27 := Aside0.mk c27
                                  clear c27
                                  obtain ⟨y231, hy231⟩ : ∃ y_ : List Int, y_ = (y224 ++ y227) := ⟨_, rfl⟩
                                  replace H : (if 0 ≤ (wrap64 (x13_2 + 1)) then (if (wrap64 (x13_2 + 1)) ≤ (x8_1.length : Int) then ((some (x8_1.drop ((wrap64 (x13_2 + 1)) : Int).toNat : List Int)).bind fun y234 => (if y231.length + y234.length < 17592186044416 then (handshakerlaw19_GateRounds.j4 k2 (wrap64 (1 + (wrap64 (Int.tmod a0 8)))) t212 (y231 ++ y234) x9_1 l1 (l1.length : Int) x36_1 t217 t218 t219) else (none))) else (none)) else (none)) = some r := by first | (rw [hy231]; with_reducible exact H) | (have H2_ := (Option.bind_some _ _).symm.trans H; rw [hy231]; with_reducible exact H2_) | (have H2_ := (Option.bind_some _ _).symm.trans H; with_reducible exact H2_) | with_reducible exact H | (rw [hy231]; exact H) | exact H
                                  have Ny231 := Aside0.mk hy231
                                  clear hy231
                                  obtain ⟨ji28, hji28⟩ : ∃ j_ : Int, (wrap64 (x13_2 + 1)) = j_ := ⟨_, rfl⟩
                                  replace H : (if 0 ≤ (ji28) then (if (ji28) ≤ (x8_1.length : Int) then ((some (x8_1.drop ((ji28) : Int).toNat : List Int)).bind fun y234 => (if y231.length + y234.length < 17592186044416 then (handshakerlaw19_GateRounds.j4 k2 (wrap64 (1 + (wrap64 (Int.tmod a0 8)))) t212 (y231 ++ y234) x9_1 l1 (l1.length : Int) x36_1 t217 t218 t219) else (none))) else (none)) else (none)) = some r := by first | (rw [hji28] at H; exact H) | (simp only [hji28] at H ⊢; exact H)
                                  (try rw [hji28] at A22)
                                  have hji28w : (IntKind.i64.wrap (x13_2 + 1)) = ji28 := (i64_w _).trans hji28
                                  by_cases c29 : 0 ≤ (ji28)
                                  · rw [if_pos c29] at H
                                    have c29b0 := eq_true c29
                                    have c29b1 : decide (0 ≤ (ji28)) = true := decide_eq_true c29
                                    clear c29
                                    by_cases c30 : (ji28) ≤ (x8_1.length : Int)
                                    · rw [if_pos c30] at H
                                      have c30b0 := eq_true c30
                                      have c30b1 : decide ((ji28) ≤ (x8_1.length : Int)) = true := decide_eq_true c30
                                      clear c30
                                      obtain ⟨y234, hy234⟩ : ∃ y_ : List Int, y_ = (x8_1.drop ((ji28) : Int).toNat) := ⟨_, rfl⟩
                                      replace H : (if y231.length + y234.length < 17592186044416 then (handshakerlaw19_GateRounds.j4 k2 (wrap64 (1 + (wrap64 (Int.tmod a0 8)))) t212 (y231 ++ y234) x9_1 l1 (l1.length : Int) x36_1 t217 t218 t219) else (none)) = some r := by first | (rw [hy234]; with_reducible exact H) | (have H2_ := (Option.bind_some _ _).symm.trans H; rw [hy234]; with_reducible exact H2_) | (have H2_ := (Option.bind_some _ _).symm.trans H; with_reducible exact H2_) | with_reducible exact H | (rw [hy234]; exact H) | exact H
                                      have Ny234 := Aside0.mk hy234
                                      clear hy234
                                      by_cases c31 : y231.length + y234.length < 17592186044416
                                      · rw [if_pos c31] at H
                                        have LMc31 := Aside0.mk c31
                                        clear c31
                                        obtain ⟨y238, hy238⟩ : ∃ y_ : List Int, y_ = (y231 ++ y234) := ⟨_, rfl⟩
                                        replace H : (handshakerlaw19_GateRounds.j4 k2 (wrap64 (1 + (wrap64 (Int.tmod a0 8)))) t212 y238 x9_1 l1 (l1.length : Int) x36_1 t217 t218 t219) = some r := by first | (rw [hy238]; with_reducible exact H) | (have H2_ := (Option.bind_some _ _).symm.trans H; rw [hy238]; with_reducible exact H2_) | (have H2_ := (Option.bind_some _ _).symm.trans H; with_reducible exact H2_) | with_reducible exact H | (rw [hy238]; exact H) | exact H
                                        have Ny238 := Aside0.mk hy238
                                        clear hy238
                                        have H' := Aside0.mk H
                                        clear H
                                        have hcz32_0 : wr.cell? ⟨gb213, 0, none⟩ = some (.int .i64 x214000_1) := (blk_cell BK213.out 0).trans rfl
                                        have hcz32_1 : wr.cell? ⟨gb213, 1, none⟩ = some (.int .i64 x214001_1) := (blk_cell BK213.out 1).trans rfl
                                        have hcz32_2 : wr.cell? ⟨gb213, 2, none⟩ = some (u214002) := (blk_cell BK213.out 2).trans rfl
                                        have hfz32_0 := blk_frozen BK213.out 0
                                        have hfz32_1 := blk_frozen BK213.out 1
                                        have hfz32_2 := blk_frozen BK213.out 2
                                        obtain ⟨Ao33, co33, eo33⟩ := Kd.V_slice HO_214002.out
                                        subst eo33
                                        try go_wp2_with (first | ((with_reducible refine gate_callee (f := 12) rfl ?_); refine goesL_ (some 66) rfl rfl Try.func12 (by kernel_rfl) rfl #[.agg #[.int .i64 x214000_1, .int .i64 x214001_1, .slice Ao33 x214002_1.length co33], .int .i64 (wrap64 (-(wrap64 (rd l1 x36_1))))] rfl (by (try simp only [List.map_toArray, List.map_cons, List.map_nil]); first | done | rfl | (simp only [List.length_drop, List.length_take]; rfl)) ?_; (with_reducible refine (gate_Leave.calls k2 x214000_1 x214001_1 (fun k_ => (some k_ ≠ (.slice Ao14 x8_1.length co14 : Value).ownBlock ∧ (some k_ ≠ (.slice Ao14 x8_1.length co14 : Value).ownBlock ∧ k_ ≠ gb213))) _ _ x214002_1 (wrap64 (-(wrap64 (rd l1 x36_1)))) t217 t218 t219 t222 _ ?side1 A22.out).mono ?_); (case side1 => exact HO_214002.out); rintro e w34 ⟨v220, rfl, ho0, hb⟩; refine ⟨_, rfl, ?_⟩; have n0_ := Aside0.mk (Kd.R_below (by (with_reducible repeat (first | apply Kd.R_alloc | apply Kd.R_drewN | apply Kd.R_drew)); exact HO_8.out) hb); have n1_ := Aside0.mk (Kd.R_below (by (with_reducible repeat (first | apply Kd.R_alloc | apply Kd.R_drewN | apply Kd.R_drew)); exact HO_42.out) hb); have n2_ := Aside0.mk (Kd.V_below (by (with_reducible repeat (first | apply Kd.V_alloc | apply Kd.V_drewN | apply Kd.V_drew)); exact HO_214002.out) hb); have n3_ := Aside0.mk (Kd.V_lower (Kd.V_mono (ok' := fun k_ => some k_ ≠ (.slice Ao14 x8_1.length co14 : Value).ownBlock ∧ some k_ ≠ (.slice Ao14 x8_1.length co14 : Value).ownBlock ∧ k_ ≠ gb213) ho0 (fun k_ hk_ => ⟨Or.elim hk_ (fun hs_ => hs_.1) (fun hn_ => (Kd.fresh' (Kd.R_lt (by (with_reducible repeat (first | apply Kd.R_alloc | apply Kd.R_drewN | apply Kd.R_drew)); exact HO_8.out)) k_ hn_)), Or.elim hk_ (fun hs_ => hs_.2.1) (fun hn_ => (Kd.fresh' (Kd.R_lt (by (with_reducible repeat (first | apply Kd.R_alloc | apply Kd.R_drewN | apply Kd.R_drew)); exact HO_42.out)) k_ hn_)), Or.elim hk_ (fun hs_ => hs_.2.2) (fun hn_ => (Kd.freshB (g := gb213) (o := .cells #[.int .i64 x214000_1, .int .i64 x214001_1, .slice Ao33 x214002_1.length co33] 24 (0, 0)) (by (with_reducible repeat (first | refine blk_drewN ?_ _ | refine blk_drew ?_ | refine blk_alloc ?_ _)); exact BK213.out) k_ hn_))⟩)) (below_size (by repeat (first | (with_reducible first | exact HB.out | apply below_alloc | apply pw_below_drewN | apply below_drew1 | refine below_set ?_ GE213.out) | exact HB.out)))); have n4_ := Aside0.mk (blk_below (g := gb213) (o := .cells #[.int .i64 x214000_1, .int .i64 x214001_1, .slice Ao33 x214002_1.length co33] 24 (0, 0)) (by (with_reducible repeat (first | refine blk_drewN ?_ _ | refine blk_drew ?_ | refine blk_alloc ?_ _)); exact BK213.out) hb); have n5_ := Aside0.mk (below_step (by repeat (first | (with_reducible first | exact HB.out | apply below_alloc | apply pw_below_drewN | apply below_drew1 | refine below_set ?_ GE213.out) | exact HB.out)) hb); clear HO_8; clear HO_42; clear HO_214002; clear BK213; clear HB; have HO_8 := n0_; have HO_42 := n1_; have HO_214002 := n2_; have HO221 := n3_; have BK213 := n4_; have HB := n5_; clear n0_ n1_ n2_ n3_ n4_ n5_; (try clear hb); (try clear hb2); (try clear hk); (try clear hi); (try clear ho0)) | ((with_reducible refine gate_dst (N := 16) rfl ?_); refine box_event ?hg (N := 16) ?hd (cs := #[.int .i64 0, .int .i64 0, .slice none 0 0]) (t := 24) ?hr ?_; (case hd => rfl); (case hg => rfl); (case hr => first | (go_simp; done) | (go_simp; rfl)); intro gb223 hg w35 hbox hb; have n0_ := Aside0.mk (Kd.R_below (by (with_reducible repeat (first | apply Kd.R_alloc | apply Kd.R_drewN | apply Kd.R_drew)); exact HO_8.out) hb); have n1_ := Aside0.mk (Kd.R_below (by (with_reducible repeat (first | apply Kd.R_alloc | apply Kd.R_drewN | apply Kd.R_drew)); exact HO_42.out) hb); have n2_ := Aside0.mk (Kd.V_below (Kd.V_elderB (by (with_reducible repeat (first | apply Kd.V_alloc | apply Kd.V_drewN | apply Kd.V_drew)); exact HO_214002.out) gb223 (Nat.le_of_eq hg.symm)) hb); have n3_ := Aside0.mk (Kd.V_below (Kd.V_elderB (by (with_reducible repeat (first | apply Kd.V_alloc | apply Kd.V_drewN | apply Kd.V_drew)); exact HO221.out) gb223 (Nat.le_of_eq hg.symm)) hb); have n4_ := Aside0.mk (blk_below (g := gb213) (o := .cells #[.int .i64 x214000_1, .int .i64 x214001_1, .slice Ao33 x214002_1.length co33] 24 (0, 0)) (by (with_reducible repeat (first | refine blk_drewN ?_ _ | refine blk_drew ?_ | refine blk_alloc ?_ _)); exact BK213.out) hb); have n5_ := Aside0.mk (below_step (by repeat (first | (with_reducible first | exact HB.out | apply below_alloc | apply pw_below_drewN | apply below_drew1 | refine below_set ?_ GE213.out) | exact HB.out)) hb); have n6_ := Aside0.mk (hbox); have n7_ := Aside0.mk ((by rw [hg]; exact (below_size (by repeat (first | (with_reducible first | exact HB.out | apply below_alloc | apply pw_below_drewN | apply below_drew1 | refine below_set ?_ GE213.out) | exact HB.out))) : w.heap.size ≤ gb223)); have n8_ := Aside0.mk ((by rw [hg]; exact (below_size (by repeat (first | (with_reducible first | exact HB.out | apply below_alloc | apply pw_below_drewN | apply below_drew1 | refine below_set ?_ GE213.out) | exact HB.out))) : w.heap.size ≤ gb223)); have n9_ := Aside0.mk ((by rw [hg]; exact Nat.ne_of_lt (blk_lt (g := gb213) (o := .cells #[.int .i64 x214000_1, .int .i64 x214001_1, .slice Ao33 x214002_1.length co33] 24 (0, 0)) (by (with_reducible repeat (first | refine blk_drewN ?_ _ | refine blk_drew ?_ | refine blk_alloc ?_ _)); exact BK213.out)) : gb213 ≠ gb223)); have n10_ := Aside0.mk ((by rw [hg]; exact Nat.ne_of_gt (blk_lt (g := gb213) (o := .cells #[.int .i64 x214000_1, .int .i64 x214001_1, .slice Ao33 x214002_1.length co33] 24 (0, 0)) (by (with_reducible repeat (first | refine blk_drewN ?_ _ | refine blk_drew ?_ | refine blk_alloc ?_ _)); exact BK213.out)) : gb223 ≠ gb213)); clear HO_8; clear HO_42; clear HO_214002; clear HO221; clear BK213; clear HB; have HO_8 := n0_; have HO_42 := n1_; have HO_214002 := n2_; have HO221 := n3_; have BK213 := n4_; have HB := n5_; have BK223 := n6_; have GW223 := n7_; have GE223 := n8_; have NB213_223 := n9_; have NB223_213 := n10_; clear n0_ n1_ n2_ n3_ n4_ n5_ n6_ n7_ n8_ n9_ n10_; clear hb hbox hg; have hnb36 := NB223_213.out; have hnc36 := NB213_223.out; have hcz37_0 : w35.cell? ⟨gb223, 0, none⟩ = some (.int .i64 0) := (blk_cell BK223.out 0).trans rfl; have hcz37_1 : w35.cell? ⟨gb223, 1, none⟩ = some (.int .i64 0) := (blk_cell BK223.out 1).trans rfl; have hcz37_2 : w35.cell? ⟨gb223, 2, none⟩ = some (.slice none 0 0) := (blk_cell BK223.out 2).trans rfl; have hfz37_0 := blk_frozen BK223.out 0; have hfz37_1 := blk_frozen BK223.out 1; have hfz37_2 := blk_frozen BK223.out 2; obtain ⟨Ao38, co38, eo38⟩ := Kd.V_slice HO221.out; subst eo38))
                                        have n0_ : Aside0 (Kd.R (Kd.int .i64) 3 (((w35.setCell ⟨gb223, 0, none⟩ (.int .i64 t217)).setCell ⟨gb223, 1, none⟩ (.int .i64 t218)).setCell ⟨gb223, 2, none⟩ (.slice Ao38 t219.length co38)) w.heap.size (fun _ => True) (.slice Ao14 x8_1.length co14) x8_1) := ⟨by (with_reducible repeat (first | apply Kd.R_alloc | apply Kd.R_drewN | apply Kd.R_drew)); exact Kd.R_mono (Kd.R_far (p := ⟨gb223, 2, none⟩) (Kd.R_far (p := ⟨gb223, 1, none⟩) (Kd.R_far (p := ⟨gb223, 0, none⟩) (Kd.R_types HO_8.out BK223.out (by decide)) (fun _ hk => hk.2) (.int .i64 t217)) (fun _ hk => hk.2) (.int .i64 t218)) (fun _ hk => hk.2) (.slice Ao38 t219.length co38)) (fun _ hk => trivial)⟩
                                        have n1_ : Aside0 (Kd.R (Kd.int .i64) 3 (((w35.setCell ⟨gb223, 0, none⟩ (.int .i64 t217)).setCell ⟨gb223, 1, none⟩ (.int .i64 t218)).setCell ⟨gb223, 2, none⟩ (.slice Ao38 t219.length co38)) w.heap.size (fun _ => True) (.slice Ao14 x8_1.length co14) x8_1) := ⟨by (with_reducible repeat (first | apply Kd.R_alloc | apply Kd.R_drewN | apply Kd.R_drew)); exact Kd.R_mono (Kd.R_far (p := ⟨gb223, 2, none⟩) (Kd.R_far (p := ⟨gb223, 1, none⟩) (Kd.R_far (p := ⟨gb223, 0, none⟩) (Kd.R_types HO_42.out BK223.out (by decide)) (fun _ hk => hk.2) (.int .i64 t217)) (fun _ hk => hk.2) (.int .i64 t218)) (fun _ hk => hk.2) (.slice Ao38 t219.length co38)) (fun _ hk => trivial)⟩
                                        have n2_ : Aside0 (Kd.V (Kd.int .i64) 3 (((w35.setCell ⟨gb223, 0, none⟩ (.int .i64 t217)).setCell ⟨gb223, 1, none⟩ (.int .i64 t218)).setCell ⟨gb223, 2, none⟩ (.slice Ao38 t219.length co38)) w.heap.size (fun k_ => some k_ ≠ (.slice Ao14 x8_1.length co14 : Value).ownBlock ∧ some k_ ≠ (.slice Ao14 x8_1.length co14 : Value).ownBlock ∧ k_ ≠ gb213 ∧ k_ ≠ gb223) (.slice Ao33 x214002_1.length co33) x214002_1) := ⟨by (with_reducible repeat (first | apply Kd.V_alloc | apply Kd.V_drewN | apply Kd.V_drew)); exact Kd.V_mono (Kd.V_far (p := ⟨gb223, 2, none⟩) (Kd.V_far (p := ⟨gb223, 1, none⟩) (Kd.V_far (p := ⟨gb223, 0, none⟩) (Kd.V_mono HO_214002.out (fun k_ hk => (⟨hk, hk.2⟩ : _ ∧ k_ ≠ gb223))) (fun _ hk => hk.2) (.int .i64 t217)) (fun _ hk => hk.2) (.int .i64 t218)) (fun _ hk => hk.2) (.slice Ao38 t219.length co38)) (fun _ hk => ⟨hk.1.1.1, ⟨hk.1.1.2.1, ⟨hk.1.1.2.2, hk.1.2⟩⟩⟩)⟩
                                        have n3_ : Aside0 (Kd.V (Kd.int .i64) 3 (((w35.setCell ⟨gb223, 0, none⟩ (.int .i64 t217)).setCell ⟨gb223, 1, none⟩ (.int .i64 t218)).setCell ⟨gb223, 2, none⟩ (.slice Ao38 t219.length co38)) w.heap.size (fun k_ => some k_ ≠ (.slice Ao14 x8_1.length co14 : Value).ownBlock ∧ some k_ ≠ (.slice Ao14 x8_1.length co14 : Value).ownBlock ∧ k_ ≠ gb213 ∧ k_ ≠ gb223) (.slice Ao38 t219.length co38) t219) := ⟨by (with_reducible repeat (first | apply Kd.V_alloc | apply Kd.V_drewN | apply Kd.V_drew)); exact Kd.V_mono (Kd.V_far (p := ⟨gb223, 2, none⟩) (Kd.V_far (p := ⟨gb223, 1, none⟩) (Kd.V_far (p := ⟨gb223, 0, none⟩) (Kd.V_mono HO221.out (fun k_ hk => (⟨hk, hk.2⟩ : _ ∧ k_ ≠ gb223))) (fun _ hk => hk.2) (.int .i64 t217)) (fun _ hk => hk.2) (.int .i64 t218)) (fun _ hk => hk.2) (.slice Ao38 t219.length co38)) (fun _ hk => ⟨hk.1.1.1, ⟨hk.1.1.2.1, ⟨hk.1.1.2.2, hk.1.2⟩⟩⟩)⟩
                                        have n4_ : Aside0 ((((w35.setCell ⟨gb223, 0, none⟩ (.int .i64 t217)).setCell ⟨gb223, 1, none⟩ (.int .i64 t218)).setCell ⟨gb223, 2, none⟩ (.slice Ao38 t219.length co38)).heap[gb213]? = some (.cells #[.int .i64 x214000_1, .int .i64 x214001_1, .slice Ao33 x214002_1.length co33] 24 (0, 0))) := ⟨by (with_reducible repeat (first | refine blk_drewN ?_ _ | refine blk_drew ?_ | refine blk_alloc ?_ _)); refine blk_far ?_ NB213_223.out _; (with_reducible repeat (first | refine blk_drewN ?_ _ | refine blk_drew ?_ | refine blk_alloc ?_ _)); refine blk_far ?_ NB213_223.out _; (with_reducible repeat (first | refine blk_drewN ?_ _ | refine blk_drew ?_ | refine blk_alloc ?_ _)); refine blk_far ?_ NB213_223.out _; (with_reducible repeat (first | refine blk_drewN ?_ _ | refine blk_drew ?_ | refine blk_alloc ?_ _)); exact BK213.out⟩
                                        have n5_ : Aside0 ((((w35.setCell ⟨gb223, 0, none⟩ (.int .i64 t217)).setCell ⟨gb223, 1, none⟩ (.int .i64 t218)).setCell ⟨gb223, 2, none⟩ (.slice Ao38 t219.length co38)).heap[gb223]? = some (.cells #[.int .i64 t217, .int .i64 t218, .slice Ao38 t219.length co38] 24 (0, 0))) := ⟨by (with_reducible repeat (first | refine blk_drewN ?_ _ | refine blk_drew ?_ | refine blk_alloc ?_ _)); refine blk_put (cs := #[.int .i64 t217, .int .i64 t218, .slice none 0 0]) ?_ 2 _ rfl; (with_reducible repeat (first | refine blk_drewN ?_ _ | refine blk_drew ?_ | refine blk_alloc ?_ _)); refine blk_put (cs := #[.int .i64 t217, .int .i64 0, .slice none 0 0]) ?_ 1 _ rfl; (with_reducible repeat (first | refine blk_drewN ?_ _ | refine blk_drew ?_ | refine blk_alloc ?_ _)); refine blk_put (cs := #[.int .i64 0, .int .i64 0, .slice none 0 0]) ?_ 0 _ rfl; (with_reducible repeat (first | refine blk_drewN ?_ _ | refine blk_drew ?_ | refine blk_alloc ?_ _)); exact BK223.out⟩
                                        have n6_ : Aside0 (Below w.heap.size w (((w35.setCell ⟨gb223, 0, none⟩ (.int .i64 t217)).setCell ⟨gb223, 1, none⟩ (.int .i64 t218)).setCell ⟨gb223, 2, none⟩ (.slice Ao38 t219.length co38))) := ⟨by repeat (first | (with_reducible first | exact HB.out | apply below_alloc | apply pw_below_drewN | apply below_drew1 | refine below_set ?_ GE213.out | refine below_set ?_ GE223.out) | exact HB.out)⟩
                                        (try clear HO_8)
                                        (try clear HO_42)
                                        (try clear HO_214002)
                                        (try clear HO221)
                                        (try clear BK213)
                                        (try clear BK223)
                                        (try clear HB)
                                        generalize (((w35.setCell ⟨gb223, 0, none⟩ (.int .i64 t217)).setCell ⟨gb223, 1, none⟩ (.int .i64 t218)).setCell ⟨gb223, 2, none⟩ (.slice Ao38 t219.length co38)) = w39 at n0_ n1_ n2_ n3_ n4_ n5_ n6_ ⊢
                                        have HO_8 := n0_
                                        have HO_42 := n1_
                                        have HO_214002 := n2_
                                        have HO221 := n3_
                                        have BK213 := n4_
                                        have BK223 := n5_
                                        have HB := n6_
                                        clear n0_ n1_ n2_ n3_ n4_ n5_ n6_
                                        have n0_ := Aside0.mk (Kd.R_drew HO_8.out)
                                        have n1_ := Aside0.mk (Kd.R_drew HO_42.out)
                                        have n2_ := Aside0.mk (Kd.V_drew HO_214002.out)
                                        have n3_ := Aside0.mk (Kd.V_drew HO221.out)
                                        have n4_ := Aside0.mk (blk_drew BK213.out)
                                        have n5_ := Aside0.mk (blk_drew BK223.out)
                                        have n6_ := Aside0.mk (below_drew1 HB.out)
                                        clear HO_8
                                        clear HO_42
                                        clear HO_214002
                                        clear HO221
                                        clear BK213
                                        clear BK223
                                        clear HB
                                        have HO_8 := n0_
                                        have HO_42 := n1_
                                        have HO_214002 := n2_
                                        have HO221 := n3_
                                        have BK213 := n4_
                                        have BK223 := n5_
                                        have HB := n6_
                                        clear n0_ n1_ n2_ n3_ n4_ n5_ n6_
                                        have q41 : (x13_2 : Int) ≤ ((x8_1.length : Int) : Int) := of_decide_eq_true (by first | (with_reducible assumption) | assumption)
                                        obtain ⟨i041, hi041, _, hsz41, _⟩ := info_parts info3
                                        have hroom41 : x8_1.length ≤ co14 := (Kd.R_reads' HO_8.out).2.1
                                        have hC41 : Kd.C (Kd.int .i64) _ Ao14 x8_1.length x8_1 := (Kd.R_reads' HO_8.out).2.2
                                        have hcut41 := cut_to (P := Try.prog) 22 3 .i64 Try.underlying22 hi041 Ao14 x8_1.length co14 x13_2 (of_decide_eq_true (by first | (with_reducible assumption) | assumption)) q41 hroom41
                                        have hr41 := Kd.C_take (m := (x13_2 : Int).toNat) hC41 (by omega)
                                        have hy41 : y227.length = (x13_2 : Int).toNat := (by rw [Ny227.out, List.length_take]; omega)
                                        rw [← Ny227.out] at hr41
                                        rw [← hy41] at hcut41
                                        have HR230 := Aside0.mk hr41
                                        have HC230 := Aside0.mk (show y227.length ≤ co14 from by omega)
                                        clear hr41 hC41 hroom41 hi041 hsz41
                                        have KY41 := Aside0.mk hy41
                                        clear hy41
                                        have KL41 := Aside0.mk (show (x13_2 : Int).toNat ≤ x8_1.length from by omega)
                                        replace q41 := eq_true q41
                                        have q42 : ((ji28) : Int) ≤ ((x8_1.length : Int) : Int) := of_decide_eq_true (by first | (with_reducible assumption) | assumption)
                                        obtain ⟨i042, hi042, _, hsz42, _⟩ := info_parts info3
                                        have hroom42 : x8_1.length ≤ co14 := (Kd.R_reads' HO_8.out).2.1
                                        have hC42 : Kd.C (Kd.int .i64) _ Ao14 x8_1.length x8_1 := (Kd.R_reads' HO_8.out).2.2
                                        have q042 : (0 : Int) ≤ ((ji28) : Int) := of_decide_eq_true (by first | (with_reducible assumption) | assumption)
                                        have hcut42 := cut_from (P := Try.prog) 22 3 .i64 Try.underlying22 hi042 1 hsz42 Ao14 x8_1.length co14 (ji28) q042 q42
                                        have hr42 := Kd.C_drop (m := ((ji28) : Int).toNat) (c := co14) hC42 (by omega) hroom42
                                        obtain ⟨A42, hA42⟩ : ∃ A1, A1 = (if co14 = ((ji28) : Int).toNat then Ao14 else (Ao14 : Option Addr).map (·.add (((ji28) : Int).toNat * 1))) := ⟨_, rfl⟩
                                        obtain ⟨c42, hc42⟩ : ∃ c1, c1 = co14 - ((ji28) : Int).toNat := ⟨_, rfl⟩
                                        have hy42 : y234.length = x8_1.length - ((ji28) : Int).toNat := (by rw [Ny234.out, List.length_drop] <;> omega)
                                        rw [show (x8_1).drop ((ji28) : Int).toNat = y234 from Ny234.out.symm] at hr42
                                        replace hr42 : Kd.C (Kd.int .i64) _ A42 y234.length y234 := (by rw [hA42]; exact hr42)
                                        rw [← hy42, ← hA42, ← hc42] at hcut42
                                        have HR237 := Aside0.mk hr42
                                        have HC237 := Aside0.mk (show y234.length ≤ c42 from by rw [hy42, hc42]; exact Nat.sub_le_sub_right hroom42 _)
                                        clear hr42 hC42 hroom42 hi042 hsz42 hc42
                                        have KY42 := Aside0.mk hy42
                                        have KA42 := Aside0.mk hA42
                                        clear hy42 hA42
                                        have KL42 := Aside0.mk (show ((ji28) : Int).toNat ≤ x8_1.length from by omega)
                                        replace q42 := eq_true q42
                                        refine start_ (n := 11) (S := fun w' => True) (ds := []) #[false, false, false, false, false, false, false, false, false, false, false] (by kernel_rfl) rfl rfl trivial (fun hHeld => ?_); refine with_tabW handshakerlaw19_GateRounds.tab23 handshakerlaw19_GateRounds.bits23 (fun HT_ HW_ => ?_)
                                        generalize w39.drew = w40 at HO_8 HO_42 HO_214002 HO221 BK213 BK223 HB HR230 HR237 hHeld ⊢
                                        refine pure_ (i := 1) (N := some 77) (v := ?_) (a' := ?_) #[false, true, false, false, false, false, false, false, false, false, false] rfl rfl (any_of HT_.out (by kernel_rfl)) (fun _ _ _ h => h) (Or.inl ⟨by rfl, ?_⟩) ?_ ?_
                                        rotate_left
                                        · intro w'
                                          go_simp
                                          with_reducible rfl
                                        rotate_left
                                        · simp only [Act.put, List.setIfInBounds_toArray, List.set_cons_zero, List.set_cons_succ, i64_w, i32_w]
                                          rfl
                                        refine pure_ (i := 2) (N := some 78) (v := ?_) (a' := ?_) #[false, true, true, false, false, false, false, false, false, false, false] rfl rfl (any_of HT_.out (by kernel_rfl)) (fun _ _ _ h => h) (Or.inl ⟨by rfl, ?_⟩) ?_ ?_
                                        rotate_left
                                        · intro w'
                                          go_simp
                                          with_reducible rfl
                                        rotate_left
                                        · simp only [Act.put, List.setIfInBounds_toArray, List.set_cons_zero, List.set_cons_succ, i64_w, i32_w]
                                          rfl
                                        refine pure_ (i := 3) (N := some 79) (v := ?_) (a' := ?_) #[false, true, true, true, false, false, false, false, false, false, false] rfl rfl (any_of HT_.out (by kernel_rfl)) (fun _ _ _ h => h) (Or.inl ⟨by rfl, ?_⟩) ?_ ?_
                                        rotate_left
                                        · intro w'
                                          go_simp
                                          with_reducible rfl
                                        rotate_left
                                        · simp only [Act.put, List.setIfInBounds_toArray, List.set_cons_zero, List.set_cons_succ, i64_w, i32_w]
                                          rfl
                                        refine pure_ (i := 5) (N := some 81) (v := ?_) (a' := ?_) #[false, true, true, true, false, true, false, false, false, false, false] rfl rfl (any_of HT_.out (by kernel_rfl)) (fun _ _ _ h => h) (Or.inl ⟨by rfl, ?_⟩) ?_ ?_
                                        rotate_left
                                        · intro w'
                                          go_simp
                                          with_reducible rfl
                                        rotate_left
                                        · simp only [Act.put, List.setIfInBounds_toArray, List.set_cons_zero, List.set_cons_succ, i64_w, i32_w]
                                          rfl
                                        refine pure_ (i := 6) (N := some 82) (v := ?_) (a' := ?_) #[false, true, true, true, false, true, true, false, false, false, false] rfl rfl (any_of HT_.out (by kernel_rfl)) (fun _ _ _ h => h) (Or.inl ⟨by rfl, ?_⟩) ?_ ?_
                                        rotate_left
                                        · intro w'
                                          go_simp
                                          with_reducible rfl
                                        rotate_left
                                        · simp only [Act.put, List.setIfInBounds_toArray, List.set_cons_zero, List.set_cons_succ, i64_w, i32_w]
                                          rfl
                                        refine pure_ (i := 7) (N := some 83) (v := ?_) (a' := ?_) #[false, true, true, true, false, true, true, true, false, false, false] rfl rfl (any_of HT_.out (by kernel_rfl)) (fun _ _ _ h => h) (Or.inl ⟨by rfl, ?_⟩) ?_ ?_
                                        rotate_left
                                        · intro w'
                                          go_simp
                                          with_reducible rfl
                                        rotate_left
                                        · simp only [Act.put, List.setIfInBounds_toArray, List.set_cons_zero, List.set_cons_succ, i64_w, i32_w]
                                          rfl
                                        refine pure_ (i := 8) (N := some 84) (v := ?_) (a' := ?_) #[false, true, true, true, false, true, true, true, true, false, false] rfl rfl (any_of HT_.out (by kernel_rfl)) (fun _ _ _ h => h) (Or.inl ⟨by rfl, ?_⟩) ?_ ?_
                                        rotate_left
                                        · intro w'
                                          go_simp
                                          with_reducible rfl
                                        rotate_left
                                        · simp only [Act.put, List.setIfInBounds_toArray, List.set_cons_zero, List.set_cons_succ, i64_w, i32_w]
                                          rfl
                                        refine one_ (i := 0) (N := some 76) #[true, true, true, true, false, true, true, true, true, false, false] rfl rfl (one_of HT_.out (by kernel_rfl)) (by decide) (fun K hK => ?_)
                                        refine Kd.R_lit_step (Kd.int .i64) _ 3 ?hg (N := 76) ?hd (xs := ([] : List Int)) (inner := []) (ok := fun _ => True) (okp := fun _ => True) ?hr ?hp (fun _ hk => hk) trivial (Below.refl _ _) (Nat.le_refl _) (by simp) ?_; (case hd => rfl); (case hg => rfl); (case hr => first | (go_simp; done) | (go_simp; rfl)); (case hp => exact (Reps.none _ _))
                                        intro v225 w43 ho44 hb hg_ hnew_
                                        clear hg_ hnew_
                                        (first | rw [← Ny224.out] at ho44 | (simp only [Int.reduceToNat] at ho44; rw [← Ny224.out] at ho44))
                                        have n0_ := Aside0.mk (Kd.R_elder' (by (with_reducible repeat (first | apply Kd.R_alloc | apply Kd.R_drewN | apply Kd.R_drew)); exact HO_8.out) (Kd.R_base ho44) hb)
                                        have n1_ := Aside0.mk (Kd.R_elder' (by (with_reducible repeat (first | apply Kd.R_alloc | apply Kd.R_drewN | apply Kd.R_drew)); exact HO_42.out) (Kd.R_base ho44) hb)
                                        have n2_ := Aside0.mk (Kd.V_elder' (by (with_reducible repeat (first | apply Kd.V_alloc | apply Kd.V_drewN | apply Kd.V_drew)); exact HO_214002.out) (Kd.R_base ho44) hb)
                                        have n3_ := Aside0.mk (Kd.V_elder' (by (with_reducible repeat (first | apply Kd.V_alloc | apply Kd.V_drewN | apply Kd.V_drew)); exact HO221.out) (Kd.R_base ho44) hb)
                                        have n4_ := Aside0.mk (Kd.R_lower (Kd.R_new' (Kd.R_new' ho44 (Kd.R_lt (by (with_reducible repeat (first | apply Kd.R_alloc | apply Kd.R_drewN | apply Kd.R_drew)); exact HO_8.out))) (Kd.R_lt (by (with_reducible repeat (first | apply Kd.R_alloc | apply Kd.R_drewN | apply Kd.R_drew)); exact HO_42.out))) (below_size (by repeat (first | (with_reducible first | exact HB.out | apply below_alloc | apply pw_below_drewN | apply below_drew1 | refine below_set ?_ GE213.out | refine below_set ?_ GE223.out) | exact HB.out))))
                                        have n5_ := Aside0.mk (blk_below (g := gb213) (o := .cells #[.int .i64 x214000_1, .int .i64 x214001_1, .slice Ao33 x214002_1.length co33] 24 (0, 0)) (by (with_reducible repeat (first | refine blk_drewN ?_ _ | refine blk_drew ?_ | refine blk_alloc ?_ _)); exact BK213.out) hb)
                                        have n6_ := Aside0.mk (blk_below (g := gb223) (o := .cells #[.int .i64 t217, .int .i64 t218, .slice Ao38 t219.length co38] 24 (0, 0)) (by (with_reducible repeat (first | refine blk_drewN ?_ _ | refine blk_drew ?_ | refine blk_alloc ?_ _)); exact BK223.out) hb)
                                        have n7_ := Aside0.mk (Kd.C_below (by repeat (first | (with_reducible exact HR230.out) | (with_reducible refine Kd.C_alloc ?_ _) | (with_reducible refine Kd.C_drewN ?_ _) | (with_reducible refine Kd.C_drew ?_) | exact HR230.out)) hb)
                                        have n8_ := Aside0.mk (Kd.C_below (by repeat (first | (with_reducible exact HR237.out) | (with_reducible refine Kd.C_alloc ?_ _) | (with_reducible refine Kd.C_drewN ?_ _) | (with_reducible refine Kd.C_drew ?_) | exact HR237.out)) hb)
                                        have n9_ := Aside0.mk (below_step (by repeat (first | (with_reducible first | exact HB.out | apply below_alloc | apply pw_below_drewN | apply below_drew1 | refine below_set ?_ GE213.out | refine below_set ?_ GE223.out) | exact HB.out)) hb)
                                        clear HO_8
                                        clear HO_42
                                        clear HO_214002
                                        clear HO221
                                        clear BK213
                                        clear BK223
                                        clear HR230
                                        clear HR237
                                        clear HB
                                        have HO_8 := n0_
                                        have HO_42 := n1_
                                        have HO_214002 := n2_
                                        have HO221 := n3_
                                        have HO226 := n4_
                                        have BK213 := n5_
                                        have BK223 := n6_
                                        have HR230 := n7_
                                        have HR237 := n8_
                                        have HB := n9_
                                        clear n0_ n1_ n2_ n3_ n4_ n5_ n6_ n7_ n8_ n9_
                                        clear hb ho44
                                        refine hK.out _ _ trivial (fun hHeld => ?_)
                                        clear hK K
                                        refine norm_ (a' := ?_) ?_ ?_
                                        rotate_left
                                        · show Act.put _ (some 76) _ = _
                                          simp only [Act.put, List.setIfInBounds_toArray, List.set_cons_zero, List.set_cons_succ, i64_w, i32_w]
                                          rfl
                                        refine one_ (i := 4) (N := some 80) #[true, true, true, true, true, true, true, true, true, false, false] rfl rfl (one_of HT_.out (by kernel_rfl)) (by decide) (fun K hK => ?_)
                                        refine Kd.R_append_rows_step (Kd.int .i64) (w0 := w) w.heap.size (by rfl) (.tmp 76) (.tmp 79) 22 3 (.int .i64 0) 8 rfl Try.underlying22 info3 rfl (by decide) (by omega) v225 y224 y227 _ _ _ (fun k_ => some k_ ≠ (.slice Ao14 x8_1.length co14 : Value).ownBlock ∧ some k_ ≠ (.slice Ao14 x8_1.length co14 : Value).ownBlock) (fun _ => False) rfl rfl ?aO ?aR (fun _ _ h => h) (fun _ h => h.elim) ?aF ?aB ?aS ?aL ?_
                                        (case aR => repeat (first | exact (by repeat (first | (with_reducible exact HR230.out) | (with_reducible refine Kd.C_alloc ?_ _) | (with_reducible refine Kd.C_drewN ?_ _) | (with_reducible refine Kd.C_drew ?_) | exact HR230.out)) | (with_reducible refine Kd.C_alloc ?_ _) | (with_reducible refine Kd.C_drewN ?_ _) | (with_reducible refine Kd.C_drew ?_)))
                                        (case aB => exact (by repeat (first | (with_reducible first | exact HB.out | apply below_alloc | apply pw_below_drewN | apply below_drew1 | refine below_set ?_ GE213.out | refine below_set ?_ GE223.out) | exact HB.out)))
                                        (case aF => exact (fun k_ hk => ⟨Kd.fresh' (Kd.R_lt (by (with_reducible repeat (first | apply Kd.R_alloc | apply Kd.R_drewN | apply Kd.R_drew)); exact HO_8.out)) k_ hk, Kd.fresh' (Kd.R_lt (by (with_reducible repeat (first | apply Kd.R_alloc | apply Kd.R_drewN | apply Kd.R_drew)); exact HO_42.out)) k_ hk⟩))
                                        (case aO => exact (by (with_reducible repeat (first | apply Kd.R_alloc | apply Kd.R_drewN | apply Kd.R_drew)); exact Kd.R_mono HO226.out (fun _ hk => ⟨hk.1.2, hk.2⟩)))
                                        (case aS => exact (below_size (by repeat (first | (with_reducible first | exact HB.out | apply below_alloc | apply pw_below_drewN | apply below_drew1 | refine below_set ?_ GE213.out | refine below_set ?_ GE223.out) | exact HB.out))))
                                        (case aL => have := LMc27.out; omega)
                                        intro v232 w45 ho hb hg hat
                                        rw [← Ny231.out] at ho
                                        have n0_ := Aside0.mk (Kd.R_after (ok := (fun _ => True)) (by (with_reducible repeat (first | apply Kd.R_alloc | apply Kd.R_drewN | apply Kd.R_drew)); exact HO_8.out) hg hat)
                                        have n1_ := Aside0.mk (Kd.R_after (ok := (fun _ => True)) (by (with_reducible repeat (first | apply Kd.R_alloc | apply Kd.R_drewN | apply Kd.R_drew)); exact HO_42.out) hg hat)
                                        have n2_ := Aside0.mk (Kd.V_afterv (ok := (fun k_ => some k_ ≠ (.slice Ao14 x8_1.length co14 : Value).ownBlock ∧ some k_ ≠ (.slice Ao14 x8_1.length co14 : Value).ownBlock ∧ k_ ≠ gb213 ∧ k_ ≠ gb223)) (by (with_reducible repeat (first | apply Kd.V_alloc | apply Kd.V_drewN | apply Kd.V_drew)); exact HO_214002.out) hg hat)
                                        have n3_ := Aside0.mk (blk_grown (g := gb213) (o := .cells #[.int .i64 x214000_1, .int .i64 x214001_1, .slice Ao33 x214002_1.length co33] 24 (0, 0)) (by (with_reducible repeat (first | refine blk_drewN ?_ _ | refine blk_drew ?_ | refine blk_alloc ?_ _)); exact BK213.out) hg (Kd.R_ne HO226.out BK213.out (by decide)))
                                        have n4_ := Aside0.mk (Kd.V_afterv (ok := (fun k_ => some k_ ≠ (.slice Ao14 x8_1.length co14 : Value).ownBlock ∧ some k_ ≠ (.slice Ao14 x8_1.length co14 : Value).ownBlock ∧ k_ ≠ gb213 ∧ k_ ≠ gb223)) (by (with_reducible repeat (first | apply Kd.V_alloc | apply Kd.V_drewN | apply Kd.V_drew)); exact HO221.out) hg hat)
                                        have n5_ := Aside0.mk (blk_grown (g := gb223) (o := .cells #[.int .i64 t217, .int .i64 t218, .slice Ao38 t219.length co38] 24 (0, 0)) (by (with_reducible repeat (first | refine blk_drewN ?_ _ | refine blk_drew ?_ | refine blk_alloc ?_ _)); exact BK223.out) hg (Kd.R_ne HO226.out BK223.out (by decide)))
                                        have n6_ := Aside0.mk (hb)
                                        have n7_ := Aside0.mk ((show Kd.C (Kd.int .i64) w45 Ao14 y227.length y227 from by rw [Ny227.out]; exact Kd.C_take (m := (x13_2 : Int).toNat) ((Kd.R_reads' (Kd.R_after (ok := (fun _ => True)) (by (with_reducible repeat (first | apply Kd.R_alloc | apply Kd.R_drewN | apply Kd.R_drew)); exact HO_8.out) hg hat)).2.2) KL41.out))
                                        have n8_ := Aside0.mk ((show Kd.C (Kd.int .i64) w45 A42 y234.length y234 from by rw [Ny234.out, KA42.out]; exact Kd.C_drop (m := ((ji28) : Int).toNat) (c := co14) ((Kd.R_reads' (Kd.R_after (ok := (fun _ => True)) (by (with_reducible repeat (first | apply Kd.R_alloc | apply Kd.R_drewN | apply Kd.R_drew)); exact HO_8.out) hg hat)).2.2) KL42.out ((Kd.R_reads' (Kd.R_after (ok := (fun _ => True)) (by (with_reducible repeat (first | apply Kd.R_alloc | apply Kd.R_drewN | apply Kd.R_drew)); exact HO_8.out) hg hat)).2.1)))
                                        have n9_ := Aside0.mk (ho)
                                        clear HO_8
                                        clear HO_42
                                        clear HO_214002
                                        clear BK213
                                        clear HO221
                                        clear BK223
                                        clear HB
                                        clear HR230
                                        clear HR237
                                        clear HO226
                                        have HO_8 := n0_
                                        have HO_42 := n1_
                                        have HO_214002 := n2_
                                        have BK213 := n3_
                                        have HO221 := n4_
                                        have BK223 := n5_
                                        have HB := n6_
                                        have HR230 := n7_
                                        have HR237 := n8_
                                        have HO233 := n9_
                                        clear n0_ n1_ n2_ n3_ n4_ n5_ n6_ n7_ n8_ n9_
                                        clear ho hb hg hat
                                        refine hK.out _ _ trivial (fun hHeld => ?_)
                                        clear hK K
                                        refine norm_ (a' := ?_) ?_ ?_
                                        rotate_left
                                        · show Act.put _ (some 80) _ = _
                                          simp only [Act.put, List.setIfInBounds_toArray, List.set_cons_zero, List.set_cons_succ, i64_w, i32_w]
                                          rfl
                                        refine one_ (i := 9) (N := some 85) #[true, true, true, true, true, true, true, true, true, true, false] rfl rfl (one_of HT_.out (by kernel_rfl)) (by decide) (fun K hK => ?_)
                                        refine Kd.R_append_rows_step (Kd.int .i64) (w0 := w) w.heap.size (by rfl) (.tmp 80) (.tmp 84) 22 3 (.int .i64 0) 8 rfl Try.underlying22 info3 rfl (by decide) (by omega) v232 y231 y234 _ _ _ (fun k_ => some k_ ≠ (.slice Ao14 x8_1.length co14 : Value).ownBlock ∧ some k_ ≠ (.slice Ao14 x8_1.length co14 : Value).ownBlock) (fun _ => False) rfl rfl ?aO ?aR (fun _ _ h => h) (fun _ h => h.elim) ?aF ?aB ?aS ?aL ?_
                                        (case aR => repeat (first | exact (by repeat (first | (with_reducible exact HR237.out) | (with_reducible refine Kd.C_alloc ?_ _) | (with_reducible refine Kd.C_drewN ?_ _) | (with_reducible refine Kd.C_drew ?_) | exact HR237.out)) | (with_reducible refine Kd.C_alloc ?_ _) | (with_reducible refine Kd.C_drewN ?_ _) | (with_reducible refine Kd.C_drew ?_)))
                                        (case aB => exact (by repeat (first | (with_reducible first | exact HB.out | apply below_alloc | apply pw_below_drewN | apply below_drew1 | refine below_set ?_ GE213.out | refine below_set ?_ GE223.out) | exact HB.out)))
                                        (case aF => exact (fun k_ hk => ⟨Kd.fresh' (Kd.R_lt (by (with_reducible repeat (first | apply Kd.R_alloc | apply Kd.R_drewN | apply Kd.R_drew)); exact HO_8.out)) k_ hk, Kd.fresh' (Kd.R_lt (by (with_reducible repeat (first | apply Kd.R_alloc | apply Kd.R_drewN | apply Kd.R_drew)); exact HO_42.out)) k_ hk⟩))
                                        (case aO => exact (by (with_reducible repeat (first | apply Kd.R_alloc | apply Kd.R_drewN | apply Kd.R_drew)); exact HO233.out))
                                        (case aS => exact (below_size (by repeat (first | (with_reducible first | exact HB.out | apply below_alloc | apply pw_below_drewN | apply below_drew1 | refine below_set ?_ GE213.out | refine below_set ?_ GE223.out) | exact HB.out))))
                                        (case aL => have := LMc31.out; omega)
                                        intro v239 w46 ho hb hg hat
                                        rw [← Ny238.out] at ho
                                        have n0_ := Aside0.mk (Kd.R_after (ok := (fun _ => True)) (by (with_reducible repeat (first | apply Kd.R_alloc | apply Kd.R_drewN | apply Kd.R_drew)); exact HO_8.out) hg hat)
                                        have n1_ := Aside0.mk (Kd.R_after (ok := (fun _ => True)) (by (with_reducible repeat (first | apply Kd.R_alloc | apply Kd.R_drewN | apply Kd.R_drew)); exact HO_42.out) hg hat)
                                        have n2_ := Aside0.mk (Kd.V_afterv (ok := (fun k_ => some k_ ≠ (.slice Ao14 x8_1.length co14 : Value).ownBlock ∧ some k_ ≠ (.slice Ao14 x8_1.length co14 : Value).ownBlock ∧ k_ ≠ gb213 ∧ k_ ≠ gb223)) (by (with_reducible repeat (first | apply Kd.V_alloc | apply Kd.V_drewN | apply Kd.V_drew)); exact HO_214002.out) hg hat)
                                        have n3_ := Aside0.mk (blk_grown (g := gb213) (o := .cells #[.int .i64 x214000_1, .int .i64 x214001_1, .slice Ao33 x214002_1.length co33] 24 (0, 0)) (by (with_reducible repeat (first | refine blk_drewN ?_ _ | refine blk_drew ?_ | refine blk_alloc ?_ _)); exact BK213.out) hg (Kd.R_ne HO233.out BK213.out (by decide)))
                                        have n4_ := Aside0.mk (Kd.V_afterv (ok := (fun k_ => some k_ ≠ (.slice Ao14 x8_1.length co14 : Value).ownBlock ∧ some k_ ≠ (.slice Ao14 x8_1.length co14 : Value).ownBlock ∧ k_ ≠ gb213 ∧ k_ ≠ gb223)) (by (with_reducible repeat (first | apply Kd.V_alloc | apply Kd.V_drewN | apply Kd.V_drew)); exact HO221.out) hg hat)
                                        have n5_ := Aside0.mk (blk_grown (g := gb223) (o := .cells #[.int .i64 t217, .int .i64 t218, .slice Ao38 t219.length co38] 24 (0, 0)) (by (with_reducible repeat (first | refine blk_drewN ?_ _ | refine blk_drew ?_ | refine blk_alloc ?_ _)); exact BK223.out) hg (Kd.R_ne HO233.out BK223.out (by decide)))
                                        have n6_ := Aside0.mk (hb)
                                        have n7_ := Aside0.mk ((show Kd.C (Kd.int .i64) w46 Ao14 y227.length y227 from by rw [Ny227.out]; exact Kd.C_take (m := (x13_2 : Int).toNat) ((Kd.R_reads' (Kd.R_after (ok := (fun _ => True)) (by (with_reducible repeat (first | apply Kd.R_alloc | apply Kd.R_drewN | apply Kd.R_drew)); exact HO_8.out) hg hat)).2.2) KL41.out))
                                        have n8_ := Aside0.mk ((show Kd.C (Kd.int .i64) w46 A42 y234.length y234 from by rw [Ny234.out, KA42.out]; exact Kd.C_drop (m := ((ji28) : Int).toNat) (c := co14) ((Kd.R_reads' (Kd.R_after (ok := (fun _ => True)) (by (with_reducible repeat (first | apply Kd.R_alloc | apply Kd.R_drewN | apply Kd.R_drew)); exact HO_8.out) hg hat)).2.2) KL42.out ((Kd.R_reads' (Kd.R_after (ok := (fun _ => True)) (by (with_reducible repeat (first | apply Kd.R_alloc | apply Kd.R_drewN | apply Kd.R_drew)); exact HO_8.out) hg hat)).2.1)))
                                        have n9_ := Aside0.mk (ho)
                                        clear HO_8
                                        clear HO_42
                                        clear HO_214002
                                        clear BK213
                                        clear HO221
                                        clear BK223
                                        clear HB
                                        clear HR230
                                        clear HR237
                                        clear HO233
                                        have HO_8 := n0_
                                        have HO_42 := n1_
                                        have HO_214002 := n2_
                                        have BK213 := n3_
                                        have HO221 := n4_
                                        have BK223 := n5_
                                        have HB := n6_
                                        have HR230 := n7_
                                        have HR237 := n8_
                                        have HO240 := n9_
                                        clear n0_ n1_ n2_ n3_ n4_ n5_ n6_ n7_ n8_ n9_
                                        clear ho hb hg hat
                                        refine hK.out _ _ trivial (fun hHeld => ?_)
                                        clear hK K
                                        refine norm_ (a' := ?_) ?_ ?_
                                        rotate_left
                                        · show Act.put _ (some 85) _ = _
                                          simp only [Act.put, List.setIfInBounds_toArray, List.set_cons_zero, List.set_cons_succ, i64_w, i32_w]
                                          rfl
                                        refine pure_ (i := 10) (N := some 8) (v := ?_) (a' := ?_) #[true, true, true, true, true, true, true, true, true, true, true] rfl rfl (any_of HT_.out (by kernel_rfl)) (fun _ _ _ h => h) (Or.inl ⟨by rfl, ?_⟩) ?_ ?_
                                        rotate_left
                                        · intro w'
                                          go_simp
                                          with_reducible rfl
                                        rotate_left
                                        · simp only [Act.put, List.setIfInBounds_toArray, List.set_cons_zero, List.set_cons_succ, i64_w, i32_w]
                                          rfl
                                        refine done_ (done_of HT_.out (by kernel_rfl)) ?_
                                        have hcz47_0 : w46.cell? ⟨gb223, 0, none⟩ = some (.int .i64 t217) := (blk_cell BK223.out 0).trans rfl
                                        have hcz47_1 : w46.cell? ⟨gb223, 1, none⟩ = some (.int .i64 t218) := (blk_cell BK223.out 1).trans rfl
                                        have hcz47_2 : w46.cell? ⟨gb223, 2, none⟩ = some (.slice Ao38 t219.length co38) := (blk_cell BK223.out 2).trans rfl
                                        have hfz47_0 := blk_frozen BK223.out 0
                                        have hfz47_1 := blk_frozen BK223.out 1
                                        have hfz47_2 := blk_frozen BK223.out 2
                                        have hcz48_0 : w46.cell? ⟨gb213, 0, none⟩ = some (.int .i64 x214000_1) := (blk_cell BK213.out 0).trans rfl
                                        have hcz48_1 : w46.cell? ⟨gb213, 1, none⟩ = some (.int .i64 x214001_1) := (blk_cell BK213.out 1).trans rfl
                                        have hcz48_2 : w46.cell? ⟨gb213, 2, none⟩ = some (.slice Ao33 x214002_1.length co33) := (blk_cell BK213.out 2).trans rfl
                                        have hfz48_0 := blk_frozen BK213.out 0
                                        have hfz48_1 := blk_frozen BK213.out 1
                                        have hfz48_2 := blk_frozen BK213.out 2
                                        try go_wp2
                                        go_meet
                                        case rel => exact ⟨_, (y238), (x9_1), (t217), (t218), (t219), (.slice Ao38 t219.length co38), (by first | rfl | (simp; done) | (simp [*]; done)), H', ⟨by have := HK1.out; have := HK2.out; first | omega | exact Nat.le_refl _⟩, ⟨by (with_reducible repeat (first | apply Kd.R_alloc | apply Kd.R_drewN | apply Kd.R_drew)); exact Kd.R_mono (Kd.R_far (p := ⟨gb213, 2, none⟩) (Kd.R_far (p := ⟨gb213, 1, none⟩) (Kd.R_far (p := ⟨gb213, 0, none⟩) (Kd.R_types HO240.out BK213.out (by decide)) (fun _ hk => hk.2) (.int .i64 t217)) (fun _ hk => hk.2) (.int .i64 t218)) (fun _ hk => hk.2) (.slice Ao38 t219.length co38)) (fun _ hk => trivial)⟩, ⟨by (with_reducible repeat (first | apply Kd.V_alloc | apply Kd.V_drewN | apply Kd.V_drew)); exact Kd.V_mono (Kd.V_far (p := ⟨gb213, 2, none⟩) (Kd.V_far (p := ⟨gb213, 1, none⟩) (Kd.V_far (p := ⟨gb213, 0, none⟩) (Kd.V_mono HO221.out (fun k_ hk => (⟨hk, hk.1.2.2.1⟩ : _ ∧ k_ ≠ gb213))) (fun _ hk => hk.2) (.int .i64 t217)) (fun _ hk => hk.2) (.int .i64 t218)) (fun _ hk => hk.2) (.slice Ao38 t219.length co38)) (fun _ hk => ⟨hk.1.2, hk.1.1.2.2.1⟩)⟩, ⟨by (with_reducible repeat (first | refine blk_drewN ?_ _ | refine blk_drew ?_ | refine blk_alloc ?_ _)); refine blk_put (cs := #[.int .i64 t217, .int .i64 t218, .slice Ao33 x214002_1.length co33]) ?_ 2 _ rfl; (with_reducible repeat (first | refine blk_drewN ?_ _ | refine blk_drew ?_ | refine blk_alloc ?_ _)); refine blk_put (cs := #[.int .i64 t217, .int .i64 x214001_1, .slice Ao33 x214002_1.length co33]) ?_ 1 _ rfl; (with_reducible repeat (first | refine blk_drewN ?_ _ | refine blk_drew ?_ | refine blk_alloc ?_ _)); refine blk_put (cs := #[.int .i64 x214000_1, .int .i64 x214001_1, .slice Ao33 x214002_1.length co33]) ?_ 0 _ rfl; (with_reducible repeat (first | refine blk_drewN ?_ _ | refine blk_drew ?_ | refine blk_alloc ?_ _)); exact BK213.out⟩, ⟨by repeat (first | (with_reducible first | exact HB.out | apply below_alloc | apply pw_below_drewN | apply below_drew1 | refine below_set ?_ GE213.out | refine below_set ?_ GE223.out) | exact HB.out)⟩⟩
                                      · rw [if_neg c31] at H
                                        exact absurd H (by simp)
                                    · rw [if_neg c30] at H
                                      exact absurd H (by simp)
                                  · rw [if_neg c29] at H
                                    exact absurd H (by simp)
                                · rw [if_neg c27] at H
                                  exact absurd H (by simp)
                              · rw [if_neg c26] at H
                                exact absurd H (by simp)
                            · rw [if_neg c25] at H
                              exact absurd H (by simp)
                          · rw [if_neg c24] at H
                            exact absurd H (by simp)
                        · rw [if_neg c23] at H
                          have c23b0 : (t222 == 0) = false := beq_eq_false_iff_ne.mpr c23
                          have c23b1 : (t222 != 0) = true := bne_iff_ne.mpr c23
                          by_cases c49 : x13_2 ≥ 0
                          · rw [if_pos c49] at H
                            exact absurd H (by simp)
                          · rw [if_neg c49] at H
                            have c49b0 : decide (0 ≤ x13_2) = false := decide_eq_false c49
                            clear c49
                            have H' := Aside0.mk H
                            clear H
                            have hcz50_0 : wr.cell? ⟨gb213, 0, none⟩ = some (.int .i64 x214000_1) := (blk_cell BK213.out 0).trans rfl
                            have hcz50_1 : wr.cell? ⟨gb213, 1, none⟩ = some (.int .i64 x214001_1) := (blk_cell BK213.out 1).trans rfl
                            have hcz50_2 : wr.cell? ⟨gb213, 2, none⟩ = some (u214002) := (blk_cell BK213.out 2).trans rfl
                            have hfz50_0 := blk_frozen BK213.out 0
                            have hfz50_1 := blk_frozen BK213.out 1
                            have hfz50_2 := blk_frozen BK213.out 2
                            obtain ⟨Ao51, co51, eo51⟩ := Kd.V_slice HO_214002.out
                            subst eo51
                            go_wp2_with (first | ((with_reducible refine gate_callee (f := 12) rfl ?_); refine goesL_ (some 66) rfl rfl Try.func12 (by kernel_rfl) rfl #[.agg #[.int .i64 x214000_1, .int .i64 x214001_1, .slice Ao51 x214002_1.length co51], .int .i64 (wrap64 (-(wrap64 (rd l1 x36_1))))] rfl (by (try simp only [List.map_toArray, List.map_cons, List.map_nil]); first | done | rfl | (simp only [List.length_drop, List.length_take]; rfl)) ?_; (with_reducible refine (gate_Leave.calls k2 x214000_1 x214001_1 (fun k_ => (some k_ ≠ (.slice Ao14 x8_1.length co14 : Value).ownBlock ∧ (some k_ ≠ (.slice Ao14 x8_1.length co14 : Value).ownBlock ∧ k_ ≠ gb213))) _ _ x214002_1 (wrap64 (-(wrap64 (rd l1 x36_1)))) t217 t218 t219 t222 _ ?side1 A22.out).mono ?_); (case side1 => exact HO_214002.out); rintro e w52 ⟨v220, rfl, ho0, hb⟩; refine ⟨_, rfl, ?_⟩; have n0_ := Aside0.mk (Kd.R_below (by (with_reducible repeat (first | apply Kd.R_alloc | apply Kd.R_drewN | apply Kd.R_drew)); exact HO_8.out) hb); have n1_ := Aside0.mk (Kd.R_below (by (with_reducible repeat (first | apply Kd.R_alloc | apply Kd.R_drewN | apply Kd.R_drew)); exact HO_42.out) hb); have n2_ := Aside0.mk (Kd.V_below (by (with_reducible repeat (first | apply Kd.V_alloc | apply Kd.V_drewN | apply Kd.V_drew)); exact HO_214002.out) hb); have n3_ := Aside0.mk (Kd.V_lower (Kd.V_mono (ok' := fun k_ => some k_ ≠ (.slice Ao14 x8_1.length co14 : Value).ownBlock ∧ some k_ ≠ (.slice Ao14 x8_1.length co14 : Value).ownBlock ∧ k_ ≠ gb213) ho0 (fun k_ hk_ => ⟨Or.elim hk_ (fun hs_ => hs_.1) (fun hn_ => (Kd.fresh' (Kd.R_lt (by (with_reducible repeat (first | apply Kd.R_alloc | apply Kd.R_drewN | apply Kd.R_drew)); exact HO_8.out)) k_ hn_)), Or.elim hk_ (fun hs_ => hs_.2.1) (fun hn_ => (Kd.fresh' (Kd.R_lt (by (with_reducible repeat (first | apply Kd.R_alloc | apply Kd.R_drewN | apply Kd.R_drew)); exact HO_42.out)) k_ hn_)), Or.elim hk_ (fun hs_ => hs_.2.2) (fun hn_ => (Kd.freshB (g := gb213) (o := .cells #[.int .i64 x214000_1, .int .i64 x214001_1, .slice Ao51 x214002_1.length co51] 24 (0, 0)) (by (with_reducible repeat (first | refine blk_drewN ?_ _ | refine blk_drew ?_ | refine blk_alloc ?_ _)); exact BK213.out) k_ hn_))⟩)) (below_size (by repeat (first | (with_reducible first | exact HB.out | apply below_alloc | apply pw_below_drewN | apply below_drew1 | refine below_set ?_ GE213.out) | exact HB.out)))); have n4_ := Aside0.mk (blk_below (g := gb213) (o := .cells #[.int .i64 x214000_1, .int .i64 x214001_1, .slice Ao51 x214002_1.length co51] 24 (0, 0)) (by (with_reducible repeat (first | refine blk_drewN ?_ _ | refine blk_drew ?_ | refine blk_alloc ?_ _)); exact BK213.out) hb); have n5_ := Aside0.mk (below_step (by repeat (first | (with_reducible first | exact HB.out | apply below_alloc | apply pw_below_drewN | apply below_drew1 | refine below_set ?_ GE213.out) | exact HB.out)) hb); clear HO_8; clear HO_42; clear HO_214002; clear BK213; clear HB; have HO_8 := n0_; have HO_42 := n1_; have HO_214002 := n2_; have HO221 := n3_; have BK213 := n4_; have HB := n5_; clear n0_ n1_ n2_ n3_ n4_ n5_; (try clear hb); (try clear hb2); (try clear hk); (try clear hi); (try clear ho0)) | ((with_reducible refine gate_dst (N := 16) rfl ?_); refine box_event ?hg (N := 16) ?hd (cs := #[.int .i64 0, .int .i64 0, .slice none 0 0]) (t := 24) ?hr ?_; (case hd => rfl); (case hg => rfl); (case hr => first | (go_simp; done) | (go_simp; rfl)); intro gb223 hg w53 hbox hb; have n0_ := Aside0.mk (Kd.R_below (by (with_reducible repeat (first | apply Kd.R_alloc | apply Kd.R_drewN | apply Kd.R_drew)); exact HO_8.out) hb); have n1_ := Aside0.mk (Kd.R_below (by (with_reducible repeat (first | apply Kd.R_alloc | apply Kd.R_drewN | apply Kd.R_drew)); exact HO_42.out) hb); have n2_ := Aside0.mk (Kd.V_below (Kd.V_elderB (by (with_reducible repeat (first | apply Kd.V_alloc | apply Kd.V_drewN | apply Kd.V_drew)); exact HO_214002.out) gb223 (Nat.le_of_eq hg.symm)) hb); have n3_ := Aside0.mk (Kd.V_below (Kd.V_elderB (by (with_reducible repeat (first | apply Kd.V_alloc | apply Kd.V_drewN | apply Kd.V_drew)); exact HO221.out) gb223 (Nat.le_of_eq hg.symm)) hb); have n4_ := Aside0.mk (blk_below (g := gb213) (o := .cells #[.int .i64 x214000_1, .int .i64 x214001_1, .slice Ao51 x214002_1.length co51] 24 (0, 0)) (by (with_reducible repeat (first | refine blk_drewN ?_ _ | refine blk_drew ?_ | refine blk_alloc ?_ _)); exact BK213.out) hb); have n5_ := Aside0.mk (below_step (by repeat (first | (with_reducible first | exact HB.out | apply below_alloc | apply pw_below_drewN | apply below_drew1 | refine below_set ?_ GE213.out) | exact HB.out)) hb); have n6_ := Aside0.mk (hbox); have n7_ := Aside0.mk ((by rw [hg]; exact (below_size (by repeat (first | (with_reducible first | exact HB.out | apply below_alloc | apply pw_below_drewN | apply below_drew1 | refine below_set ?_ GE213.out) | exact HB.out))) : w.heap.size ≤ gb223)); have n8_ := Aside0.mk ((by rw [hg]; exact (below_size (by repeat (first | (with_reducible first | exact HB.out | apply below_alloc | apply pw_below_drewN | apply below_drew1 | refine below_set ?_ GE213.out) | exact HB.out))) : w.heap.size ≤ gb223)); have n9_ := Aside0.mk ((by rw [hg]; exact Nat.ne_of_lt (blk_lt (g := gb213) (o := .cells #[.int .i64 x214000_1, .int .i64 x214001_1, .slice Ao51 x214002_1.length co51] 24 (0, 0)) (by (with_reducible repeat (first | refine blk_drewN ?_ _ | refine blk_drew ?_ | refine blk_alloc ?_ _)); exact BK213.out)) : gb213 ≠ gb223)); have n10_ := Aside0.mk ((by rw [hg]; exact Nat.ne_of_gt (blk_lt (g := gb213) (o := .cells #[.int .i64 x214000_1, .int .i64 x214001_1, .slice Ao51 x214002_1.length co51] 24 (0, 0)) (by (with_reducible repeat (first | refine blk_drewN ?_ _ | refine blk_drew ?_ | refine blk_alloc ?_ _)); exact BK213.out)) : gb223 ≠ gb213)); clear HO_8; clear HO_42; clear HO_214002; clear HO221; clear BK213; clear HB; have HO_8 := n0_; have HO_42 := n1_; have HO_214002 := n2_; have HO221 := n3_; have BK213 := n4_; have HB := n5_; have BK223 := n6_; have GW223 := n7_; have GE223 := n8_; have NB213_223 := n9_; have NB223_213 := n10_; clear n0_ n1_ n2_ n3_ n4_ n5_ n6_ n7_ n8_ n9_ n10_; clear hb hbox hg; have hnb54 := NB223_213.out; have hnc54 := NB213_223.out; have hcz55_0 : w53.cell? ⟨gb223, 0, none⟩ = some (.int .i64 0) := (blk_cell BK223.out 0).trans rfl; have hcz55_1 : w53.cell? ⟨gb223, 1, none⟩ = some (.int .i64 0) := (blk_cell BK223.out 1).trans rfl; have hcz55_2 : w53.cell? ⟨gb223, 2, none⟩ = some (.slice none 0 0) := (blk_cell BK223.out 2).trans rfl; have hfz55_0 := blk_frozen BK223.out 0; have hfz55_1 := blk_frozen BK223.out 1; have hfz55_2 := blk_frozen BK223.out 2; obtain ⟨Ao56, co56, eo56⟩ := Kd.V_slice HO221.out; subst eo56; have hcz57_0 : w53.cell? ⟨gb213, 0, none⟩ = some (.int .i64 x214000_1) := (blk_cell BK213.out 0).trans rfl; have hcz57_1 : w53.cell? ⟨gb213, 1, none⟩ = some (.int .i64 x214001_1) := (blk_cell BK213.out 1).trans rfl; have hcz57_2 : w53.cell? ⟨gb213, 2, none⟩ = some (.slice Ao51 x214002_1.length co51) := (blk_cell BK213.out 2).trans rfl; have hfz57_0 := blk_frozen BK213.out 0; have hfz57_1 := blk_frozen BK213.out 1; have hfz57_2 := blk_frozen BK213.out 2))
                            go_meet
                            case rel => exact ⟨_, (x8_1), (x9_1), (t217), (t218), (t219), (.slice Ao56 t219.length co56), (by first | rfl | (simp; done) | (simp [*]; done)), H', ⟨by have := HK1.out; have := HK2.out; first | omega | exact Nat.le_refl _⟩, ⟨by (with_reducible repeat (first | apply Kd.R_alloc | apply Kd.R_drewN | apply Kd.R_drew)); exact Kd.R_mono (Kd.R_far (p := ⟨gb213, 2, none⟩) (Kd.R_far (p := ⟨gb213, 1, none⟩) (Kd.R_far (p := ⟨gb213, 0, none⟩) (Kd.R_far (p := ⟨gb223, 2, none⟩) (Kd.R_far (p := ⟨gb223, 1, none⟩) (Kd.R_far (p := ⟨gb223, 0, none⟩) (Kd.R_types (Kd.R_types HO_8.out BK223.out (by decide)) BK213.out (by decide)) (fun _ hk => hk.1.2) (.int .i64 t217)) (fun _ hk => hk.1.2) (.int .i64 t218)) (fun _ hk => hk.1.2) (.slice Ao56 t219.length co56)) (fun _ hk => hk.2) (.int .i64 t217)) (fun _ hk => hk.2) (.int .i64 t218)) (fun _ hk => hk.2) (.slice Ao56 t219.length co56)) (fun _ hk => trivial)⟩, ⟨by (with_reducible repeat (first | apply Kd.V_alloc | apply Kd.V_drewN | apply Kd.V_drew)); exact Kd.V_mono (Kd.V_far (p := ⟨gb213, 2, none⟩) (Kd.V_far (p := ⟨gb213, 1, none⟩) (Kd.V_far (p := ⟨gb213, 0, none⟩) (Kd.V_far (p := ⟨gb223, 2, none⟩) (Kd.V_far (p := ⟨gb223, 1, none⟩) (Kd.V_far (p := ⟨gb223, 0, none⟩) (Kd.V_mono (Kd.V_mono HO221.out (fun k_ hk => (⟨hk, hk.2⟩ : _ ∧ k_ ≠ gb223))) (fun k_ hk => (⟨hk, hk.1.1.2.2⟩ : _ ∧ k_ ≠ gb213))) (fun _ hk => hk.1.2) (.int .i64 t217)) (fun _ hk => hk.1.2) (.int .i64 t218)) (fun _ hk => hk.1.2) (.slice Ao56 t219.length co56)) (fun _ hk => hk.2) (.int .i64 t217)) (fun _ hk => hk.2) (.int .i64 t218)) (fun _ hk => hk.2) (.slice Ao56 t219.length co56)) (fun _ hk => ⟨hk.1.1.1.1, hk.1.1.1.2.2⟩)⟩, ⟨by (with_reducible repeat (first | refine blk_drewN ?_ _ | refine blk_drew ?_ | refine blk_alloc ?_ _)); refine blk_put (cs := #[.int .i64 t217, .int .i64 t218, .slice Ao51 x214002_1.length co51]) ?_ 2 _ rfl; (with_reducible repeat (first | refine blk_drewN ?_ _ | refine blk_drew ?_ | refine blk_alloc ?_ _)); refine blk_put (cs := #[.int .i64 t217, .int .i64 x214001_1, .slice Ao51 x214002_1.length co51]) ?_ 1 _ rfl; (with_reducible repeat (first | refine blk_drewN ?_ _ | refine blk_drew ?_ | refine blk_alloc ?_ _)); refine blk_put (cs := #[.int .i64 x214000_1, .int .i64 x214001_1, .slice Ao51 x214002_1.length co51]) ?_ 0 _ rfl; (with_reducible repeat (first | refine blk_drewN ?_ _ | refine blk_drew ?_ | refine blk_alloc ?_ _)); refine blk_far ?_ NB213_223.out _; (with_reducible repeat (first | refine blk_drewN ?_ _ | refine blk_drew ?_ | refine blk_alloc ?_ _)); refine blk_far ?_ NB213_223.out _; (with_reducible repeat (first | refine blk_drewN ?_ _ | refine blk_drew ?_ | refine blk_alloc ?_ _)); refine blk_far ?_ NB213_223.out _; (with_reducible repeat (first | refine blk_drewN ?_ _ | refine blk_drew ?_ | refine blk_alloc ?_ _)); exact BK213.out⟩, ⟨by repeat (first | (with_reducible first | exact HB.out | apply below_alloc | apply pw_below_drewN | apply below_drew1 | refine below_set ?_ GE213.out | refine below_set ?_ GE223.out) | exact HB.out)⟩⟩
                      · rw [if_neg c21] at H
                        have c21b0 : decide ((wrap64 (rd l1 x36_1)) < 0) = false := decide_eq_false c21
                        clear c21
                        (first | rw [c21b0] | (simp only [i64_w, i32_w]; rw [c21b0]) | skip)
                        replace H := Option.bind_eq_some_iff.mp H
                        obtain ⟨⟨t241, t242, t243, t246, t249⟩, A580, H⟩ := H
                        replace H : (if (wrap64 (rd l1 x36_1)) ≥ 1 then (if (wrap64 (rd l1 x36_1)) ≤ 8 then (if t249 = 0 then (if x13_2 < 0 then (handshakerlaw19_GateRounds.j2 k2 (wrap64 (1 + (wrap64 (Int.tmod a0 8)))) t212 x8_1 x9_1 (wrap64 (rd l1 x36_1)) t246 t249 l1 (l1.length : Int) x36_1 false t241 t242 t243) else (none)) else (if x13_2 < 0 then (none) else (handshakerlaw19_GateRounds.j2 k2 (wrap64 (1 + (wrap64 (Int.tmod a0 8)))) t212 x8_1 x9_1 (wrap64 (rd l1 x36_1)) t246 t249 l1 (l1.length : Int) x36_1 false t241 t242 t243))) else (if t249 = 0 then (none) else (handshakerlaw19_GateRounds.j2 k2 (wrap64 (1 + (wrap64 (Int.tmod a0 8)))) t212 x8_1 x9_1 (wrap64 (rd l1 x36_1)) t246 t249 l1 (l1.length : Int) x36_1 false t241 t242 t243))) else (if t249 = 0 then (none) else (handshakerlaw19_GateRounds.j2 k2 (wrap64 (1 + (wrap64 (Int.tmod a0 8)))) t212 x8_1 x9_1 (wrap64 (rd l1 x36_1)) t246 t249 l1 (l1.length : Int) x36_1 false t241 t242 t243))) = some r := H
                        have A58 := Aside0.mk A580
                        clear A580
                        have HC59 := Aside0.mk H
                        clear H
                        have hcz60_0 : wr.cell? ⟨gb213, 0, none⟩ = some (.int .i64 x214000_1) := (blk_cell BK213.out 0).trans rfl
                        have hcz60_1 : wr.cell? ⟨gb213, 1, none⟩ = some (.int .i64 x214001_1) := (blk_cell BK213.out 1).trans rfl
                        have hcz60_2 : wr.cell? ⟨gb213, 2, none⟩ = some (u214002) := (blk_cell BK213.out 2).trans rfl
                        have hfz60_0 := blk_frozen BK213.out 0
                        have hfz60_1 := blk_frozen BK213.out 1
                        have hfz60_2 := blk_frozen BK213.out 2
                        obtain ⟨Ao61, co61, eo61⟩ := Kd.V_slice HO_214002.out
                        subst eo61
                        go_upto_region 26 with (first | ((with_reducible refine gate_callee (f := 9) rfl ?_); refine goesL_ (some 90) rfl rfl Try.func9 (by kernel_rfl) rfl #[.agg #[.int .i64 x214000_1, .int .i64 x214001_1, .slice Ao61 x214002_1.length co61], .int .i64 (wrap64 (rd l1 x36_1))] rfl (by (try simp only [List.map_toArray, List.map_cons, List.map_nil]); first | done | rfl | (simp only [List.length_drop, List.length_take]; rfl)) ?_; (with_reducible refine (gate_Come.calls k2 x214000_1 x214001_1 (fun k_ => (some k_ ≠ (.slice Ao14 x8_1.length co14 : Value).ownBlock ∧ (some k_ ≠ (.slice Ao14 x8_1.length co14 : Value).ownBlock ∧ k_ ≠ gb213))) _ _ x214002_1 (wrap64 (rd l1 x36_1)) t241 t242 t243 t246 t249 _ ?side1 A58.out).mono ?_); (case side1 => exact HO_214002.out); rintro e w62 ⟨v244, v247, rfl, ho0, ho1, hb⟩; refine ⟨_, rfl, ?_⟩; have n0_ := Aside0.mk (Kd.R_elder' (by (with_reducible repeat (first | apply Kd.R_alloc | apply Kd.R_drewN | apply Kd.R_drew)); exact HO_8.out) (Kd.R_base ho1) hb); have n1_ := Aside0.mk (Kd.R_elder' (by (with_reducible repeat (first | apply Kd.R_alloc | apply Kd.R_drewN | apply Kd.R_drew)); exact HO_42.out) (Kd.R_base ho1) hb); have n2_ := Aside0.mk (Kd.V_elder' (by (with_reducible repeat (first | apply Kd.V_alloc | apply Kd.V_drewN | apply Kd.V_drew)); exact HO_214002.out) (Kd.R_base ho1) hb); have n3_ := Aside0.mk (Kd.V_lower (Kd.V_mono (ok' := fun k_ => some k_ ≠ (v247 : Value).ownBlock ∧ some k_ ≠ (.slice Ao14 x8_1.length co14 : Value).ownBlock ∧ some k_ ≠ (.slice Ao14 x8_1.length co14 : Value).ownBlock ∧ k_ ≠ gb213) ho0 (fun k_ hk_ => ⟨hk_.2, Or.elim hk_.1 (fun hs_ => hs_.1) (fun hn_ => (Kd.fresh' (Kd.R_lt (by (with_reducible repeat (first | apply Kd.R_alloc | apply Kd.R_drewN | apply Kd.R_drew)); exact HO_8.out)) k_ hn_)), Or.elim hk_.1 (fun hs_ => hs_.2.1) (fun hn_ => (Kd.fresh' (Kd.R_lt (by (with_reducible repeat (first | apply Kd.R_alloc | apply Kd.R_drewN | apply Kd.R_drew)); exact HO_42.out)) k_ hn_)), Or.elim hk_.1 (fun hs_ => hs_.2.2) (fun hn_ => (Kd.freshB (g := gb213) (o := .cells #[.int .i64 x214000_1, .int .i64 x214001_1, .slice Ao61 x214002_1.length co61] 24 (0, 0)) (by (with_reducible repeat (first | refine blk_drewN ?_ _ | refine blk_drew ?_ | refine blk_alloc ?_ _)); exact BK213.out) k_ hn_))⟩)) (below_size (by repeat (first | (with_reducible first | exact HB.out | apply below_alloc | apply pw_below_drewN | apply below_drew1 | refine below_set ?_ GE213.out) | exact HB.out)))); have n4_ := Aside0.mk (Kd.R_lower (Kd.R_new' (Kd.R_new' (Kd.R_mono (ok' := fun k_ => True) ho1 (fun _ hk_ => trivial)) (Kd.R_lt (by (with_reducible repeat (first | apply Kd.R_alloc | apply Kd.R_drewN | apply Kd.R_drew)); exact HO_8.out))) (Kd.R_lt (by (with_reducible repeat (first | apply Kd.R_alloc | apply Kd.R_drewN | apply Kd.R_drew)); exact HO_42.out))) (below_size (by repeat (first | (with_reducible first | exact HB.out | apply below_alloc | apply pw_below_drewN | apply below_drew1 | refine below_set ?_ GE213.out) | exact HB.out)))); have n5_ := Aside0.mk (blk_below (g := gb213) (o := .cells #[.int .i64 x214000_1, .int .i64 x214001_1, .slice Ao61 x214002_1.length co61] 24 (0, 0)) (by (with_reducible repeat (first | refine blk_drewN ?_ _ | refine blk_drew ?_ | refine blk_alloc ?_ _)); exact BK213.out) hb); have n6_ := Aside0.mk (below_step (by repeat (first | (with_reducible first | exact HB.out | apply below_alloc | apply pw_below_drewN | apply below_drew1 | refine below_set ?_ GE213.out) | exact HB.out)) hb); clear HO_8; clear HO_42; clear HO_214002; clear BK213; clear HB; have HO_8 := n0_; have HO_42 := n1_; have HO_214002 := n2_; have HO245 := n3_; have HO248 := n4_; have BK213 := n5_; have HB := n6_; clear n0_ n1_ n2_ n3_ n4_ n5_ n6_; (try clear hb); (try clear hb2); (try clear hk); (try clear hi); (try clear ho0); (try clear ho1)) | ((with_reducible refine gate_dst (N := 18) rfl ?_); refine box_event ?hg (N := 18) ?hd (cs := #[.int .i64 0, .int .i64 0, .slice none 0 0]) (t := 24) ?hr ?_; (case hd => rfl); (case hg => rfl); (case hr => first | (go_simp; done) | (go_simp; rfl)); intro gb250 hg w63 hbox hb; have n0_ := Aside0.mk (Kd.R_below (by (with_reducible repeat (first | apply Kd.R_alloc | apply Kd.R_drewN | apply Kd.R_drew)); exact HO_8.out) hb); have n1_ := Aside0.mk (Kd.R_below (by (with_reducible repeat (first | apply Kd.R_alloc | apply Kd.R_drewN | apply Kd.R_drew)); exact HO_42.out) hb); have n2_ := Aside0.mk (Kd.V_below (Kd.V_elderB (by (with_reducible repeat (first | apply Kd.V_alloc | apply Kd.V_drewN | apply Kd.V_drew)); exact HO_214002.out) gb250 (Nat.le_of_eq hg.symm)) hb); have n3_ := Aside0.mk (Kd.V_below (Kd.V_elderB (by (with_reducible repeat (first | apply Kd.V_alloc | apply Kd.V_drewN | apply Kd.V_drew)); exact HO245.out) gb250 (Nat.le_of_eq hg.symm)) hb); have n4_ := Aside0.mk (Kd.R_below (by (with_reducible repeat (first | apply Kd.R_alloc | apply Kd.R_drewN | apply Kd.R_drew)); exact HO248.out) hb); have n5_ := Aside0.mk (blk_below (g := gb213) (o := .cells #[.int .i64 x214000_1, .int .i64 x214001_1, .slice Ao61 x214002_1.length co61] 24 (0, 0)) (by (with_reducible repeat (first | refine blk_drewN ?_ _ | refine blk_drew ?_ | refine blk_alloc ?_ _)); exact BK213.out) hb); have n6_ := Aside0.mk (below_step (by repeat (first | (with_reducible first | exact HB.out | apply below_alloc | apply pw_below_drewN | apply below_drew1 | refine below_set ?_ GE213.out) | exact HB.out)) hb); have n7_ := Aside0.mk (hbox); have n8_ := Aside0.mk ((by rw [hg]; exact (below_size (by repeat (first | (with_reducible first | exact HB.out | apply below_alloc | apply pw_below_drewN | apply below_drew1 | refine below_set ?_ GE213.out) | exact HB.out))) : w.heap.size ≤ gb250)); have n9_ := Aside0.mk ((by rw [hg]; exact (below_size (by repeat (first | (with_reducible first | exact HB.out | apply below_alloc | apply pw_below_drewN | apply below_drew1 | refine below_set ?_ GE213.out) | exact HB.out))) : w.heap.size ≤ gb250)); have n10_ := Aside0.mk ((by rw [hg]; exact Nat.ne_of_lt (blk_lt (g := gb213) (o := .cells #[.int .i64 x214000_1, .int .i64 x214001_1, .slice Ao61 x214002_1.length co61] 24 (0, 0)) (by (with_reducible repeat (first | refine blk_drewN ?_ _ | refine blk_drew ?_ | refine blk_alloc ?_ _)); exact BK213.out)) : gb213 ≠ gb250)); have n11_ := Aside0.mk ((by rw [hg]; exact Nat.ne_of_gt (blk_lt (g := gb213) (o := .cells #[.int .i64 x214000_1, .int .i64 x214001_1, .slice Ao61 x214002_1.length co61] 24 (0, 0)) (by (with_reducible repeat (first | refine blk_drewN ?_ _ | refine blk_drew ?_ | refine blk_alloc ?_ _)); exact BK213.out)) : gb250 ≠ gb213)); clear HO_8; clear HO_42; clear HO_214002; clear HO245; clear HO248; clear BK213; clear HB; have HO_8 := n0_; have HO_42 := n1_; have HO_214002 := n2_; have HO245 := n3_; have HO248 := n4_; have BK213 := n5_; have HB := n6_; have BK250 := n7_; have GW250 := n8_; have GE250 := n9_; have NB213_250 := n10_; have NB250_213 := n11_; clear n0_ n1_ n2_ n3_ n4_ n5_ n6_ n7_ n8_ n9_ n10_ n11_; clear hb hbox hg; have hnb64 := NB250_213.out; have hnc64 := NB213_250.out; have hcz65_0 : w63.cell? ⟨gb250, 0, none⟩ = some (.int .i64 0) := (blk_cell BK250.out 0).trans rfl; have hcz65_1 : w63.cell? ⟨gb250, 1, none⟩ = some (.int .i64 0) := (blk_cell BK250.out 1).trans rfl; have hcz65_2 : w63.cell? ⟨gb250, 2, none⟩ = some (.slice none 0 0) := (blk_cell BK250.out 2).trans rfl; have hfz65_0 := blk_frozen BK250.out 0; have hfz65_1 := blk_frozen BK250.out 1; have hfz65_2 := blk_frozen BK250.out 2; obtain ⟨Ao66, co66, eo66⟩ := Kd.V_slice HO245.out; subst eo66))
                        (try simp only [Act.put, List.setIfInBounds_toArray, List.set_cons_zero, List.set_cons_succ])
                        go_cut [106] (fun v106 wc => ∃ (kq : Nat) (x106_58 : Bool), v106 = .bool x106_58 ∧ Aside0 (handshakerlaw19_GateRounds.j2 kq (wrap64 (1 + (wrap64 (Int.tmod a0 8)))) t212 x8_1 x9_1 (wrap64 (rd l1 x36_1)) t246 t249 l1 (l1.length : Int) x36_1 x106_58 t241 t242 t243 = some r) ∧ Aside0 (kq ≤ k2) ∧ Aside0 (Kd.R (Kd.int .i64) 3 wc w.heap.size (fun k_ => some k_ ≠ (v247 : Value).ownBlock) (.slice Ao14 x8_1.length co14) x8_1) ∧ Aside0 (Kd.R (Kd.int .i64) 3 wc w.heap.size (fun k_ => some k_ ≠ ((.slice Ao14 x8_1.length co14) : Value).ownBlock) v247 t246) ∧ Aside0 (Kd.V (Kd.int .i64) 3 wc w.heap.size (fun k_ => some k_ ≠ ((.slice Ao14 x8_1.length co14) : Value).ownBlock ∧ some k_ ≠ (v247 : Value).ownBlock ∧ k_ ≠ gb213 ∧ k_ ≠ gb250) (.slice Ao61 x214002_1.length co61) x214002_1) ∧ Aside0 (Kd.V (Kd.int .i64) 3 wc w.heap.size (fun k_ => some k_ ≠ ((.slice Ao14 x8_1.length co14) : Value).ownBlock ∧ some k_ ≠ (v247 : Value).ownBlock ∧ k_ ≠ gb213 ∧ k_ ≠ gb250) (.slice Ao66 t243.length co66) t243) ∧ Aside0 (wc.heap[gb213]? = some (.cells #[.int .i64 x214000_1, .int .i64 x214001_1, (.slice Ao61 x214002_1.length co61)] 24 (0, 0))) ∧ Aside0 (wc.heap[gb250]? = some (.cells #[.int .i64 t241, .int .i64 t242, (.slice Ao66 t243.length co66)] 24 (0, 0))) ∧ Aside0 (Below w.heap.size w wc))
                        case first =>
                          have H := HC59.out
                          clear HC59
                          by_cases c67 : (wrap64 (rd l1 x36_1)) ≥ 1
                          · rw [if_pos c67] at H
                            have c67b0 : decide (1 ≤ (wrap64 (rd l1 x36_1))) = true := decide_eq_true c67
                            clear c67
                            (first | rw [c67b0] | (simp only [i64_w, i32_w]; rw [c67b0]) | skip)
                            by_cases c68 : (wrap64 (rd l1 x36_1)) ≤ 8
                            · rw [if_pos c68] at H
                              have c68b0 : decide ((wrap64 (rd l1 x36_1)) ≤ 8) = true := decide_eq_true c68
                              clear c68
                              by_cases c69 : t249 = 0
                              · rw [if_pos c69] at H
                                have c69b0 : (t249 == 0) = true := beq_iff_eq.mpr c69
                                have c69b1 : (t249 != 0) = false := bne_eq_false_iff_eq.mpr c69
                                clear c69
                                by_cases c70 : x13_2 < 0
                                · rw [if_pos c70] at H
                                  have c70b0 : decide (x13_2 < 0) = true := decide_eq_true c70
                                  clear c70
                                  have H' := Aside0.mk H
                                  clear H
                                  go_wp2
                                  go_meet
                                  case rel => exact ⟨_, (false), (by first | rfl | (simp; done) | (simp [*]; done)), H', ⟨by have := HK1.out; have := HK2.out; first | omega | exact Nat.le_refl _⟩, ⟨by (with_reducible repeat (first | apply Kd.R_alloc | apply Kd.R_drewN | apply Kd.R_drew)); exact Kd.R_mono (Kd.R_far (p := ⟨gb250, 2, none⟩) (Kd.R_far (p := ⟨gb250, 1, none⟩) (Kd.R_far (p := ⟨gb250, 0, none⟩) (Kd.R_types HO_8.out BK250.out (by decide)) (fun _ hk => hk.2) (.int .i64 t241)) (fun _ hk => hk.2) (.int .i64 t242)) (fun _ hk => hk.2) (.slice Ao66 t243.length co66)) (fun _ hk => hk.1.2)⟩, ⟨by (with_reducible repeat (first | apply Kd.R_alloc | apply Kd.R_drewN | apply Kd.R_drew)); exact Kd.R_mono (Kd.R_far (p := ⟨gb250, 2, none⟩) (Kd.R_far (p := ⟨gb250, 1, none⟩) (Kd.R_far (p := ⟨gb250, 0, none⟩) (Kd.R_types HO248.out BK250.out (by decide)) (fun _ hk => hk.2) (.int .i64 t241)) (fun _ hk => hk.2) (.int .i64 t242)) (fun _ hk => hk.2) (.slice Ao66 t243.length co66)) (fun _ hk => hk.1.1.2)⟩, ⟨by (with_reducible repeat (first | apply Kd.V_alloc | apply Kd.V_drewN | apply Kd.V_drew)); exact Kd.V_mono (Kd.V_far (p := ⟨gb250, 2, none⟩) (Kd.V_far (p := ⟨gb250, 1, none⟩) (Kd.V_far (p := ⟨gb250, 0, none⟩) (Kd.V_mono HO_214002.out (fun k_ hk => (⟨hk, hk.2⟩ : _ ∧ k_ ≠ gb250))) (fun _ hk => hk.2) (.int .i64 t241)) (fun _ hk => hk.2) (.int .i64 t242)) (fun _ hk => hk.2) (.slice Ao66 t243.length co66)) (fun _ hk => ⟨hk.1.1.1.1, ⟨hk.1.1.2, ⟨hk.1.1.1.2.2, hk.1.2⟩⟩⟩)⟩, ⟨by (with_reducible repeat (first | apply Kd.V_alloc | apply Kd.V_drewN | apply Kd.V_drew)); exact Kd.V_mono (Kd.V_far (p := ⟨gb250, 2, none⟩) (Kd.V_far (p := ⟨gb250, 1, none⟩) (Kd.V_far (p := ⟨gb250, 0, none⟩) (Kd.V_mono HO245.out (fun k_ hk => (⟨hk, hk.2⟩ : _ ∧ k_ ≠ gb250))) (fun _ hk => hk.2) (.int .i64 t241)) (fun _ hk => hk.2) (.int .i64 t242)) (fun _ hk => hk.2) (.slice Ao66 t243.length co66)) (fun _ hk => ⟨hk.1.1.2.1, ⟨hk.1.1.1, ⟨hk.1.1.2.2.2, hk.1.2⟩⟩⟩)⟩, ⟨by (with_reducible repeat (first | refine blk_drewN ?_ _ | refine blk_drew ?_ | refine blk_alloc ?_ _)); refine blk_far ?_ NB213_250.out _; (with_reducible repeat (first | refine blk_drewN ?_ _ | refine blk_drew ?_ | refine blk_alloc ?_ _)); refine blk_far ?_ NB213_250.out _; (with_reducible repeat (first | refine blk_drewN ?_ _ | refine blk_drew ?_ | refine blk_alloc ?_ _)); refine blk_far ?_ NB213_250.out _; (with_reducible repeat (first | refine blk_drewN ?_ _ | refine blk_drew ?_ | refine blk_alloc ?_ _)); exact BK213.out⟩, ⟨by (with_reducible repeat (first | refine blk_drewN ?_ _ | refine blk_drew ?_ | refine blk_alloc ?_ _)); refine blk_put (cs := #[.int .i64 t241, .int .i64 t242, .slice none 0 0]) ?_ 2 _ rfl; (with_reducible repeat (first | refine blk_drewN ?_ _ | refine blk_drew ?_ | refine blk_alloc ?_ _)); refine blk_put (cs := #[.int .i64 t241, .int .i64 0, .slice none 0 0]) ?_ 1 _ rfl; (with_reducible repeat (first | refine blk_drewN ?_ _ | refine blk_drew ?_ | refine blk_alloc ?_ _)); refine blk_put (cs := #[.int .i64 0, .int .i64 0, .slice none 0 0]) ?_ 0 _ rfl; (with_reducible repeat (first | refine blk_drewN ?_ _ | refine blk_drew ?_ | refine blk_alloc ?_ _)); exact BK250.out⟩, ⟨by repeat (first | (with_reducible first | exact HB.out | apply below_alloc | apply pw_below_drewN | apply below_drew1 | refine below_set ?_ GE213.out | refine below_set ?_ GE250.out) | exact HB.out)⟩⟩
                                · rw [if_neg c70] at H
                                  exact absurd H (by simp)
                              · rw [if_neg c69] at H
                                have c69b0 : (t249 == 0) = false := beq_eq_false_iff_ne.mpr c69
                                have c69b1 : (t249 != 0) = true := bne_iff_ne.mpr c69
                                by_cases c71 : x13_2 < 0
                                · rw [if_pos c71] at H
                                  exact absurd H (by simp)
                                · rw [if_neg c71] at H
                                  have c71b0 : decide (x13_2 < 0) = false := decide_eq_false c71
                                  clear c71
                                  have H' := Aside0.mk H
                                  clear H
                                  go_wp2
                                  go_meet
                                  case rel => exact ⟨_, (false), (by first | rfl | (simp; done) | (simp [*]; done)), H', ⟨by have := HK1.out; have := HK2.out; first | omega | exact Nat.le_refl _⟩, ⟨by (with_reducible repeat (first | apply Kd.R_alloc | apply Kd.R_drewN | apply Kd.R_drew)); exact Kd.R_mono (Kd.R_far (p := ⟨gb250, 2, none⟩) (Kd.R_far (p := ⟨gb250, 1, none⟩) (Kd.R_far (p := ⟨gb250, 0, none⟩) (Kd.R_types HO_8.out BK250.out (by decide)) (fun _ hk => hk.2) (.int .i64 t241)) (fun _ hk => hk.2) (.int .i64 t242)) (fun _ hk => hk.2) (.slice Ao66 t243.length co66)) (fun _ hk => hk.1.2)⟩, ⟨by (with_reducible repeat (first | apply Kd.R_alloc | apply Kd.R_drewN | apply Kd.R_drew)); exact Kd.R_mono (Kd.R_far (p := ⟨gb250, 2, none⟩) (Kd.R_far (p := ⟨gb250, 1, none⟩) (Kd.R_far (p := ⟨gb250, 0, none⟩) (Kd.R_types HO248.out BK250.out (by decide)) (fun _ hk => hk.2) (.int .i64 t241)) (fun _ hk => hk.2) (.int .i64 t242)) (fun _ hk => hk.2) (.slice Ao66 t243.length co66)) (fun _ hk => hk.1.1.2)⟩, ⟨by (with_reducible repeat (first | apply Kd.V_alloc | apply Kd.V_drewN | apply Kd.V_drew)); exact Kd.V_mono (Kd.V_far (p := ⟨gb250, 2, none⟩) (Kd.V_far (p := ⟨gb250, 1, none⟩) (Kd.V_far (p := ⟨gb250, 0, none⟩) (Kd.V_mono HO_214002.out (fun k_ hk => (⟨hk, hk.2⟩ : _ ∧ k_ ≠ gb250))) (fun _ hk => hk.2) (.int .i64 t241)) (fun _ hk => hk.2) (.int .i64 t242)) (fun _ hk => hk.2) (.slice Ao66 t243.length co66)) (fun _ hk => ⟨hk.1.1.1.1, ⟨hk.1.1.2, ⟨hk.1.1.1.2.2, hk.1.2⟩⟩⟩)⟩, ⟨by (with_reducible repeat (first | apply Kd.V_alloc | apply Kd.V_drewN | apply Kd.V_drew)); exact Kd.V_mono (Kd.V_far (p := ⟨gb250, 2, none⟩) (Kd.V_far (p := ⟨gb250, 1, none⟩) (Kd.V_far (p := ⟨gb250, 0, none⟩) (Kd.V_mono HO245.out (fun k_ hk => (⟨hk, hk.2⟩ : _ ∧ k_ ≠ gb250))) (fun _ hk => hk.2) (.int .i64 t241)) (fun _ hk => hk.2) (.int .i64 t242)) (fun _ hk => hk.2) (.slice Ao66 t243.length co66)) (fun _ hk => ⟨hk.1.1.2.1, ⟨hk.1.1.1, ⟨hk.1.1.2.2.2, hk.1.2⟩⟩⟩)⟩, ⟨by (with_reducible repeat (first | refine blk_drewN ?_ _ | refine blk_drew ?_ | refine blk_alloc ?_ _)); refine blk_far ?_ NB213_250.out _; (with_reducible repeat (first | refine blk_drewN ?_ _ | refine blk_drew ?_ | refine blk_alloc ?_ _)); refine blk_far ?_ NB213_250.out _; (with_reducible repeat (first | refine blk_drewN ?_ _ | refine blk_drew ?_ | refine blk_alloc ?_ _)); refine blk_far ?_ NB213_250.out _; (with_reducible repeat (first | refine blk_drewN ?_ _ | refine blk_drew ?_ | refine blk_alloc ?_ _)); exact BK213.out⟩, ⟨by (with_reducible repeat (first | refine blk_drewN ?_ _ | refine blk_drew ?_ | refine blk_alloc ?_ _)); refine blk_put (cs := #[.int .i64 t241, .int .i64 t242, .slice none 0 0]) ?_ 2 _ rfl; (with_reducible repeat (first | refine blk_drewN ?_ _ | refine blk_drew ?_ | refine blk_alloc ?_ _)); refine blk_put (cs := #[.int .i64 t241, .int .i64 0, .slice none 0 0]) ?_ 1 _ rfl; (with_reducible repeat (first | refine blk_drewN ?_ _ | refine blk_drew ?_ | refine blk_alloc ?_ _)); refine blk_put (cs := #[.int .i64 0, .int .i64 0, .slice none 0 0]) ?_ 0 _ rfl; (with_reducible repeat (first | refine blk_drewN ?_ _ | refine blk_drew ?_ | refine blk_alloc ?_ _)); exact BK250.out⟩, ⟨by repeat (first | (with_reducible first | exact HB.out | apply below_alloc | apply pw_below_drewN | apply below_drew1 | refine below_set ?_ GE213.out | refine below_set ?_ GE250.out) | exact HB.out)⟩⟩
                            · rw [if_neg c68] at H
                              have c68b0 : decide ((wrap64 (rd l1 x36_1)) ≤ 8) = false := decide_eq_false c68
                              clear c68
                              by_cases c72 : t249 = 0
                              · rw [if_pos c72] at H
                                exact absurd H (by simp)
                              · rw [if_neg c72] at H
                                have c72b0 : (t249 == 0) = false := beq_eq_false_iff_ne.mpr c72
                                have c72b1 : (t249 != 0) = true := bne_iff_ne.mpr c72
                                have H' := Aside0.mk H
                                clear H
                                go_wp2
                                go_meet
                                case rel => exact ⟨_, (false), (by first | rfl | (simp; done) | (simp [*]; done)), H', ⟨by have := HK1.out; have := HK2.out; first | omega | exact Nat.le_refl _⟩, ⟨by (with_reducible repeat (first | apply Kd.R_alloc | apply Kd.R_drewN | apply Kd.R_drew)); exact Kd.R_mono (Kd.R_far (p := ⟨gb250, 2, none⟩) (Kd.R_far (p := ⟨gb250, 1, none⟩) (Kd.R_far (p := ⟨gb250, 0, none⟩) (Kd.R_types HO_8.out BK250.out (by decide)) (fun _ hk => hk.2) (.int .i64 t241)) (fun _ hk => hk.2) (.int .i64 t242)) (fun _ hk => hk.2) (.slice Ao66 t243.length co66)) (fun _ hk => hk.1.2)⟩, ⟨by (with_reducible repeat (first | apply Kd.R_alloc | apply Kd.R_drewN | apply Kd.R_drew)); exact Kd.R_mono (Kd.R_far (p := ⟨gb250, 2, none⟩) (Kd.R_far (p := ⟨gb250, 1, none⟩) (Kd.R_far (p := ⟨gb250, 0, none⟩) (Kd.R_types HO248.out BK250.out (by decide)) (fun _ hk => hk.2) (.int .i64 t241)) (fun _ hk => hk.2) (.int .i64 t242)) (fun _ hk => hk.2) (.slice Ao66 t243.length co66)) (fun _ hk => hk.1.1.2)⟩, ⟨by (with_reducible repeat (first | apply Kd.V_alloc | apply Kd.V_drewN | apply Kd.V_drew)); exact Kd.V_mono (Kd.V_far (p := ⟨gb250, 2, none⟩) (Kd.V_far (p := ⟨gb250, 1, none⟩) (Kd.V_far (p := ⟨gb250, 0, none⟩) (Kd.V_mono HO_214002.out (fun k_ hk => (⟨hk, hk.2⟩ : _ ∧ k_ ≠ gb250))) (fun _ hk => hk.2) (.int .i64 t241)) (fun _ hk => hk.2) (.int .i64 t242)) (fun _ hk => hk.2) (.slice Ao66 t243.length co66)) (fun _ hk => ⟨hk.1.1.1.1, ⟨hk.1.1.2, ⟨hk.1.1.1.2.2, hk.1.2⟩⟩⟩)⟩, ⟨by (with_reducible repeat (first | apply Kd.V_alloc | apply Kd.V_drewN | apply Kd.V_drew)); exact Kd.V_mono (Kd.V_far (p := ⟨gb250, 2, none⟩) (Kd.V_far (p := ⟨gb250, 1, none⟩) (Kd.V_far (p := ⟨gb250, 0, none⟩) (Kd.V_mono HO245.out (fun k_ hk => (⟨hk, hk.2⟩ : _ ∧ k_ ≠ gb250))) (fun _ hk => hk.2) (.int .i64 t241)) (fun _ hk => hk.2) (.int .i64 t242)) (fun _ hk => hk.2) (.slice Ao66 t243.length co66)) (fun _ hk => ⟨hk.1.1.2.1, ⟨hk.1.1.1, ⟨hk.1.1.2.2.2, hk.1.2⟩⟩⟩)⟩, ⟨by (with_reducible repeat (first | refine blk_drewN ?_ _ | refine blk_drew ?_ | refine blk_alloc ?_ _)); refine blk_far ?_ NB213_250.out _; (with_reducible repeat (first | refine blk_drewN ?_ _ | refine blk_drew ?_ | refine blk_alloc ?_ _)); refine blk_far ?_ NB213_250.out _; (with_reducible repeat (first | refine blk_drewN ?_ _ | refine blk_drew ?_ | refine blk_alloc ?_ _)); refine blk_far ?_ NB213_250.out _; (with_reducible repeat (first | refine blk_drewN ?_ _ | refine blk_drew ?_ | refine blk_alloc ?_ _)); exact BK213.out⟩, ⟨by (with_reducible repeat (first | refine blk_drewN ?_ _ | refine blk_drew ?_ | refine blk_alloc ?_ _)); refine blk_put (cs := #[.int .i64 t241, .int .i64 t242, .slice none 0 0]) ?_ 2 _ rfl; (with_reducible repeat (first | refine blk_drewN ?_ _ | refine blk_drew ?_ | refine blk_alloc ?_ _)); refine blk_put (cs := #[.int .i64 t241, .int .i64 0, .slice none 0 0]) ?_ 1 _ rfl; (with_reducible repeat (first | refine blk_drewN ?_ _ | refine blk_drew ?_ | refine blk_alloc ?_ _)); refine blk_put (cs := #[.int .i64 0, .int .i64 0, .slice none 0 0]) ?_ 0 _ rfl; (with_reducible repeat (first | refine blk_drewN ?_ _ | refine blk_drew ?_ | refine blk_alloc ?_ _)); exact BK250.out⟩, ⟨by repeat (first | (with_reducible first | exact HB.out | apply below_alloc | apply pw_below_drewN | apply below_drew1 | refine below_set ?_ GE213.out | refine below_set ?_ GE250.out) | exact HB.out)⟩⟩
                          · rw [if_neg c67] at H
                            have c67b0 : decide (1 ≤ (wrap64 (rd l1 x36_1))) = false := decide_eq_false c67
                            clear c67
                            (first | rw [c67b0] | (simp only [i64_w, i32_w]; rw [c67b0]) | skip)
                            by_cases c73 : t249 = 0
                            · rw [if_pos c73] at H
                              exact absurd H (by simp)
                            · rw [if_neg c73] at H
                              have c73b0 : (t249 == 0) = false := beq_eq_false_iff_ne.mpr c73
                              have c73b1 : (t249 != 0) = true := bne_iff_ne.mpr c73
                              have H' := Aside0.mk H
                              clear H
                              go_wp2
                              go_meet
                              case rel => exact ⟨_, (false), (by first | rfl | (simp; done) | (simp [*]; done)), H', ⟨by have := HK1.out; have := HK2.out; first | omega | exact Nat.le_refl _⟩, ⟨by (with_reducible repeat (first | apply Kd.R_alloc | apply Kd.R_drewN | apply Kd.R_drew)); exact Kd.R_mono (Kd.R_far (p := ⟨gb250, 2, none⟩) (Kd.R_far (p := ⟨gb250, 1, none⟩) (Kd.R_far (p := ⟨gb250, 0, none⟩) (Kd.R_types HO_8.out BK250.out (by decide)) (fun _ hk => hk.2) (.int .i64 t241)) (fun _ hk => hk.2) (.int .i64 t242)) (fun _ hk => hk.2) (.slice Ao66 t243.length co66)) (fun _ hk => hk.1.2)⟩, ⟨by (with_reducible repeat (first | apply Kd.R_alloc | apply Kd.R_drewN | apply Kd.R_drew)); exact Kd.R_mono (Kd.R_far (p := ⟨gb250, 2, none⟩) (Kd.R_far (p := ⟨gb250, 1, none⟩) (Kd.R_far (p := ⟨gb250, 0, none⟩) (Kd.R_types HO248.out BK250.out (by decide)) (fun _ hk => hk.2) (.int .i64 t241)) (fun _ hk => hk.2) (.int .i64 t242)) (fun _ hk => hk.2) (.slice Ao66 t243.length co66)) (fun _ hk => hk.1.1.2)⟩, ⟨by (with_reducible repeat (first | apply Kd.V_alloc | apply Kd.V_drewN | apply Kd.V_drew)); exact Kd.V_mono (Kd.V_far (p := ⟨gb250, 2, none⟩) (Kd.V_far (p := ⟨gb250, 1, none⟩) (Kd.V_far (p := ⟨gb250, 0, none⟩) (Kd.V_mono HO_214002.out (fun k_ hk => (⟨hk, hk.2⟩ : _ ∧ k_ ≠ gb250))) (fun _ hk => hk.2) (.int .i64 t241)) (fun _ hk => hk.2) (.int .i64 t242)) (fun _ hk => hk.2) (.slice Ao66 t243.length co66)) (fun _ hk => ⟨hk.1.1.1.1, ⟨hk.1.1.2, ⟨hk.1.1.1.2.2, hk.1.2⟩⟩⟩)⟩, ⟨by (with_reducible repeat (first | apply Kd.V_alloc | apply Kd.V_drewN | apply Kd.V_drew)); exact Kd.V_mono (Kd.V_far (p := ⟨gb250, 2, none⟩) (Kd.V_far (p := ⟨gb250, 1, none⟩) (Kd.V_far (p := ⟨gb250, 0, none⟩) (Kd.V_mono HO245.out (fun k_ hk => (⟨hk, hk.2⟩ : _ ∧ k_ ≠ gb250))) (fun _ hk => hk.2) (.int .i64 t241)) (fun _ hk => hk.2) (.int .i64 t242)) (fun _ hk => hk.2) (.slice Ao66 t243.length co66)) (fun _ hk => ⟨hk.1.1.2.1, ⟨hk.1.1.1, ⟨hk.1.1.2.2.2, hk.1.2⟩⟩⟩)⟩, ⟨by (with_reducible repeat (first | refine blk_drewN ?_ _ | refine blk_drew ?_ | refine blk_alloc ?_ _)); refine blk_far ?_ NB213_250.out _; (with_reducible repeat (first | refine blk_drewN ?_ _ | refine blk_drew ?_ | refine blk_alloc ?_ _)); refine blk_far ?_ NB213_250.out _; (with_reducible repeat (first | refine blk_drewN ?_ _ | refine blk_drew ?_ | refine blk_alloc ?_ _)); refine blk_far ?_ NB213_250.out _; (with_reducible repeat (first | refine blk_drewN ?_ _ | refine blk_drew ?_ | refine blk_alloc ?_ _)); exact BK213.out⟩, ⟨by (with_reducible repeat (first | refine blk_drewN ?_ _ | refine blk_drew ?_ | refine blk_alloc ?_ _)); refine blk_put (cs := #[.int .i64 t241, .int .i64 t242, .slice none 0 0]) ?_ 2 _ rfl; (with_reducible repeat (first | refine blk_drewN ?_ _ | refine blk_drew ?_ | refine blk_alloc ?_ _)); refine blk_put (cs := #[.int .i64 t241, .int .i64 0, .slice none 0 0]) ?_ 1 _ rfl; (with_reducible repeat (first | refine blk_drewN ?_ _ | refine blk_drew ?_ | refine blk_alloc ?_ _)); refine blk_put (cs := #[.int .i64 0, .int .i64 0, .slice none 0 0]) ?_ 0 _ rfl; (with_reducible repeat (first | refine blk_drewN ?_ _ | refine blk_drew ?_ | refine blk_alloc ?_ _)); exact BK250.out⟩, ⟨by repeat (first | (with_reducible first | exact HB.out | apply below_alloc | apply pw_below_drewN | apply below_drew1 | refine below_set ?_ GE213.out | refine below_set ?_ GE250.out) | exact HB.out)⟩⟩
                        case rest =>
                          clear HC59
                          try clear c1
                          try clear c2
                          try clear p2
                          try clear q2
                          try clear hx2
                          try clear c3
                          try clear c4
                          try clear q4
                          try clear c5
                          try clear c6
                          try clear p6
                          try clear c7
                          try clear c9
                          try clear c12
                          try clear c15
                          try clear c15b0
                          try clear c16
                          try clear c16b0
                          try clear c17
                          try clear c17b0
                          try clear c18
                          try clear c18b0
                          try clear c18b1
                          try clear c19
                          try clear c19b0
                          try clear c19b1
                          try clear c21
                          try clear c21b0
                          try clear p21
                          try clear q21
                          try clear hx21
                          try clear c23
                          try clear c23b0
                          try clear c23b1
                          try clear c24
                          try clear c24b0
                          try clear c25
                          try clear c25b0
                          try clear c25b1
                          try clear c26
                          try clear c26b0
                          try clear c26b1
                          try clear c27
                          try clear c29
                          try clear c29b0
                          try clear c29b1
                          try clear c30
                          try clear c30b0
                          try clear c30b1
                          try clear c31
                          try clear c36
                          try clear q41
                          try clear c42
                          try clear q42
                          try clear c49
                          try clear c49b0
                          try clear c54
                          try clear c64
                          try clear p64
                          try clear c67
                          try clear c67b0
                          try clear c68
                          try clear c68b0
                          try clear c69
                          try clear c69b0
                          try clear c69b1
                          try clear c70
                          try clear c70b0
                          try clear c71
                          try clear c71b0
                          try clear c72
                          try clear c72b0
                          try clear c72b1
                          try clear c73
                          try clear c73b0
                          try clear c73b1
                          try clear hcz32_0
                          try clear hcz32_1
                          try clear hcz32_2
                          try clear hcz37_0
                          try clear hcz37_1
                          try clear hcz37_2
                          try clear hcz47_0
                          try clear hcz47_1
                          try clear hcz47_2
                          try clear hcz48_0
                          try clear hcz48_1
                          try clear hcz48_2
                          try clear hcz50_0
                          try clear hcz50_1
                          try clear hcz50_2
                          try clear hcz55_0
                          try clear hcz55_1
                          try clear hcz55_2
                          try clear hcz57_0
                          try clear hcz57_1
                          try clear hcz57_2
                          try clear hcz60_0
                          try clear hcz60_1
                          try clear hcz60_2
                          try clear hcz65_0
                          try clear hcz65_1
                          try clear hcz65_2
                          try clear hfz32_0
                          try clear hfz32_1
                          try clear hfz32_2
                          try clear hfz37_0
                          try clear hfz37_1
                          try clear hfz37_2
                          try clear hfz47_0
                          try clear hfz47_1
                          try clear hfz47_2
                          try clear hfz48_0
                          try clear hfz48_1
                          try clear hfz48_2
                          try clear hfz50_0
                          try clear hfz50_1
                          try clear hfz50_2
                          try clear hfz55_0
                          try clear hfz55_1
                          try clear hfz55_2
                          try clear hfz57_0
                          try clear hfz57_1
                          try clear hfz57_2
                          try clear hfz60_0
                          try clear hfz60_1
                          try clear hfz60_2
                          try clear hfz65_0
                          try clear hfz65_1
                          try clear hfz65_2
                          try clear hx216_0
                          try clear p216
                          try clear q042
                          try clear q216
                          try clear q41
                          try clear q42
                          obtain ⟨kq, x106_58, rfl, HA, HJ58, HO_8, HO_19, HO_214002, HO_251002, BK213, BK250, HB⟩ := hcut
                          cases kq with
                          | zero => exact absurd HA.out (by simp [handshakerlaw19_GateRounds.j2])
                          | succ kj58 =>
                            have H := HA.out
                            clear HA
                            simp only [handshakerlaw19_GateRounds.j2] at H
                            by_cases c74 : x106_58 = true
                            · subst c74
                              have H1 : (none) = some r := by rw [if_pos rfl] at H; exact H
                              clear H
                              have H := H1
                              clear H1
                              exact absurd H (by simp)
                            · replace c74 := Bool.eq_false_iff.mpr c74
                              subst c74
                              have H1 : (if t249 = 0 then ((some (([] : List Int) : List Int)).bind fun y251 => (if y251.length + x8_1.length < 17592186044416 then ((some (y251 ++ x8_1 : List Int)).bind fun y254 => (if y254.length < 17592186044416 then (handshakerlaw19_GateRounds.j3 kj58 (wrap64 (1 + (wrap64 (Int.tmod a0 8)))) t212 (y254 ++ [(wrap64 (rd l1 x36_1))]) x9_1 t246 l1 (l1.length : Int) x36_1 t241 t242 t243) else (none))) else (none))) else (handshakerlaw19_GateRounds.j3 kj58 (wrap64 (1 + (wrap64 (Int.tmod a0 8)))) t212 x8_1 x9_1 t246 l1 (l1.length : Int) x36_1 t241 t242 t243)) = some r := by rw [if_neg (show ¬ (false = true) by decide)] at H; exact H
                              clear H
                              have H := H1
                              clear H1
                              have HC75 := Aside0.mk H
                              clear H
                              go_upto_if 108 with (fail)
                              go_cut [8] (fun v8 wc => ∃ (kq : Nat) (x8_74 : List Int), Aside0 (handshakerlaw19_GateRounds.j3 kq (wrap64 (1 + (wrap64 (Int.tmod a0 8)))) t212 x8_74 x9_1 t246 l1 (l1.length : Int) x36_1 t241 t242 t243 = some r) ∧ Aside0 (kq ≤ kj58) ∧ Aside0 (Kd.R (Kd.int .i64) 3 wc w.heap.size (fun k_ => some k_ ≠ (v247 : Value).ownBlock) v8 x8_74) ∧ Aside0 (Kd.R (Kd.int .i64) 3 wc w.heap.size (fun k_ => some k_ ≠ (v8 : Value).ownBlock) v247 t246) ∧ Aside0 (Kd.V (Kd.int .i64) 3 wc w.heap.size (fun k_ => some k_ ≠ (v8 : Value).ownBlock ∧ some k_ ≠ (v247 : Value).ownBlock ∧ k_ ≠ gb213 ∧ k_ ≠ gb250) (.slice Ao61 x214002_1.length co61) x214002_1) ∧ Aside0 (Kd.V (Kd.int .i64) 3 wc w.heap.size (fun k_ => some k_ ≠ (v8 : Value).ownBlock ∧ some k_ ≠ (v247 : Value).ownBlock ∧ k_ ≠ gb213 ∧ k_ ≠ gb250) (.slice Ao66 t243.length co66) t243) ∧ Aside0 (wc.heap[gb213]? = some (.cells #[.int .i64 x214000_1, .int .i64 x214001_1, (.slice Ao61 x214002_1.length co61)] 24 (0, 0))) ∧ Aside0 (wc.heap[gb250]? = some (.cells #[.int .i64 t241, .int .i64 t242, (.slice Ao66 t243.length co66)] 24 (0, 0))) ∧ Aside0 (Below w.heap.size w wc))
                              case first =>
                                have H := HC75.out
                                clear HC75
                                by_cases c76 : t249 = 0
                                · rw [if_pos c76] at H
                                  have c76b0 : (t249 == 0) = true := beq_iff_eq.mpr c76
                                  have c76b1 : (t249 != 0) = false := bne_eq_false_iff_eq.mpr c76
                                  clear c76
                                  (first | rw [c76b0] | (simp only [i64_w, i32_w]; rw [c76b0]) | skip)
                                  obtain ⟨y251, hy251⟩ : ∃ y_ : List Int, y_ = (([] : List Int)) := ⟨_, rfl⟩
                                  replace H : (if y251.length + x8_1.length < 17592186044416 then ((some (y251 ++ x8_1 : List Int)).bind fun y254 => (if y254.length < 17592186044416 then (handshakerlaw19_GateRounds.j3 kj58 (wrap64 (1 + (wrap64 (Int.tmod a0 8)))) t212 (y254 ++ [(wrap64 (rd l1 x36_1))]) x9_1 t246 l1 (l1.length : Int) x36_1 t241 t242 t243) else (none))) else (none)) = some r := by first | (rw [hy251]; with_reducible exact H) | (have H2_ := (Option.bind_some _ _).symm.trans H; rw [hy251]; with_reducible exact H2_) | (have H2_ := (Option.bind_some _ _).symm.trans H; with_reducible exact H2_) | with_reducible exact H | (rw [hy251]; exact H) | exact H
                                  have Ny251 := Aside0.mk hy251
                                  clear hy251
                                  by_cases c77 : y251.length + x8_1.length < 17592186044416
                                  · rw [if_pos c77] at H
                                    have LMc77 := Aside0.mk c77
                                    clear c77
                                    obtain ⟨y254, hy254⟩ : ∃ y_ : List Int, y_ = (y251 ++ x8_1) := ⟨_, rfl⟩
                                    replace H : (if y254.length < 17592186044416 then (handshakerlaw19_GateRounds.j3 kj58 (wrap64 (1 + (wrap64 (Int.tmod a0 8)))) t212 (y254 ++ [(wrap64 (rd l1 x36_1))]) x9_1 t246 l1 (l1.length : Int) x36_1 t241 t242 t243) else (none)) = some r := by first | (rw [hy254]; with_reducible exact H) | (have H2_ := (Option.bind_some _ _).symm.trans H; rw [hy254]; with_reducible exact H2_) | (have H2_ := (Option.bind_some _ _).symm.trans H; with_reducible exact H2_) | with_reducible exact H | (rw [hy254]; exact H) | exact H
                                    have Ny254 := Aside0.mk hy254
                                    clear hy254
                                    by_cases c78 : y254.length < 17592186044416
                                    · rw [if_pos c78] at H
                                      have LMc78 := Aside0.mk c78
                                      clear c78
                                      obtain ⟨y257, hy257⟩ : ∃ y_ : List Int, y_ = (y254 ++ [(wrap64 (rd l1 x36_1))]) := ⟨_, rfl⟩
                                      replace H : (handshakerlaw19_GateRounds.j3 kj58 (wrap64 (1 + (wrap64 (Int.tmod a0 8)))) t212 y257 x9_1 t246 l1 (l1.length : Int) x36_1 t241 t242 t243) = some r := by first | (rw [hy257]; with_reducible exact H) | (have H2_ := (Option.bind_some _ _).symm.trans H; rw [hy257]; with_reducible exact H2_) | (have H2_ := (Option.bind_some _ _).symm.trans H; with_reducible exact H2_) | with_reducible exact H | (rw [hy257]; exact H) | exact H
                                      have Ny257 := Aside0.mk hy257
                                      clear hy257
                                      have H' := Aside0.mk H
                                      clear H
                                      go_wp2_with (first | ((with_reducible refine gate_dst (N := 109) rfl ?_); refine Kd.R_lit (Kd.int .i64) _ 3 ?hg (N := 109) ?hd (xs := ([] : List Int)) (inner := []) (ok := fun _ => True) (okp := fun _ => True) ?hr ?hp (fun _ hk => hk) trivial (Below.refl _ _) (Nat.le_refl _) (by simp) ?_; (case hd => rfl); (case hg => rfl); (case hr => first | (go_simp; done) | (go_simp; rfl)); (case hp => exact (Reps.none _ _)); intro v252 w79 ho80 hb hg_ hnew_; clear hg_ hnew_; (first | rw [← Ny251.out] at ho80 | (simp only [Int.reduceToNat] at ho80; rw [← Ny251.out] at ho80)); have n0_ := Aside0.mk (Kd.R_elder' (by (with_reducible repeat (first | apply Kd.R_alloc | apply Kd.R_drewN | apply Kd.R_drew)); exact HO_8.out) (Kd.R_base ho80) hb); have n1_ := Aside0.mk (Kd.R_elder' (by (with_reducible repeat (first | apply Kd.R_alloc | apply Kd.R_drewN | apply Kd.R_drew)); exact HO_19.out) (Kd.R_base ho80) hb); have n2_ := Aside0.mk (Kd.V_elder' (by (with_reducible repeat (first | apply Kd.V_alloc | apply Kd.V_drewN | apply Kd.V_drew)); exact HO_214002.out) (Kd.R_base ho80) hb); have n3_ := Aside0.mk (Kd.V_elder' (by (with_reducible repeat (first | apply Kd.V_alloc | apply Kd.V_drewN | apply Kd.V_drew)); exact HO_251002.out) (Kd.R_base ho80) hb); have n4_ := Aside0.mk (Kd.R_lower (Kd.R_new' (Kd.R_new' ho80 (Kd.R_lt (by (with_reducible repeat (first | apply Kd.R_alloc | apply Kd.R_drewN | apply Kd.R_drew)); exact HO_8.out))) (Kd.R_lt (by (with_reducible repeat (first | apply Kd.R_alloc | apply Kd.R_drewN | apply Kd.R_drew)); exact HO_19.out))) (below_size (by repeat (first | (with_reducible first | exact HB.out | apply below_alloc | apply pw_below_drewN | apply below_drew1 | refine below_set ?_ GE213.out | refine below_set ?_ GE250.out) | exact HB.out)))); have n5_ := Aside0.mk (blk_below (g := gb213) (o := .cells #[.int .i64 x214000_1, .int .i64 x214001_1, .slice Ao61 x214002_1.length co61] 24 (0, 0)) (by (with_reducible repeat (first | refine blk_drewN ?_ _ | refine blk_drew ?_ | refine blk_alloc ?_ _)); exact BK213.out) hb); have n6_ := Aside0.mk (blk_below (g := gb250) (o := .cells #[.int .i64 t241, .int .i64 t242, .slice Ao66 t243.length co66] 24 (0, 0)) (by (with_reducible repeat (first | refine blk_drewN ?_ _ | refine blk_drew ?_ | refine blk_alloc ?_ _)); exact BK250.out) hb); have n7_ := Aside0.mk (below_step (by repeat (first | (with_reducible first | exact HB.out | apply below_alloc | apply pw_below_drewN | apply below_drew1 | refine below_set ?_ GE213.out | refine below_set ?_ GE250.out) | exact HB.out)) hb); clear HO_8; clear HO_19; clear HO_214002; clear HO_251002; clear BK213; clear BK250; clear HB; have HO_8 := n0_; have HO_19 := n1_; have HO_214002 := n2_; have HO_251002 := n3_; have HO253 := n4_; have BK213 := n5_; have BK250 := n6_; have HB := n7_; clear n0_ n1_ n2_ n3_ n4_ n5_ n6_ n7_; clear hb ho80) | ((with_reducible refine gate_builtin (b := .append) (xs := #[.tmp 109, .tmp 110]) rfl ?_); at_builtin; refine Kd.R_append_rows (Kd.int .i64) (w0 := w) w.heap.size rfl (.tmp 109) (.tmp 110) 22 3 (.int .i64 0) 8 rfl Try.underlying22 info3 rfl (by decide) (by omega) v252 y251 x8_1 _ _ _ (fun k_ => some k_ ≠ (.slice Ao14 x8_1.length co14 : Value).ownBlock ∧ some k_ ≠ (v247 : Value).ownBlock) (fun _ => False) rfl rfl ?aO ?aR (fun _ _ h => h) (fun _ h => h.elim) ?aF ?aB ?aS ?aL ?_; (case aR => repeat (first | exact (Kd.R_reads' HO_8.out).2.2 | (with_reducible refine Kd.C_alloc ?_ _) | (with_reducible refine Kd.C_drewN ?_ _) | (with_reducible refine Kd.C_drew ?_))); (case aB => exact (by repeat (first | (with_reducible first | exact HB.out | apply below_alloc | apply pw_below_drewN | apply below_drew1 | refine below_set ?_ GE213.out | refine below_set ?_ GE250.out) | exact HB.out))); (case aF => exact (fun k_ hk => ⟨Kd.fresh' (Kd.R_lt (by (with_reducible repeat (first | apply Kd.R_alloc | apply Kd.R_drewN | apply Kd.R_drew)); exact HO_8.out)) k_ hk, Kd.fresh' (Kd.R_lt (by (with_reducible repeat (first | apply Kd.R_alloc | apply Kd.R_drewN | apply Kd.R_drew)); exact HO_19.out)) k_ hk⟩)); (case aO => exact (by (with_reducible repeat (first | apply Kd.R_alloc | apply Kd.R_drewN | apply Kd.R_drew)); exact Kd.R_mono HO253.out (fun _ hk => ⟨hk.1.2, hk.2⟩))); (case aS => exact (below_size (by repeat (first | (with_reducible first | exact HB.out | apply below_alloc | apply pw_below_drewN | apply below_drew1 | refine below_set ?_ GE213.out | refine below_set ?_ GE250.out) | exact HB.out)))); (case aL => have := LMc77.out; omega); intro v255 w81 ho hb hg hat; rw [← Ny254.out] at ho; have n0_ := Aside0.mk (Kd.R_after (ok := (fun k_ => some k_ ≠ (v247 : Value).ownBlock)) (by (with_reducible repeat (first | apply Kd.R_alloc | apply Kd.R_drewN | apply Kd.R_drew)); exact HO_8.out) hg hat); have n1_ := Aside0.mk (Kd.R_after (ok := (fun k_ => some k_ ≠ (.slice Ao14 x8_1.length co14 : Value).ownBlock)) (by (with_reducible repeat (first | apply Kd.R_alloc | apply Kd.R_drewN | apply Kd.R_drew)); exact HO_19.out) hg hat); have n2_ := Aside0.mk (Kd.V_afterv (ok := (fun k_ => some k_ ≠ (.slice Ao14 x8_1.length co14 : Value).ownBlock ∧ some k_ ≠ (v247 : Value).ownBlock ∧ k_ ≠ gb213 ∧ k_ ≠ gb250)) (by (with_reducible repeat (first | apply Kd.V_alloc | apply Kd.V_drewN | apply Kd.V_drew)); exact HO_214002.out) hg hat); have n3_ := Aside0.mk (Kd.V_afterv (ok := (fun k_ => some k_ ≠ (.slice Ao14 x8_1.length co14 : Value).ownBlock ∧ some k_ ≠ (v247 : Value).ownBlock ∧ k_ ≠ gb213 ∧ k_ ≠ gb250)) (by (with_reducible repeat (first | apply Kd.V_alloc | apply Kd.V_drewN | apply Kd.V_drew)); exact HO_251002.out) hg hat); have n4_ := Aside0.mk (blk_grown (g := gb213) (o := .cells #[.int .i64 x214000_1, .int .i64 x214001_1, .slice Ao61 x214002_1.length co61] 24 (0, 0)) (by (with_reducible repeat (first | refine blk_drewN ?_ _ | refine blk_drew ?_ | refine blk_alloc ?_ _)); exact BK213.out) hg (Kd.R_ne HO253.out BK213.out (by decide))); have n5_ := Aside0.mk (blk_grown (g := gb250) (o := .cells #[.int .i64 t241, .int .i64 t242, .slice Ao66 t243.length co66] 24 (0, 0)) (by (with_reducible repeat (first | refine blk_drewN ?_ _ | refine blk_drew ?_ | refine blk_alloc ?_ _)); exact BK250.out) hg (Kd.R_ne HO253.out BK250.out (by decide))); have n6_ := Aside0.mk (hb); have n7_ := Aside0.mk (ho); clear HO_8; clear HO_19; clear HO_214002; clear HO_251002; clear BK213; clear BK250; clear HB; clear HO253; have HO_8 := n0_; have HO_19 := n1_; have HO_214002 := n2_; have HO_251002 := n3_; have BK213 := n4_; have BK250 := n5_; have HB := n6_; have HO256 := n7_; clear n0_ n1_ n2_ n3_ n4_ n5_ n6_ n7_; clear ho hb hg hat) | ((with_reducible refine gate_builtin (b := .append) (xs := #[.tmp 111, .tmp 113]) rfl ?_); at_builtin; refine Kd.R_append (Kd.int .i64) (w0 := w) w.heap.size rfl (.tmp 111) (.tmp 113) 22 3 (.int .i64 0) 8 rfl Try.underlying22 info3 rfl (by decide) (by omega) v255 y254 (wrap64 (rd l1 x36_1)) [.int .i64 (wrap64 (rd l1 x36_1))] (fun k_ => some k_ ≠ (.slice Ao14 x8_1.length co14 : Value).ownBlock ∧ some k_ ≠ (v247 : Value).ownBlock) (fun _ => False) rfl rfl ?aP (fun _ hk => hk.elim) ?aF ?aO ?aB ?aS ?aL ?_; (case aP => exact rfl); (case aB => exact (by repeat (first | (with_reducible first | exact HB.out | apply below_alloc | apply pw_below_drewN | apply below_drew1 | refine below_set ?_ GE213.out | refine below_set ?_ GE250.out) | exact HB.out))); (case aF => exact (fun k_ hk => ⟨Kd.fresh' (Kd.R_lt (by (with_reducible repeat (first | apply Kd.R_alloc | apply Kd.R_drewN | apply Kd.R_drew)); exact HO_8.out)) k_ hk, Kd.fresh' (Kd.R_lt (by (with_reducible repeat (first | apply Kd.R_alloc | apply Kd.R_drewN | apply Kd.R_drew)); exact HO_19.out)) k_ hk⟩)); (case aO => exact (by (with_reducible repeat (first | apply Kd.R_alloc | apply Kd.R_drewN | apply Kd.R_drew)); exact HO256.out)); (case aS => exact (below_size (by repeat (first | (with_reducible first | exact HB.out | apply below_alloc | apply pw_below_drewN | apply below_drew1 | refine below_set ?_ GE213.out | refine below_set ?_ GE250.out) | exact HB.out)))); (case aL => have := LMc78.out; omega); intro v258 w82 ho hb hg hat; rw [← Ny257.out] at ho; have n0_ := Aside0.mk (Kd.R_after (ok := (fun k_ => some k_ ≠ (v247 : Value).ownBlock)) (by (with_reducible repeat (first | apply Kd.R_alloc | apply Kd.R_drewN | apply Kd.R_drew)); exact HO_8.out) hg hat); have n1_ := Aside0.mk (Kd.R_after (ok := (fun k_ => some k_ ≠ (.slice Ao14 x8_1.length co14 : Value).ownBlock)) (by (with_reducible repeat (first | apply Kd.R_alloc | apply Kd.R_drewN | apply Kd.R_drew)); exact HO_19.out) hg hat); have n2_ := Aside0.mk (Kd.V_afterv (ok := (fun k_ => some k_ ≠ (.slice Ao14 x8_1.length co14 : Value).ownBlock ∧ some k_ ≠ (v247 : Value).ownBlock ∧ k_ ≠ gb213 ∧ k_ ≠ gb250)) (by (with_reducible repeat (first | apply Kd.V_alloc | apply Kd.V_drewN | apply Kd.V_drew)); exact HO_214002.out) hg hat); have n3_ := Aside0.mk (Kd.V_afterv (ok := (fun k_ => some k_ ≠ (.slice Ao14 x8_1.length co14 : Value).ownBlock ∧ some k_ ≠ (v247 : Value).ownBlock ∧ k_ ≠ gb213 ∧ k_ ≠ gb250)) (by (with_reducible repeat (first | apply Kd.V_alloc | apply Kd.V_drewN | apply Kd.V_drew)); exact HO_251002.out) hg hat); have n4_ := Aside0.mk (blk_grown (g := gb213) (o := .cells #[.int .i64 x214000_1, .int .i64 x214001_1, .slice Ao61 x214002_1.length co61] 24 (0, 0)) (by (with_reducible repeat (first | refine blk_drewN ?_ _ | refine blk_drew ?_ | refine blk_alloc ?_ _)); exact BK213.out) hg (Kd.R_ne HO256.out BK213.out (by decide))); have n5_ := Aside0.mk (blk_grown (g := gb250) (o := .cells #[.int .i64 t241, .int .i64 t242, .slice Ao66 t243.length co66] 24 (0, 0)) (by (with_reducible repeat (first | refine blk_drewN ?_ _ | refine blk_drew ?_ | refine blk_alloc ?_ _)); exact BK250.out) hg (Kd.R_ne HO256.out BK250.out (by decide))); have n6_ := Aside0.mk (hb); have n7_ := Aside0.mk (ho); clear HO_8; clear HO_19; clear HO_214002; clear HO_251002; clear BK213; clear BK250; clear HB; clear HO256; have HO_8 := n0_; have HO_19 := n1_; have HO_214002 := n2_; have HO_251002 := n3_; have BK213 := n4_; have BK250 := n5_; have HB := n6_; have HO259 := n7_; clear n0_ n1_ n2_ n3_ n4_ n5_ n6_ n7_; clear ho hb hg hat))
                                      go_meet
                                      case rel => exact ⟨_, (y257), H', ⟨by have := HK1.out; have := HK2.out; have := HJ58.out; first | omega | exact Nat.le_refl _⟩, ⟨by (with_reducible repeat (first | apply Kd.R_alloc | apply Kd.R_drewN | apply Kd.R_drew)); exact Kd.R_mono HO259.out (fun _ hk => hk.2)⟩, ⟨by (with_reducible repeat (first | apply Kd.R_alloc | apply Kd.R_drewN | apply Kd.R_drew)); exact Kd.R_mono HO_19.out (fun _ hk => hk.2)⟩, ⟨by (with_reducible repeat (first | apply Kd.V_alloc | apply Kd.V_drewN | apply Kd.V_drew)); exact Kd.V_mono HO_214002.out (fun _ hk => ⟨hk.2, ⟨hk.1.2.1, ⟨hk.1.2.2.1, hk.1.2.2.2⟩⟩⟩)⟩, ⟨by (with_reducible repeat (first | apply Kd.V_alloc | apply Kd.V_drewN | apply Kd.V_drew)); exact Kd.V_mono HO_251002.out (fun _ hk => ⟨hk.2, ⟨hk.1.2.1, ⟨hk.1.2.2.1, hk.1.2.2.2⟩⟩⟩)⟩, ⟨by (with_reducible repeat (first | refine blk_drewN ?_ _ | refine blk_drew ?_ | refine blk_alloc ?_ _)); exact BK213.out⟩, ⟨by (with_reducible repeat (first | refine blk_drewN ?_ _ | refine blk_drew ?_ | refine blk_alloc ?_ _)); exact BK250.out⟩, ⟨by repeat (first | (with_reducible first | exact HB.out | apply below_alloc | apply pw_below_drewN | apply below_drew1 | refine below_set ?_ GE213.out | refine below_set ?_ GE250.out) | exact HB.out)⟩⟩
                                    · rw [if_neg c78] at H
                                      exact absurd H (by simp)
                                  · rw [if_neg c77] at H
                                    exact absurd H (by simp)
                                · rw [if_neg c76] at H
                                  have c76b0 : (t249 == 0) = false := beq_eq_false_iff_ne.mpr c76
                                  have c76b1 : (t249 != 0) = true := bne_iff_ne.mpr c76
                                  (first | rw [c76b0] | (simp only [i64_w, i32_w]; rw [c76b0]) | skip)
                                  have H' := Aside0.mk H
                                  clear H
                                  go_wp2
                                  go_meet
                                  case rel => exact ⟨_, (x8_1), H', ⟨by have := HK1.out; have := HK2.out; have := HJ58.out; first | omega | exact Nat.le_refl _⟩, ⟨by (with_reducible repeat (first | apply Kd.R_alloc | apply Kd.R_drewN | apply Kd.R_drew)); exact HO_8.out⟩, ⟨by (with_reducible repeat (first | apply Kd.R_alloc | apply Kd.R_drewN | apply Kd.R_drew)); exact HO_19.out⟩, ⟨by (with_reducible repeat (first | apply Kd.V_alloc | apply Kd.V_drewN | apply Kd.V_drew)); exact HO_214002.out⟩, ⟨by (with_reducible repeat (first | apply Kd.V_alloc | apply Kd.V_drewN | apply Kd.V_drew)); exact HO_251002.out⟩, ⟨by (with_reducible repeat (first | refine blk_drewN ?_ _ | refine blk_drew ?_ | refine blk_alloc ?_ _)); exact BK213.out⟩, ⟨by (with_reducible repeat (first | refine blk_drewN ?_ _ | refine blk_drew ?_ | refine blk_alloc ?_ _)); exact BK250.out⟩, ⟨by repeat (first | (with_reducible first | exact HB.out | apply below_alloc | apply pw_below_drewN | apply below_drew1 | refine below_set ?_ GE213.out | refine below_set ?_ GE250.out) | exact HB.out)⟩⟩
                              case rest =>
                                clear HC75
                                try clear c1
                                try clear c2
                                try clear p2
                                try clear q2
                                try clear hx2
                                try clear c3
                                try clear c4
                                try clear q4
                                try clear c5
                                try clear c6
                                try clear p6
                                try clear c7
                                try clear c9
                                try clear c12
                                try clear c15
                                try clear c15b0
                                try clear c16
                                try clear c16b0
                                try clear c17
                                try clear c17b0
                                try clear c18
                                try clear c18b0
                                try clear c18b1
                                try clear c19
                                try clear c19b0
                                try clear c19b1
                                try clear c21
                                try clear c21b0
                                try clear p21
                                try clear q21
                                try clear hx21
                                try clear c23
                                try clear c23b0
                                try clear c23b1
                                try clear c24
                                try clear c24b0
                                try clear c25
                                try clear c25b0
                                try clear c25b1
                                try clear c26
                                try clear c26b0
                                try clear c26b1
                                try clear c27
                                try clear c29
                                try clear c29b0
                                try clear c29b1
                                try clear c30
                                try clear c30b0
                                try clear c30b1
                                try clear c31
                                try clear c36
                                try clear q41
                                try clear c42
                                try clear q42
                                try clear c49
                                try clear c49b0
                                try clear c54
                                try clear c64
                                try clear p64
                                try clear c67
                                try clear c67b0
                                try clear c68
                                try clear c68b0
                                try clear c69
                                try clear c69b0
                                try clear c69b1
                                try clear c70
                                try clear c70b0
                                try clear c71
                                try clear c71b0
                                try clear c72
                                try clear c72b0
                                try clear c72b1
                                try clear c73
                                try clear c73b0
                                try clear c73b1
                                try clear c74
                                try clear c76
                                try clear c76b0
                                try clear c76b1
                                try clear c77
                                try clear c78
                                try clear hcz32_0
                                try clear hcz32_1
                                try clear hcz32_2
                                try clear hcz37_0
                                try clear hcz37_1
                                try clear hcz37_2
                                try clear hcz47_0
                                try clear hcz47_1
                                try clear hcz47_2
                                try clear hcz48_0
                                try clear hcz48_1
                                try clear hcz48_2
                                try clear hcz50_0
                                try clear hcz50_1
                                try clear hcz50_2
                                try clear hcz55_0
                                try clear hcz55_1
                                try clear hcz55_2
                                try clear hcz57_0
                                try clear hcz57_1
                                try clear hcz57_2
                                try clear hcz60_0
                                try clear hcz60_1
                                try clear hcz60_2
                                try clear hcz65_0
                                try clear hcz65_1
                                try clear hcz65_2
                                try clear hfz32_0
                                try clear hfz32_1
                                try clear hfz32_2
                                try clear hfz37_0
                                try clear hfz37_1
                                try clear hfz37_2
                                try clear hfz47_0
                                try clear hfz47_1
                                try clear hfz47_2
                                try clear hfz48_0
                                try clear hfz48_1
                                try clear hfz48_2
                                try clear hfz50_0
                                try clear hfz50_1
                                try clear hfz50_2
                                try clear hfz55_0
                                try clear hfz55_1
                                try clear hfz55_2
                                try clear hfz57_0
                                try clear hfz57_1
                                try clear hfz57_2
                                try clear hfz60_0
                                try clear hfz60_1
                                try clear hfz60_2
                                try clear hfz65_0
                                try clear hfz65_1
                                try clear hfz65_2
                                try clear hx216_0
                                try clear p2
                                try clear p21
                                try clear p216
                                try clear p6
                                try clear p64
                                try clear q042
                                try clear q2
                                try clear q21
                                try clear q216
                                try clear q4
                                try clear q41
                                try clear q42
                                obtain ⟨kq, x8_74, HA, HJ74, HO_8, HO_19, HO_214002, HO_251002, BK213, BK250, HB⟩ := hcut
                                cases kq with
                                | zero => exact absurd HA.out (by simp [handshakerlaw19_GateRounds.j3])
                                | succ kj74 =>
                                  have H := HA.out
                                  clear HA
                                  simp only [handshakerlaw19_GateRounds.j3] at H
                                  by_cases c83 : (x8_74.length : Int) = (wrap64 (1 + (wrap64 (Int.tmod a0 8))))
                                  · rw [if_pos c83] at H
                                    have c83b0 : ((x8_74.length : Int) == (wrap64 (1 + (wrap64 (Int.tmod a0 8))))) = true := beq_iff_eq.mpr c83
                                    have c83b1 : ((x8_74.length : Int) != (wrap64 (1 + (wrap64 (Int.tmod a0 8))))) = false := bne_eq_false_iff_eq.mpr c83
                                    clear c83
                                    replace H := Option.bind_eq_some_iff.mp H
                                    obtain ⟨t260, A840, H⟩ := H
                                    replace H : (if t260 = true then (if (([] : List Int).length : Int) > 0 then (none) else (handshakerlaw19_GateRounds.j4 kj74 (wrap64 (1 + (wrap64 (Int.tmod a0 8)))) t212 ([] : List Int) (wrap64 (x9_1 + 1)) l1 (l1.length : Int) x36_1 t241 t242 t243)) else (none)) = some r := H
                                    have A84 := Aside0.mk A840
                                    clear A840
                                    by_cases c85 : t260 = true
                                    · subst c85
                                      have H1 : (if (([] : List Int).length : Int) > 0 then (none) else (handshakerlaw19_GateRounds.j4 kj74 (wrap64 (1 + (wrap64 (Int.tmod a0 8)))) t212 ([] : List Int) (wrap64 (x9_1 + 1)) l1 (l1.length : Int) x36_1 t241 t242 t243)) = some r := by rw [if_pos rfl] at H; exact H
                                      clear H
                                      have H := H1
                                      clear H1
                                      by_cases c86 : (([] : List Int).length : Int) > 0
                                      · rw [if_pos c86] at H
                                        exact absurd H (by simp)
                                      · rw [if_neg c86] at H
                                        have c86b0 : decide (0 < (([] : List Int).length : Int)) = false := decide_eq_false c86
                                        have c86b1 : decide (0 < ([] : List Int).length) = false := decide_eq_false (by omega)
                                        clear c86
                                        have H' := Aside0.mk H
                                        clear H
                                        obtain ⟨Ao87, co87, eo87⟩ := Kd.R_slice HO_8.out
                                        subst eo87
                                        obtain ⟨Ao88, co88, eo88⟩ := Kd.R_slice HO_19.out
                                        subst eo88
                                        go_wp2_with (first | ((with_reducible refine gate_callee (f := 19) rfl ?_); refine goesL_ (some 121) rfl rfl Try.func19 (by kernel_rfl) rfl #[.slice Ao88 t246.length co88, .slice Ao87 x8_74.length co87] rfl (by (try simp only [List.map_toArray, List.map_cons, List.map_nil]); first | done | rfl | (simp only [List.length_drop, List.length_take]; rfl)) ?_; (with_reducible refine (handshakerref03_Numbers.calls kj74 _ _ t246 _ _ x8_74 true _ ?side1 ?side2 ?side3 ?side4 A84.out).mono ?_); (case side1 => repeat (first | exact (Kd.R_reads' HO_19.out).2.2 | (with_reducible refine Kd.C_alloc ?_ _) | (with_reducible refine Kd.C_drewN ?_ _) | (with_reducible refine Kd.C_drew ?_))); (case side2 => exact (Kd.R_reads' HO_19.out).2.1); (case side3 => repeat (first | exact (Kd.R_reads' HO_8.out).2.2 | (with_reducible refine Kd.C_alloc ?_ _) | (with_reducible refine Kd.C_drewN ?_ _) | (with_reducible refine Kd.C_drew ?_))); (case side4 => exact (Kd.R_reads' HO_8.out).2.1); rintro e w' ⟨rfl, ⟨nd, rfl⟩⟩; refine ⟨_, rfl, ?_⟩; (try (rw [drewN_self wc]; generalize hq_ : World.drewN wc _ = wc; have n0_ : Aside0 (Kd.R (Kd.int .i64) 3 wc w.heap.size (fun k_ => some k_ ≠ (.slice Ao87 x8_74.length co87 : Value).ownBlock) (.slice Ao88 t246.length co88) t246) := ⟨by rw [← hq_]; exact (by (with_reducible repeat (first | apply Kd.R_alloc | apply Kd.R_drewN | apply Kd.R_drew)); exact HO_19.out)⟩; have n1_ : Aside0 (Kd.V (Kd.int .i64) 3 wc w.heap.size (fun k_ => some k_ ≠ (.slice Ao88 t246.length co88 : Value).ownBlock ∧ some k_ ≠ (.slice Ao87 x8_74.length co87 : Value).ownBlock ∧ k_ ≠ gb213 ∧ k_ ≠ gb250) (.slice Ao61 x214002_1.length co61) x214002_1) := ⟨by rw [← hq_]; exact (by (with_reducible repeat (first | apply Kd.V_alloc | apply Kd.V_drewN | apply Kd.V_drew)); exact Kd.V_mono HO_214002.out (fun _ hk => ⟨hk.2.1, ⟨hk.1, ⟨hk.2.2.1, hk.2.2.2⟩⟩⟩))⟩; have n2_ : Aside0 (Kd.V (Kd.int .i64) 3 wc w.heap.size (fun k_ => some k_ ≠ (.slice Ao88 t246.length co88 : Value).ownBlock ∧ some k_ ≠ (.slice Ao87 x8_74.length co87 : Value).ownBlock ∧ k_ ≠ gb213 ∧ k_ ≠ gb250) (.slice Ao66 t243.length co66) t243) := ⟨by rw [← hq_]; exact (by (with_reducible repeat (first | apply Kd.V_alloc | apply Kd.V_drewN | apply Kd.V_drew)); exact Kd.V_mono HO_251002.out (fun _ hk => ⟨hk.2.1, ⟨hk.1, ⟨hk.2.2.1, hk.2.2.2⟩⟩⟩))⟩; have n3_ : Aside0 (Kd.R (Kd.int .i64) 3 wc w.heap.size (fun k_ => some k_ ≠ (.slice Ao88 t246.length co88 : Value).ownBlock) (.slice Ao87 x8_74.length co87) x8_74) := ⟨by rw [← hq_]; exact (by (with_reducible repeat (first | apply Kd.R_alloc | apply Kd.R_drewN | apply Kd.R_drew)); exact HO_8.out)⟩; have n4_ : Aside0 (wc.heap[gb213]? = some (.cells #[.int .i64 x214000_1, .int .i64 x214001_1, .slice Ao61 x214002_1.length co61] 24 (0, 0))) := ⟨by rw [← hq_]; exact (by (with_reducible repeat (first | refine blk_drewN ?_ _ | refine blk_drew ?_ | refine blk_alloc ?_ _)); exact BK213.out)⟩; have n5_ : Aside0 (wc.heap[gb250]? = some (.cells #[.int .i64 t241, .int .i64 t242, .slice Ao66 t243.length co66] 24 (0, 0))) := ⟨by rw [← hq_]; exact (by (with_reducible repeat (first | refine blk_drewN ?_ _ | refine blk_drew ?_ | refine blk_alloc ?_ _)); exact BK250.out)⟩; have n6_ : Aside0 (Below w.heap.size w wc) := ⟨by rw [← hq_]; exact (by repeat (first | (with_reducible first | exact HB.out | apply below_alloc | apply pw_below_drewN | apply below_drew1 | refine below_set ?_ GE213.out | refine below_set ?_ GE250.out) | exact HB.out))⟩; clear HO_19 HO_214002 HO_251002 HO_8 BK213 BK250 HB hq_; have HO_19 := n0_; have HO_214002 := n1_; have HO_251002 := n2_; have HO_8 := n3_; have BK213 := n4_; have BK250 := n5_; have HB := n6_; clear n0_ n1_ n2_ n3_ n4_ n5_ n6_)); have n_ := Aside0.mk (Kd.V_mono (ok' := (fun k_ => some k_ ≠ (.slice Ao88 t246.length co88 : Value).ownBlock ∧ some k_ ≠ (.slice Ao87 x8_74.length co87 : Value).ownBlock ∧ k_ ≠ gb213 ∧ k_ ≠ gb250)) HO_214002.out (fun k_ hk => by first | exact hk | exact ⟨hk.2.1, ⟨hk.1, ⟨hk.2.2.1, hk.2.2.2⟩⟩⟩)); clear HO_214002; have HO_214002 := n_; clear n_; have n_ := Aside0.mk (Kd.V_mono (ok' := (fun k_ => some k_ ≠ (.slice Ao88 t246.length co88 : Value).ownBlock ∧ some k_ ≠ (.slice Ao87 x8_74.length co87 : Value).ownBlock ∧ k_ ≠ gb213 ∧ k_ ≠ gb250)) HO_251002.out (fun k_ hk => by first | exact hk | exact ⟨hk.2.1, ⟨hk.1, ⟨hk.2.2.1, hk.2.2.2⟩⟩⟩)); clear HO_251002; have HO_251002 := n_; clear n_; have hnb89 := NB250_213.out; have hnc89 := NB213_250.out; have hcz90_0 : wc.cell? ⟨gb250, 0, none⟩ = some (.int .i64 t241) := (blk_cell BK250.out 0).trans rfl; have hcz90_1 : wc.cell? ⟨gb250, 1, none⟩ = some (.int .i64 t242) := (blk_cell BK250.out 1).trans rfl; have hcz90_2 : wc.cell? ⟨gb250, 2, none⟩ = some (.slice Ao66 t243.length co66) := (blk_cell BK250.out 2).trans rfl; have hfz90_0 := blk_frozen BK250.out 0; have hfz90_1 := blk_frozen BK250.out 1; have hfz90_2 := blk_frozen BK250.out 2; have hcz91_0 : wc.cell? ⟨gb213, 0, none⟩ = some (.int .i64 x214000_1) := (blk_cell BK213.out 0).trans rfl; have hcz91_1 : wc.cell? ⟨gb213, 1, none⟩ = some (.int .i64 x214001_1) := (blk_cell BK213.out 1).trans rfl; have hcz91_2 : wc.cell? ⟨gb213, 2, none⟩ = some (.slice Ao61 x214002_1.length co61) := (blk_cell BK213.out 2).trans rfl; have hfz91_0 := blk_frozen BK213.out 0; have hfz91_1 := blk_frozen BK213.out 1; have hfz91_2 := blk_frozen BK213.out 2))
                                        go_meet
                                        case rel => exact ⟨_, (([] : List Int)), (wrap64 (x9_1 + 1)), (t241), (t242), (t243), (.slice Ao66 t243.length co66), (by first | rfl | (simp; done) | (simp [*]; done)), H', ⟨by have := HK1.out; have := HK2.out; have := HJ58.out; have := HJ74.out; first | omega | exact Nat.le_refl _⟩, ⟨by first | exact Kd.R_nil _ _ _ _ _ | exact Kd.N_nil _ _ _ _ _ | exact Kd.V_nil _ _ _ _ _ | exact Kd.Q_nil _ _ _ _ _ | exact Kd.S_nil _ _ _ _ _⟩, ⟨by (with_reducible repeat (first | apply Kd.V_alloc | apply Kd.V_drewN | apply Kd.V_drew)); exact Kd.V_mono (Kd.V_far (p := ⟨gb213, 2, none⟩) (Kd.V_far (p := ⟨gb213, 1, none⟩) (Kd.V_far (p := ⟨gb213, 0, none⟩) (Kd.V_mono HO_251002.out (fun k_ hk => (⟨hk, hk.2.2.1⟩ : _ ∧ k_ ≠ gb213))) (fun _ hk => hk.2) (.int .i64 t241)) (fun _ hk => hk.2) (.int .i64 t242)) (fun _ hk => hk.2) (.slice Ao66 t243.length co66)) (fun _ hk => ⟨(by simp [Value.ownBlock]), hk.1.2.2.1⟩)⟩, ⟨by (with_reducible repeat (first | refine blk_drewN ?_ _ | refine blk_drew ?_ | refine blk_alloc ?_ _)); refine blk_put (cs := #[.int .i64 t241, .int .i64 t242, .slice Ao61 x214002_1.length co61]) ?_ 2 _ rfl; (with_reducible repeat (first | refine blk_drewN ?_ _ | refine blk_drew ?_ | refine blk_alloc ?_ _)); refine blk_put (cs := #[.int .i64 t241, .int .i64 x214001_1, .slice Ao61 x214002_1.length co61]) ?_ 1 _ rfl; (with_reducible repeat (first | refine blk_drewN ?_ _ | refine blk_drew ?_ | refine blk_alloc ?_ _)); refine blk_put (cs := #[.int .i64 x214000_1, .int .i64 x214001_1, .slice Ao61 x214002_1.length co61]) ?_ 0 _ rfl; (with_reducible repeat (first | refine blk_drewN ?_ _ | refine blk_drew ?_ | refine blk_alloc ?_ _)); exact BK213.out⟩, ⟨by repeat (first | (with_reducible first | exact HB.out | apply below_alloc | apply pw_below_drewN | apply below_drew1 | refine below_set ?_ GE213.out | refine below_set ?_ GE250.out) | exact HB.out)⟩⟩
                                    · replace c85 := Bool.eq_false_iff.mpr c85
                                      subst c85
                                      have H1 : (none) = some r := by rw [if_neg (show ¬ (false = true) by decide)] at H; exact H
                                      clear H
                                      have H := H1
                                      clear H1
                                      exact absurd H (by simp)
                                  · rw [if_neg c83] at H
                                    have c83b0 : ((x8_74.length : Int) == (wrap64 (1 + (wrap64 (Int.tmod a0 8))))) = false := beq_eq_false_iff_ne.mpr c83
                                    have c83b1 : ((x8_74.length : Int) != (wrap64 (1 + (wrap64 (Int.tmod a0 8))))) = true := bne_iff_ne.mpr c83
                                    by_cases c92 : (t246.length : Int) > 0
                                    · rw [if_pos c92] at H
                                      exact absurd H (by simp)
                                    · rw [if_neg c92] at H
                                      have c92b0 : decide (0 < (t246.length : Int)) = false := decide_eq_false c92
                                      have c92b1 : decide (0 < t246.length) = false := decide_eq_false (by omega)
                                      clear c92
                                      have H' := Aside0.mk H
                                      clear H
                                      obtain ⟨Ao93, co93, eo93⟩ := Kd.R_slice HO_8.out
                                      subst eo93
                                      obtain ⟨Ao94, co94, eo94⟩ := Kd.R_slice HO_19.out
                                      subst eo94
                                      have hnb95 := NB250_213.out
                                      have hnc95 := NB213_250.out
                                      have hcz96_0 : wc.cell? ⟨gb250, 0, none⟩ = some (.int .i64 t241) := (blk_cell BK250.out 0).trans rfl
                                      have hcz96_1 : wc.cell? ⟨gb250, 1, none⟩ = some (.int .i64 t242) := (blk_cell BK250.out 1).trans rfl
                                      have hcz96_2 : wc.cell? ⟨gb250, 2, none⟩ = some (.slice Ao66 t243.length co66) := (blk_cell BK250.out 2).trans rfl
                                      have hfz96_0 := blk_frozen BK250.out 0
                                      have hfz96_1 := blk_frozen BK250.out 1
                                      have hfz96_2 := blk_frozen BK250.out 2
                                      have hcz97_0 : wc.cell? ⟨gb213, 0, none⟩ = some (.int .i64 x214000_1) := (blk_cell BK213.out 0).trans rfl
                                      have hcz97_1 : wc.cell? ⟨gb213, 1, none⟩ = some (.int .i64 x214001_1) := (blk_cell BK213.out 1).trans rfl
                                      have hcz97_2 : wc.cell? ⟨gb213, 2, none⟩ = some (.slice Ao61 x214002_1.length co61) := (blk_cell BK213.out 2).trans rfl
                                      have hfz97_0 := blk_frozen BK213.out 0
                                      have hfz97_1 := blk_frozen BK213.out 1
                                      have hfz97_2 := blk_frozen BK213.out 2
                                      go_wp2
                                      go_meet
                                      case rel => exact ⟨_, (x8_74), (x9_1), (t241), (t242), (t243), (.slice Ao66 t243.length co66), (by first | rfl | (simp; done) | (simp [*]; done)), H', ⟨by have := HK1.out; have := HK2.out; have := HJ58.out; have := HJ74.out; first | omega | exact Nat.le_refl _⟩, ⟨by (with_reducible repeat (first | apply Kd.R_alloc | apply Kd.R_drewN | apply Kd.R_drew)); exact Kd.R_mono (Kd.R_far (p := ⟨gb213, 2, none⟩) (Kd.R_far (p := ⟨gb213, 1, none⟩) (Kd.R_far (p := ⟨gb213, 0, none⟩) (Kd.R_types HO_8.out BK213.out (by decide)) (fun _ hk => hk.2) (.int .i64 t241)) (fun _ hk => hk.2) (.int .i64 t242)) (fun _ hk => hk.2) (.slice Ao66 t243.length co66)) (fun _ hk => trivial)⟩, ⟨by (with_reducible repeat (first | apply Kd.V_alloc | apply Kd.V_drewN | apply Kd.V_drew)); exact Kd.V_mono (Kd.V_far (p := ⟨gb213, 2, none⟩) (Kd.V_far (p := ⟨gb213, 1, none⟩) (Kd.V_far (p := ⟨gb213, 0, none⟩) (Kd.V_mono HO_251002.out (fun k_ hk => (⟨hk, hk.2.2.1⟩ : _ ∧ k_ ≠ gb213))) (fun _ hk => hk.2) (.int .i64 t241)) (fun _ hk => hk.2) (.int .i64 t242)) (fun _ hk => hk.2) (.slice Ao66 t243.length co66)) (fun _ hk => ⟨hk.1.1, hk.1.2.2.1⟩)⟩, ⟨by (with_reducible repeat (first | refine blk_drewN ?_ _ | refine blk_drew ?_ | refine blk_alloc ?_ _)); refine blk_put (cs := #[.int .i64 t241, .int .i64 t242, .slice Ao61 x214002_1.length co61]) ?_ 2 _ rfl; (with_reducible repeat (first | refine blk_drewN ?_ _ | refine blk_drew ?_ | refine blk_alloc ?_ _)); refine blk_put (cs := #[.int .i64 t241, .int .i64 x214001_1, .slice Ao61 x214002_1.length co61]) ?_ 1 _ rfl; (with_reducible repeat (first | refine blk_drewN ?_ _ | refine blk_drew ?_ | refine blk_alloc ?_ _)); refine blk_put (cs := #[.int .i64 x214000_1, .int .i64 x214001_1, .slice Ao61 x214002_1.length co61]) ?_ 0 _ rfl; (with_reducible repeat (first | refine blk_drewN ?_ _ | refine blk_drew ?_ | refine blk_alloc ?_ _)); exact BK213.out⟩, ⟨by repeat (first | (with_reducible first | exact HB.out | apply below_alloc | apply pw_below_drewN | apply below_drew1 | refine below_set ?_ GE213.out | refine below_set ?_ GE250.out) | exact HB.out)⟩⟩
                    case rest =>
                      clear HC20
                      try clear c1
                      try clear c2
                      try clear p2
                      try clear q2
                      try clear hx2
                      try clear c3
                      try clear c4
                      try clear q4
                      try clear c5
                      try clear c6
                      try clear p6
                      try clear c7
                      try clear c8
                      try clear c9
                      try clear c12
                      try clear c15
                      try clear c15b0
                      try clear c16
                      try clear c16b0
                      try clear c17
                      try clear c17b0
                      try clear c18
                      try clear c18b0
                      try clear c18b1
                      try clear c19
                      try clear c19b0
                      try clear c19b1
                      try clear c21
                      try clear c21b0
                      try clear p21
                      try clear q21
                      try clear hx21
                      try clear c23
                      try clear c23b0
                      try clear c23b1
                      try clear c24
                      try clear c24b0
                      try clear c25
                      try clear c25b0
                      try clear c25b1
                      try clear c26
                      try clear c26b0
                      try clear c26b1
                      try clear c27
                      try clear c29
                      try clear c29b0
                      try clear c29b1
                      try clear c30
                      try clear c30b0
                      try clear c30b1
                      try clear c31
                      try clear c36
                      try clear q41
                      try clear c42
                      try clear q42
                      try clear c49
                      try clear c49b0
                      try clear c54
                      try clear c64
                      try clear p64
                      try clear c67
                      try clear c67b0
                      try clear c68
                      try clear c68b0
                      try clear c69
                      try clear c69b0
                      try clear c69b1
                      try clear c70
                      try clear c70b0
                      try clear c71
                      try clear c71b0
                      try clear c72
                      try clear c72b0
                      try clear c72b1
                      try clear c73
                      try clear c73b0
                      try clear c73b1
                      try clear c74
                      try clear c76
                      try clear c76b0
                      try clear c76b1
                      try clear c77
                      try clear c78
                      try clear c83
                      try clear c83b0
                      try clear c83b1
                      try clear c85
                      try clear c86
                      try clear c86b0
                      try clear c86b1
                      try clear c89
                      try clear c92
                      try clear c92b0
                      try clear c92b1
                      try clear c95
                      try clear hcz32_0
                      try clear hcz32_1
                      try clear hcz32_2
                      try clear hcz37_0
                      try clear hcz37_1
                      try clear hcz37_2
                      try clear hcz47_0
                      try clear hcz47_1
                      try clear hcz47_2
                      try clear hcz48_0
                      try clear hcz48_1
                      try clear hcz48_2
                      try clear hcz50_0
                      try clear hcz50_1
                      try clear hcz50_2
                      try clear hcz55_0
                      try clear hcz55_1
                      try clear hcz55_2
                      try clear hcz57_0
                      try clear hcz57_1
                      try clear hcz57_2
                      try clear hcz60_0
                      try clear hcz60_1
                      try clear hcz60_2
                      try clear hcz65_0
                      try clear hcz65_1
                      try clear hcz65_2
                      try clear hcz90_0
                      try clear hcz90_1
                      try clear hcz90_2
                      try clear hcz91_0
                      try clear hcz91_1
                      try clear hcz91_2
                      try clear hcz96_0
                      try clear hcz96_1
                      try clear hcz96_2
                      try clear hcz97_0
                      try clear hcz97_1
                      try clear hcz97_2
                      try clear hfz32_0
                      try clear hfz32_1
                      try clear hfz32_2
                      try clear hfz37_0
                      try clear hfz37_1
                      try clear hfz37_2
                      try clear hfz47_0
                      try clear hfz47_1
                      try clear hfz47_2
                      try clear hfz48_0
                      try clear hfz48_1
                      try clear hfz48_2
                      try clear hfz50_0
                      try clear hfz50_1
                      try clear hfz50_2
                      try clear hfz55_0
                      try clear hfz55_1
                      try clear hfz55_2
                      try clear hfz57_0
                      try clear hfz57_1
                      try clear hfz57_2
                      try clear hfz60_0
                      try clear hfz60_1
                      try clear hfz60_2
                      try clear hfz65_0
                      try clear hfz65_1
                      try clear hfz65_2
                      try clear hfz90_0
                      try clear hfz90_1
                      try clear hfz90_2
                      try clear hfz91_0
                      try clear hfz91_1
                      try clear hfz91_2
                      try clear hfz96_0
                      try clear hfz96_1
                      try clear hfz96_2
                      try clear hfz97_0
                      try clear hfz97_1
                      try clear hfz97_2
                      try clear hx216_0
                      try clear p2
                      try clear p21
                      try clear p216
                      try clear p6
                      try clear p64
                      try clear q042
                      try clear q2
                      try clear q21
                      try clear q216
                      try clear q4
                      try clear q41
                      try clear q42
                      obtain ⟨kq, x8_19, x9_19, x214000_19, x214001_19, x214002_19, u214002, rfl, HA, HJ19, HO_8, HO_214002, BK213, HB⟩ := hcut
                      cases kq with
                      | zero => exact absurd HA.out (by simp [handshakerlaw19_GateRounds.j4])
                      | succ kj19 =>
                        have H := HA.out
                        clear HA
                        simp only [handshakerlaw19_GateRounds.j4] at H
                        by_cases c98 : x214001_19 = x9_19
                        · rw [if_pos c98] at H
                          have c98b0 : (x214001_19 == x9_19) = true := beq_iff_eq.mpr c98
                          have c98b1 : (x214001_19 != x9_19) = false := bne_eq_false_iff_eq.mpr c98
                          clear c98
                          replace H := Option.bind_eq_some_iff.mp H
                          obtain ⟨t261, A990, H⟩ := H
                          replace H : (if t261 = true then ((gate_Right.f kj19 x214000_19 x214001_19 x214002_19).bind fun t262 => (if t262 = true then (handshakerlaw19_GateRounds.l0 kj19 (wrap64 (1 + (wrap64 (Int.tmod a0 8)))) t212 x8_19 x9_19 l1 (l1.length : Int) (wrap64 (x36_1 + 1)) x214000_19 x214001_19 x214002_19) else (none))) else (none)) = some r := H
                          have A99 := Aside0.mk A990
                          clear A990
                          by_cases c100 : t261 = true
                          · subst c100
                            have H1 : ((gate_Right.f kj19 x214000_19 x214001_19 x214002_19).bind fun t262 => (if t262 = true then (handshakerlaw19_GateRounds.l0 kj19 (wrap64 (1 + (wrap64 (Int.tmod a0 8)))) t212 x8_19 x9_19 l1 (l1.length : Int) (wrap64 (x36_1 + 1)) x214000_19 x214001_19 x214002_19) else (none))) = some r := by rw [if_pos rfl] at H; exact H
                            clear H
                            have H := H1
                            clear H1
                            replace H := Option.bind_eq_some_iff.mp H
                            obtain ⟨t262, A1010, H⟩ := H
                            replace H : (if t262 = true then (handshakerlaw19_GateRounds.l0 kj19 (wrap64 (1 + (wrap64 (Int.tmod a0 8)))) t212 x8_19 x9_19 l1 (l1.length : Int) (wrap64 (x36_1 + 1)) x214000_19 x214001_19 x214002_19) else (none)) = some r := H
                            have A101 := Aside0.mk A1010
                            clear A1010
                            by_cases c102 : t262 = true
                            · subst c102
                              have H1 : (handshakerlaw19_GateRounds.l0 kj19 (wrap64 (1 + (wrap64 (Int.tmod a0 8)))) t212 x8_19 x9_19 l1 (l1.length : Int) (wrap64 (x36_1 + 1)) x214000_19 x214001_19 x214002_19) = some r := by rw [if_pos rfl] at H; exact H
                              clear H
                              have H := H1
                              clear H1
                              have H' := Aside0.mk H
                              clear H
                              have hcz103_0 : wc.cell? ⟨gb213, 0, none⟩ = some (.int .i64 x214000_19) := (blk_cell BK213.out 0).trans rfl
                              have hcz103_1 : wc.cell? ⟨gb213, 1, none⟩ = some (.int .i64 x214001_19) := (blk_cell BK213.out 1).trans rfl
                              have hcz103_2 : wc.cell? ⟨gb213, 2, none⟩ = some (u214002) := (blk_cell BK213.out 2).trans rfl
                              have hfz103_0 := blk_frozen BK213.out 0
                              have hfz103_1 := blk_frozen BK213.out 1
                              have hfz103_2 := blk_frozen BK213.out 2
                              obtain ⟨Ao104, co104, eo104⟩ := Kd.V_slice HO_214002.out
                              subst eo104
                              obtain ⟨Ao105, co105, eo105⟩ := Kd.R_slice HO_8.out
                              subst eo105
                              go_wp2_with (first | (go_at_call 19; (with_reducible refine (handshakerref03_Numbers.calls kj19 _ _ x214002_19 _ _ x8_19 true _ ?side1 ?side2 ?side3 ?side4 A99.out).mono ?_); (case side1 => repeat (first | exact (Kd.V_reads' HO_214002.out).2.2 | (with_reducible refine Kd.C_alloc ?_ _) | (with_reducible refine Kd.C_drewN ?_ _) | (with_reducible refine Kd.C_drew ?_))); (case side2 => exact (Kd.V_reads' HO_214002.out).2.1); (case side3 => repeat (first | exact (Kd.R_reads' HO_8.out).2.2 | (with_reducible refine Kd.C_alloc ?_ _) | (with_reducible refine Kd.C_drewN ?_ _) | (with_reducible refine Kd.C_drew ?_))); (case side4 => exact (Kd.R_reads' HO_8.out).2.1); rintro e w' ⟨rfl, ⟨nd, rfl⟩⟩) | (go_at_call 16; (with_reducible refine (gate_Right.calls kj19 x214000_19 x214001_19 _ _ x214002_19 true _ ?side1 ?side2 A101.out).mono ?_); (case side1 => repeat (first | exact (Kd.V_reads' HO_214002.out).2.2 | (with_reducible refine Kd.C_alloc ?_ _) | (with_reducible refine Kd.C_drewN ?_ _) | (with_reducible refine Kd.C_drew ?_))); (case side2 => exact (Kd.V_reads' HO_214002.out).2.1); rintro e w106 ⟨rfl, hb⟩; have n0_ := Aside0.mk (Kd.R_below (by (with_reducible repeat (first | apply Kd.R_alloc | apply Kd.R_drewN | apply Kd.R_drew)); exact HO_8.out) hb); have n1_ := Aside0.mk (Kd.V_below (by (with_reducible repeat (first | apply Kd.V_alloc | apply Kd.V_drewN | apply Kd.V_drew)); exact HO_214002.out) hb); have n2_ := Aside0.mk (blk_below (g := gb213) (o := .cells #[.int .i64 x214000_19, .int .i64 x214001_19, .slice Ao104 x214002_19.length co104] 24 (0, 0)) (by (with_reducible repeat (first | refine blk_drewN ?_ _ | refine blk_drew ?_ | refine blk_alloc ?_ _)); exact BK213.out) hb); have n3_ := Aside0.mk (below_step (by repeat (first | (with_reducible first | exact HB.out | apply below_alloc | apply pw_below_drewN | apply below_drew1 | refine below_set ?_ GE213.out) | exact HB.out)) hb); clear HO_8; clear HO_214002; clear BK213; clear HB; have HO_8 := n0_; have HO_214002 := n1_; have BK213 := n2_; have HB := n3_; clear n0_ n1_ n2_ n3_; (try clear hb); (try clear hb2); (try clear hk); (try clear hi)))
                              go_roundg kj19
                              case measure => have := HK1.out; have := HK2.out; have := HJ19.out; omega
                              case rel => exact ⟨(x8_19), (x9_19), (wrap64 (x36_1 + 1)), (x214000_19), (x214001_19), (x214002_19), (.slice Ao104 x214002_19.length co104), (by first | rfl | (simp; done) | (simp [*]; done)), (by first | rfl | (simp; done) | (simp [*]; done)), H', ⟨by have := HK1.out; have := HK2.out; have := HJ19.out; omega⟩, ⟨by (with_reducible repeat (first | apply Kd.R_alloc | apply Kd.R_drewN | apply Kd.R_drew)); exact HO_8.out⟩, ⟨by (with_reducible repeat (first | apply Kd.V_alloc | apply Kd.V_drewN | apply Kd.V_drew)); exact HO_214002.out⟩, ⟨by (with_reducible repeat (first | refine blk_drewN ?_ _ | refine blk_drew ?_ | refine blk_alloc ?_ _)); exact BK213.out⟩, ⟨by repeat (first | (with_reducible first | exact HB.out | apply below_alloc | apply pw_below_drewN | apply below_drew1 | refine below_set ?_ GE213.out) | exact HB.out)⟩⟩
                            · replace c102 := Bool.eq_false_iff.mpr c102
                              subst c102
                              have H1 : (none) = some r := by rw [if_neg (show ¬ (false = true) by decide)] at H; exact H
                              clear H
                              have H := H1
                              clear H1
                              exact absurd H (by simp)
                          · replace c100 := Bool.eq_false_iff.mpr c100
                            subst c100
                            have H1 : (none) = some r := by rw [if_neg (show ¬ (false = true) by decide)] at H; exact H
                            clear H
                            have H := H1
                            clear H1
                            exact absurd H (by simp)
                        · rw [if_neg c98] at H
                          exact absurd H (by simp)
            · rw [if_neg c13] at H
              exact absurd H (by simp)
          · rw [if_neg c12] at H
            exact absurd H (by simp)
        · rw [if_neg c11] at H
          have c11b0 : decide (x36_1 < (l1.length : Int)) = false := decide_eq_false c11
          clear c11
          by_cases c107 : t212 = 0
          · rw [if_pos c107] at H
            have c107b0 : (t212 == 0) = true := beq_iff_eq.mpr c107
            have c107b1 : (t212 != 0) = false := bne_eq_false_iff_eq.mpr c107
            clear c107
            replace H := Option.bind_eq_some_iff.mp H
            obtain ⟨t214, A1080, H⟩ := H
            replace H : (some t214) = some r := H
            have A108 := Aside0.mk A1080
            clear A1080
            obtain rfl := Option.some.inj H
            go_wp2_with (first | (go_at_call 8; (with_reducible refine (handshakerlaw19_awake.calls k1  t214 _ A108.out).mono ?_); rintro e w109 ⟨rfl, hb⟩; have n0_ := Aside0.mk (Kd.R_below (by (with_reducible repeat (first | apply Kd.R_alloc | apply Kd.R_drewN | apply Kd.R_drew)); exact HO_8.out) hb); have n1_ := Aside0.mk (Kd.V_below (by (with_reducible repeat (first | apply Kd.V_alloc | apply Kd.V_drewN | apply Kd.V_drew)); exact HO_214002.out) hb); have n2_ := Aside0.mk (blk_below (g := gb213) (o := .cells #[.int .i64 x214000_1, .int .i64 x214001_1, u214002] 24 (0, 0)) (by (with_reducible repeat (first | refine blk_drewN ?_ _ | refine blk_drew ?_ | refine blk_alloc ?_ _)); exact BK213.out) hb); have n3_ := Aside0.mk (below_step (by repeat (first | (with_reducible first | exact HB.out | apply below_alloc | apply pw_below_drewN | apply below_drew1 | refine below_set ?_ GE213.out) | exact HB.out)) hb); clear HO_8; clear HO_214002; clear BK213; clear HB; have HO_8 := n0_; have HO_214002 := n1_; have BK213 := n2_; have HB := n3_; clear n0_ n1_ n2_ n3_; (try clear hb); (try clear hb2); (try clear hk); (try clear hi)))
            go_ret
            exact ⟨by first | rfl | (simp [errW_none, errW_some] <;> rfl) | (simp [*, errW_none, errW_some] <;> rfl), by repeat (first | (with_reducible first | exact HB.out | apply below_alloc | apply pw_below_drewN | apply below_drew1 | refine below_set ?_ GE213.out) | exact HB.out)⟩
          · rw [if_neg c107] at H
            exact absurd H (by simp)

/-- THE ONE PURE STATEMENT of handshakerlaw19_GateRounds: yours. -/
def handshakerlaw19_GateRounds.Pure : Prop := ∀ (a0 : Int) (l1 : List Int), (Lit.int .u8 a0).wf = true → l1.length ≤ maxLen → l1.length * 1 ≤ 140737488351232 → (∀ x ∈ l1, (Lit.int .i8 x).wf = true) → ∃ k, handshakerlaw19_GateRounds.f k a0 l1 = some true
theorem handshakerlaw19_GateRounds.walk (P : handshakerlaw19_GateRounds.Pure) (a0 : Int) (a1 : Option Addr) (len1 cap1 : Nat) (z1 : List Int) (w : World) (w0 : (Lit.int .u8 a0).wf = true) (w1 : (a1 = none ∧ len1 = 0 ∧ cap1 = 0 ∧ z1 = []) ∨ ∃ x, a1 = some x ∧ len1 ≤ cap1 ∧ cap1 ≤ maxLen ∧ z1.length = cap1 ∧ (∀ i, i < z1.length → w.cell? (x.add i) = some (.int .i8 (z1.getD i 0))) ∧ ∀ n ∈ z1, (Lit.int .i8 n).wf = true) (y1 : len1 * 1 ≤ 140737488351232) :
    Calls Try.prog 4 #[.int .u8 a0, .slice a1 len1 cap1] w fun e w' => e = .returned (.bool true) ∧ Below w.heap.size w w' := by
  obtain ⟨l1, rfl, hr1, hm1, hw1, hc1⟩ := ReadsInt.ofRowC w1
  obtain ⟨k, h⟩ := P a0 l1 w0 hm1 y1 hw1
  refine (handshakerlaw19_GateRounds.calls k a0 _ _ l1 true w (Kd.C_of_reads (d := (0 : Int)) (h1 := fun _ => rfl) hr1) hc1 h).mono ?_
  rintro e w' ⟨rfl, hd⟩
  exact ⟨rfl, hd⟩

end Go.Proofs.Ytablikjahajkkaa.PGateRounds
