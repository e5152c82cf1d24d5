/- Lean functions that say what functions of the given program compute, and proofs by walking the code that each call does just that; no condition but those that each statement names. -/
import Derived.Test.YtablikjahajkkaaPGateTellsx0
import Derived.Test.YtablikjahajkkaaPGateTellsx1
import Derived.Test.YtablikjahajkkaaPGateTellsx2
import Derived.Test.YtablikjahajkkaaPGateTellsx3
import Derived.Test.YtablikjahajkkaaPGateTellsx4
namespace Go.Proofs.Ytablikjahajkkaa.PGateTells
open Go.RowKit Go.Proofs.YtablikjahajkkaaW.PrintWords Go.Proofs.YtablikjahajkkaaW.PrintLast Go.Proofs.YtablikjahajkkaaW.PrintMore
attribute [local go_sem] max2_int min2_int max_two min_two max_three min_three max_four min_four   -- for this text's walks alone
set_option linter.unusedVariables false
set_option linter.unusedSimpArgs false

/-! ### handshakerlaw19_GateTells: function 3 -/
def handshakerlaw19_GateTells.j0 : Nat → Int → List Int → Int → List Int → Int → Int → Int → Bool → Int → Int → List Int → Int → Int → List Int → Int → Int → List Int → Int → Int → List Int → Int → Int → List Int → Option (Bool)
  | 0, _, _, _, _, _, _, _, _, _, _, _, _, _, _, _, _, _, _, _, _, _, _, _ => none
  | k + 1, x1, x6, x7, x9, x10, x12, x14, x89, x254000, x254001, x254002, x265000, x265001, x265002, x280000, x280001, x280002, x287000, x287001, x287002, x299000, x299001, x299002 => if x89 = true then (none) else ((gate_Right.f k x254000 x254001 x254002).bind fun t307 => ((handshakerlaw19_ref.f x254000 x254001 x254002).bind fun bt308 => ((handshakerref19_Right.f k bt308.1 bt308.2.1 bt308.2.2).bind fun t313 => (if (t307 == t313) = true then ((handshakerlaw19_ref.f x265000 x265001 x265002).bind fun bt314 => ((handshakerref19_Same.f k bt314.1 bt314.2.1 bt314.2.2 x280000 x280001 x280002).bind fun t319 => (if t319 = true then ((handshakerref03_Numbers.f k x6 x9).bind fun t320 => (if t320 = true then (if x7 = x10 then ((handshakerlaw19_ref.f x287000 x287001 x287002).bind fun bt321 => ((handshakerref19_Same.f k bt321.1 bt321.2.1 bt321.2.2 x299000 x299001 x299002).bind fun t326 => (if t326 = true then (if x12 = x14 then ((gate_Place.f k x254000 x254001 x254002 x1).bind fun t327 => ((handshakerlaw19_ref.f x254000 x254001 x254002).bind fun bt328 => ((handshakerref19_Place.f k bt328.1 bt328.2.1 bt328.2.2 x1).bind fun t333 => (if t327 = t333 then ((handshakerlaw19_awake.f k).bind fun t334 => (some t334)) else (none))))) else (none)) else (none)))) else (none)) else (none))) else (none)))) else (none)))))
def handshakerlaw19_GateTells.f (k : Nat) (a0_0 : Int) (a0_1 : Int) (l0_2 : List Int) (a1 : Int) : Option (Bool) := if (l0_2.length : Int) > 30 then ((handshakerlaw19_awake.f k).bind fun t254 => (some t254)) else ((gate_Come.f k a0_0 a0_1 l0_2 a1).bind fun bt255 => ((handshakerlaw19_ref.f a0_0 a0_1 l0_2).bind fun bt265 => ((handshakerref19_Come.f k bt265.1 bt265.2.1 bt265.2.2 a1).bind fun bt270 => ((gate_Leave.f k a0_0 a0_1 l0_2 a1).bind fun bt280 => ((handshakerlaw19_ref.f a0_0 a0_1 l0_2).bind fun bt287 => ((handshakerref19_Leave.f k bt287.1 bt287.2.1 bt287.2.2 a1).bind fun bt292 => ((gate_New.f k a1).bind fun bt299 => ((handshakerref03_Who.f a1).bind fun t306 => (if bt299.2.2.2 = 0 then (if t306 = true then (if bt299.1 = a1 then (if bt299.2.1 = 0 then (if (bt299.2.2.1.length : Int) = 0 then (handshakerlaw19_GateTells.j0 k a1 bt255.2.2.2.1 bt255.2.2.2.2 bt270.2.2.2.1 bt270.2.2.2.2 bt280.2.2.2 bt292.2.2.2 false a0_0 a0_1 l0_2 bt255.1 bt255.2.1 bt255.2.2.1 bt270.1 bt270.2.1 bt270.2.2.1 bt280.1 bt280.2.1 bt280.2.2.1 bt292.1 bt292.2.1 bt292.2.2.1) else (none)) else (none)) else (none)) else (none)) else (if t306 = true then (none) else (handshakerlaw19_GateTells.j0 k a1 bt255.2.2.2.1 bt255.2.2.2.2 bt270.2.2.2.1 bt270.2.2.2.2 bt280.2.2.2 bt292.2.2.2 (bt299.2.2.2 != 1) a0_0 a0_1 l0_2 bt255.1 bt255.2.1 bt255.2.2.1 bt270.1 bt270.2.1 bt270.2.2.1 bt280.1 bt280.2.1 bt280.2.2.1 bt292.1 bt292.2.1 bt292.2.2.1)))))))))))
theorem handshakerlaw19_GateTells.mono_l : ∀ k, (∀ y0 y1 y2 y3 y4 y5 y6 y7 y8 y9 y10 y11 y12 y13 y14 y15 y16 y17 y18 y19 y20 y21 y22, LeO (handshakerlaw19_GateTells.j0 k y0 y1 y2 y3 y4 y5 y6 y7 y8 y9 y10 y11 y12 y13 y14 y15 y16 y17 y18 y19 y20 y21 y22) (handshakerlaw19_GateTells.j0 (k + 1) y0 y1 y2 y3 y4 y5 y6 y7 y8 y9 y10 y11 y12 y13 y14 y15 y16 y17 y18 y19 y20 y21 y22))
  | 0 => fun _ _ _ _ _ _ _ _ _ _ _ _ _ _ _ _ _ _ _ _ _ _ _ r h => by simp [handshakerlaw19_GateTells.j0] at h
  | k + 1 => by
    have ih0 := handshakerlaw19_GateTells.mono_l k
    · intro y0 y1 y2 y3 y4 y5 y6 y7 y8 y9 y10 y11 y12 y13 y14 y15 y16 y17 y18 y19 y20 y21 y22
      unfold handshakerlaw19_GateTells.j0
      repeat' first
      | (with_reducible exact ih0 _ _ _ _ _ _ _ _ _ _ _ _ _ _ _ _ _ _ _ _ _ _ _)
      | (with_reducible exact gate_Come.mono _ _ _ _ _)
      | (with_reducible exact gate_Leave.mono _ _ _ _ _)
      | (with_reducible exact gate_New.mono _ _)
      | (with_reducible exact gate_Place.mono _ _ _ _ _)
      | (with_reducible exact gate_Right.mono _ _ _ _)
      | (with_reducible exact handshakerlaw19_awake.mono _)
      | (with_reducible exact handshakerref03_Numbers.mono _ _ _)
      | (with_reducible exact handshakerref19_Come.mono _ _ _ _ _)
      | (with_reducible exact handshakerref19_Leave.mono _ _ _ _ _)
      | (with_reducible exact handshakerref19_Place.mono _ _ _ _ _)
      | (with_reducible exact handshakerref19_Right.mono _ _ _ _)
      | (with_reducible exact handshakerref19_Same.mono _ _ _ _ _ _ _)
      | (with_reducible exact LeO.refl _)
      | (with_reducible exact LeO.none _)
      | (with_reducible refine LeO.ite ?_ ?_)
      | (with_reducible refine LeO.bind ?_ (fun _ => ?_))
      | exact ih0 _ _ _ _ _ _ _ _ _ _ _ _ _ _ _ _ _ _ _ _ _ _ _
      | exact gate_Come.mono _ _ _ _ _
      | exact gate_Leave.mono _ _ _ _ _
      | exact gate_New.mono _ _
      | exact gate_Place.mono _ _ _ _ _
      | exact gate_Right.mono _ _ _ _
      | exact handshakerlaw19_awake.mono _
      | exact handshakerref03_Numbers.mono _ _ _
      | exact handshakerref19_Come.mono _ _ _ _ _
      | exact handshakerref19_Leave.mono _ _ _ _ _
      | exact handshakerref19_Place.mono _ _ _ _ _
      | exact handshakerref19_Right.mono _ _ _ _
      | exact handshakerref19_Same.mono _ _ _ _ _ _ _
      | exact LeO.none _
      | refine LeO.ite ?_ ?_
      | refine LeO.bind ?_ (fun _ => ?_)
theorem handshakerlaw19_GateTells.mono : ∀ a0 a1 a2 a3 k, LeO (handshakerlaw19_GateTells.f k a0 a1 a2 a3) (handshakerlaw19_GateTells.f (k + 1) a0 a1 a2 a3) := by
  intro a0 a1 a2 a3 k
  have ih0 := handshakerlaw19_GateTells.mono_l k
  unfold handshakerlaw19_GateTells.f
  repeat' first
      | (with_reducible exact ih0 _ _ _ _ _ _ _ _ _ _ _ _ _ _ _ _ _ _ _ _ _ _ _)
      | (with_reducible exact gate_Come.mono _ _ _ _ _)
      | (with_reducible exact gate_Leave.mono _ _ _ _ _)
      | (with_reducible exact gate_New.mono _ _)
      | (with_reducible exact gate_Place.mono _ _ _ _ _)
      | (with_reducible exact gate_Right.mono _ _ _ _)
      | (with_reducible exact handshakerlaw19_awake.mono _)
      | (with_reducible exact handshakerref03_Numbers.mono _ _ _)
      | (with_reducible exact handshakerref19_Come.mono _ _ _ _ _)
      | (with_reducible exact handshakerref19_Leave.mono _ _ _ _ _)
      | (with_reducible exact handshakerref19_Place.mono _ _ _ _ _)
      | (with_reducible exact handshakerref19_Right.mono _ _ _ _)
      | (with_reducible exact handshakerref19_Same.mono _ _ _ _ _ _ _)
      | (with_reducible exact LeO.refl _)
      | (with_reducible exact LeO.none _)
      | (with_reducible refine LeO.ite ?_ ?_)
      | (with_reducible refine LeO.bind ?_ (fun _ => ?_))
      | exact ih0 _ _ _ _ _ _ _ _ _ _ _ _ _ _ _ _ _ _ _ _ _ _ _
      | exact gate_Come.mono _ _ _ _ _
      | exact gate_Leave.mono _ _ _ _ _
      | exact gate_New.mono _ _
      | exact gate_Place.mono _ _ _ _ _
      | exact gate_Right.mono _ _ _ _
      | exact handshakerlaw19_awake.mono _
      | exact handshakerref03_Numbers.mono _ _ _
      | exact handshakerref19_Come.mono _ _ _ _ _
      | exact handshakerref19_Leave.mono _ _ _ _ _
      | exact handshakerref19_Place.mono _ _ _ _ _
      | exact handshakerref19_Right.mono _ _ _ _
      | exact handshakerref19_Same.mono _ _ _ _ _ _ _
      | exact LeO.none _
      | refine LeO.ite ?_ ?_
      | refine LeO.bind ?_ (fun _ => ?_)
def handshakerlaw19_GateTells.T11 : Bool × List (List Nat × List Nat) := (true, [([], []), ([0], [0]), ([], []), ([2, 1], [2]), ([3, 3], [3]), ([1, 4], [1, 4]), ([5, 4], [5]), ([6], [6]), ([7, 6, 6], [6, 7]), ([6], [6]), ([8, 9, 8, 6], [6, 8, 9]), ([6, 10], [6, 10]), ([11, 10], [11]), ([12], [12]), ([12], [12]), ([13, 14, 12, 12], [12, 13, 14]), ([12, 15], [12, 15]), ([16, 15], [16]), ([17], [17]), ([17], [17]), ([18, 19, 17], [17, 18, 19]), ([17, 20], [17, 20]), ([21, 17], [21]), ([22], [22]), ([23, 22, 22], [22, 23]), ([22], [22]), ([24, 25, 24, 22], [22, 24, 25]), ([22, 26], [22, 26]), ([27, 26], [27]), ([28], [28]), ([28], [28]), ([29, 30, 28], [28, 29, 30]), ([28, 31], [28, 31]), ([32, 28], [32]), ([33], [33]), ([33], [33]), ([34, 35, 33, 33], [33, 34, 35]), ([33], [33]), ([37, 36, 33], [33, 37]), ([33], [33]), ([38, 39, 38, 33], [33, 38, 39]), ([36, 40, 33], [33, 36, 40]), ([33, 41], [33, 41]), ([42, 40], [42]), ([43, 43], [43]), ([43, 44], [43, 44]), ([45, 44, 0, 1, 2, 3, 4, 5, 6, 7, 8, 9, 10, 11, 12, 13, 14, 15, 16, 17, 18, 19, 20, 21, 22, 23, 24, 25, 26, 27, 28, 29, 30, 31, 32, 33, 34, 35, 36, 37, 38, 39, 40, 41, 42, 43, 44, 45], [45])])
def handshakerlaw19_GateTells.B11 : List Nat := [0, 1, 0, 7, 15, 31, 63, 127, 255, 127, 1023, 2047, 4095, 8191, 8191, 32767, 65535, 131071, 262143, 262143, 1048575, 2097151, 4194303, 8388607, 16777215, 8388607, 67108863, 134217727, 268435455, 536870911, 536870911, 2147483647, 4294967295, 8589934591, 17179869183, 17179869183, 68719476735, 17179869183, 274877906943, 17179869183, 1099511627775, 2199023255551, 4398046511103, 8796093022207, 17592186044415, 35184372088831, 70368744177663]
theorem handshakerlaw19_GateTells.tab11 : rtab .any (opsOf Try.f3 11) = handshakerlaw19_GateTells.T11 := by kernel_rfl
theorem handshakerlaw19_GateTells.bits11 : waitsOk handshakerlaw19_GateTells.T11.2 handshakerlaw19_GateTells.B11 = true := by kernel_rfl
set_option maxHeartbeats 8000000 in
set_option maxRecDepth 100000 in
theorem handshakerlaw19_GateTells.calls (k : Nat) (a0_0 : Int) (a0_1 : Int) (A0_2 : Option Addr) (c0_2 : Nat) (l0_2 : List Int) (a1 : Int) (r : Bool) (w : World) (hr0_2 : Kd.C (Kd.int .i64) w A0_2 l0_2.length l0_2) (hc0_2 : l0_2.length ≤ c0_2) (h : handshakerlaw19_GateTells.f k a0_0 a0_1 l0_2 a1 = some r) :
    Calls Try.prog 3 #[.agg #[.int .i64 a0_0, .int .i64 a0_1, .slice A0_2 l0_2.length c0_2], .int .i64 a1] w fun e w' => e = .returned (.bool r) ∧ Below w.heap.size w w' := by
  have hu24 := Try.underlying24
  have hu29 := Try.underlying29
  have HR0_2 := Aside0.mk hr0_2
  have HC0_2 := Aside0.mk hc0_2
  clear hr0_2 hc0_2
  have HB := Aside0.mk (Below.refl w.heap.size w)
  have H : (if (l0_2.length : Int) > 30 then ((handshakerlaw19_awake.f k).bind fun t254 => (some t254)) else ((gate_Come.f k a0_0 a0_1 l0_2 a1).bind fun bt255 => ((handshakerlaw19_ref.f a0_0 a0_1 l0_2).bind fun bt265 => ((handshakerref19_Come.f k bt265.1 bt265.2.1 bt265.2.2 a1).bind fun bt270 => ((gate_Leave.f k a0_0 a0_1 l0_2 a1).bind fun bt280 => ((handshakerlaw19_ref.f a0_0 a0_1 l0_2).bind fun bt287 => ((handshakerref19_Leave.f k bt287.1 bt287.2.1 bt287.2.2 a1).bind fun bt292 => ((gate_New.f k a1).bind fun bt299 => ((handshakerref03_Who.f a1).bind fun t306 => (if bt299.2.2.2 = 0 then (if t306 = true then (if bt299.1 = a1 then (if bt299.2.1 = 0 then (if (bt299.2.2.1.length : Int) = 0 then (handshakerlaw19_GateTells.j0 k a1 bt255.2.2.2.1 bt255.2.2.2.2 bt270.2.2.2.1 bt270.2.2.2.2 bt280.2.2.2 bt292.2.2.2 false a0_0 a0_1 l0_2 bt255.1 bt255.2.1 bt255.2.2.1 bt270.1 bt270.2.1 bt270.2.2.1 bt280.1 bt280.2.1 bt280.2.2.1 bt292.1 bt292.2.1 bt292.2.2.1) else (none)) else (none)) else (none)) else (none)) else (if t306 = true then (none) else (handshakerlaw19_GateTells.j0 k a1 bt255.2.2.2.1 bt255.2.2.2.2 bt270.2.2.2.1 bt270.2.2.2.2 bt280.2.2.2 bt292.2.2.2 (bt299.2.2.2 != 1) a0_0 a0_1 l0_2 bt255.1 bt255.2.1 bt255.2.2.1 bt270.1 bt270.2.1 bt270.2.2.1 bt280.1 bt280.2.1 bt280.2.2.1 bt292.1 bt292.2.1 bt292.2.2.1)))))))))))) = some r := h
  clear h
  by_cases c3 : (l0_2.length : Int) > 30
  · rw [if_pos c3] at H
    have c3b0 : decide (30 < (l0_2.length : Int)) = true := decide_eq_true c3
    have c3b1 : decide (30 < l0_2.length) = true := decide_eq_true (by omega)
    clear c3
    replace H := Option.bind_eq_some_iff.mp H
    obtain ⟨t254, A40, H⟩ := H
    replace H : (some t254) = some r := H
    have A4 := Aside0.mk A40
    clear A40
    obtain rfl := Option.some.inj H
    go_enter Try.func3, Try.ntmps3
    go_wp2_with (first | ((with_reducible refine gate_dst (N := 2) rfl ?_); (try (refine gate_guard (by rfl) ?_; dsimp only)); refine box_event ?hg (N := 2) ?hd (cs := #[.int .i64 a0_0, .int .i64 a0_1, .slice A0_2 l0_2.length c0_2]) (t := 24) ?hr ?_; (case hd => rfl); (case hg => rfl); (case hr => first | (go_simp; done) | (go_simp; rfl)); intro gb253 hg w5 hbox hb; have n0_ := Aside0.mk (below_step (by repeat (first | (with_reducible first | exact HB.out | apply below_alloc | apply pw_below_drewN | apply below_drew1) | exact HB.out)) hb); have n1_ := Aside0.mk (hbox); have n2_ := Aside0.mk ((by rw [hg]; exact (below_size (by repeat (first | (with_reducible first | exact HB.out | apply below_alloc | apply pw_below_drewN | apply below_drew1) | exact HB.out))) : w.heap.size ≤ gb253)); have n3_ := Aside0.mk ((by rw [hg]; exact (below_size (by repeat (first | (with_reducible first | exact HB.out | apply below_alloc | apply pw_below_drewN | apply below_drew1) | exact HB.out))) : w.heap.size ≤ gb253)); clear HB; have HB := n0_; have BK253 := n1_; have GW253 := n2_; have GE253 := n3_; clear n0_ n1_ n2_ n3_; clear hb hbox hg; have hcz6_0 : w5.cell? ⟨gb253, 0, none⟩ = some (.int .i64 a0_0) := (blk_cell BK253.out 0).trans rfl; have hcz6_1 : w5.cell? ⟨gb253, 1, none⟩ = some (.int .i64 a0_1) := (blk_cell BK253.out 1).trans rfl; have hcz6_2 : w5.cell? ⟨gb253, 2, none⟩ = some (.slice A0_2 l0_2.length c0_2) := (blk_cell BK253.out 2).trans rfl; have hfz6_0 := blk_frozen BK253.out 0; have hfz6_1 := blk_frozen BK253.out 1; have hfz6_2 := blk_frozen BK253.out 2) | ((with_reducible refine gate_callee (f := 8) rfl ?_); refine goesL_ (some 22) rfl rfl Try.func8 (by kernel_rfl) rfl #[] rfl (by (try simp only [List.map_toArray, List.map_cons, List.map_nil]); first | done | rfl | (simp only [List.length_drop, List.length_take]; rfl)) ?_; (with_reducible refine (handshakerlaw19_awake.calls k  t254 _ A4.out).mono ?_); rintro e w7 ⟨rfl, hb⟩; refine ⟨_, rfl, ?_⟩; have n0_ := Aside0.mk (blk_below (g := gb253) (o := .cells #[.int .i64 a0_0, .int .i64 a0_1, .slice A0_2 l0_2.length c0_2] 24 (0, 0)) (by (with_reducible repeat (first | refine blk_drewN ?_ _ | refine blk_drew ?_ | refine blk_alloc ?_ _)); exact BK253.out) hb); have n1_ := Aside0.mk (below_step (by repeat (first | (with_reducible first | exact HB.out | apply below_alloc | apply pw_below_drewN | apply below_drew1 | refine below_set ?_ GE253.out) | exact HB.out)) hb); clear BK253; clear HB; have BK253 := n0_; have HB := n1_; clear n0_ n1_; (try clear hb); (try clear hb2); (try clear hk); (try clear hi)))
    go_ret
    exact ⟨by first | rfl | (simp [errW_none, errW_some] <;> rfl) | (simp [*, errW_none, errW_some] <;> rfl), by repeat (first | (with_reducible first | exact HB.out | apply below_alloc | apply pw_below_drewN | apply below_drew1 | refine below_set ?_ GE253.out) | exact HB.out)⟩
  · rw [if_neg c3] at H
    have c3b0 : decide (30 < (l0_2.length : Int)) = false := decide_eq_false c3
    have c3b1 : decide (30 < l0_2.length) = false := decide_eq_false (by omega)
    clear c3
    replace H := Option.bind_eq_some_iff.mp H
    obtain ⟨⟨t255, t256, t257, t260, t263⟩, A80, H⟩ := H
    replace H : ((handshakerlaw19_ref.f a0_0 a0_1 l0_2).bind fun bt265 => ((handshakerref19_Come.f k bt265.1 bt265.2.1 bt265.2.2 a1).bind fun bt270 => ((gate_Leave.f k a0_0 a0_1 l0_2 a1).bind fun bt280 => ((handshakerlaw19_ref.f a0_0 a0_1 l0_2).bind fun bt287 => ((handshakerref19_Leave.f k bt287.1 bt287.2.1 bt287.2.2 a1).bind fun bt292 => ((gate_New.f k a1).bind fun bt299 => ((handshakerref03_Who.f a1).bind fun t306 => (if bt299.2.2.2 = 0 then (if t306 = true then (if bt299.1 = a1 then (if bt299.2.1 = 0 then (if (bt299.2.2.1.length : Int) = 0 then (handshakerlaw19_GateTells.j0 k a1 t260 t263 bt270.2.2.2.1 bt270.2.2.2.2 bt280.2.2.2 bt292.2.2.2 false a0_0 a0_1 l0_2 t255 t256 t257 bt270.1 bt270.2.1 bt270.2.2.1 bt280.1 bt280.2.1 bt280.2.2.1 bt292.1 bt292.2.1 bt292.2.2.1) else (none)) else (none)) else (none)) else (none)) else (if t306 = true then (none) else (handshakerlaw19_GateTells.j0 k a1 t260 t263 bt270.2.2.2.1 bt270.2.2.2.2 bt280.2.2.2 bt292.2.2.2 (bt299.2.2.2 != 1) a0_0 a0_1 l0_2 t255 t256 t257 bt270.1 bt270.2.1 bt270.2.2.1 bt280.1 bt280.2.1 bt280.2.2.1 bt292.1 bt292.2.1 bt292.2.2.1)))))))))) = some r := H
    have A8 := Aside0.mk A80
    clear A80
    replace H := Option.bind_eq_some_iff.mp H
    obtain ⟨⟨t265, t266, t267⟩, A90, H⟩ := H
    replace H : ((handshakerref19_Come.f k t265 t266 t267 a1).bind fun bt270 => ((gate_Leave.f k a0_0 a0_1 l0_2 a1).bind fun bt280 => ((handshakerlaw19_ref.f a0_0 a0_1 l0_2).bind fun bt287 => ((handshakerref19_Leave.f k bt287.1 bt287.2.1 bt287.2.2 a1).bind fun bt292 => ((gate_New.f k a1).bind fun bt299 => ((handshakerref03_Who.f a1).bind fun t306 => (if bt299.2.2.2 = 0 then (if t306 = true then (if bt299.1 = a1 then (if bt299.2.1 = 0 then (if (bt299.2.2.1.length : Int) = 0 then (handshakerlaw19_GateTells.j0 k a1 t260 t263 bt270.2.2.2.1 bt270.2.2.2.2 bt280.2.2.2 bt292.2.2.2 false a0_0 a0_1 l0_2 t255 t256 t257 bt270.1 bt270.2.1 bt270.2.2.1 bt280.1 bt280.2.1 bt280.2.2.1 bt292.1 bt292.2.1 bt292.2.2.1) else (none)) else (none)) else (none)) else (none)) else (if t306 = true then (none) else (handshakerlaw19_GateTells.j0 k a1 t260 t263 bt270.2.2.2.1 bt270.2.2.2.2 bt280.2.2.2 bt292.2.2.2 (bt299.2.2.2 != 1) a0_0 a0_1 l0_2 t255 t256 t257 bt270.1 bt270.2.1 bt270.2.2.1 bt280.1 bt280.2.1 bt280.2.2.1 bt292.1 bt292.2.1 bt292.2.2.1))))))))) = some r := H
    have A9 := Aside0.mk A90
    clear A90
    replace H := Option.bind_eq_some_iff.mp H
    obtain ⟨⟨t270, t271, t272, t275, t278⟩, A100, H⟩ := H
    replace H : ((gate_Leave.f k a0_0 a0_1 l0_2 a1).bind fun bt280 => ((handshakerlaw19_ref.f a0_0 a0_1 l0_2).bind fun bt287 => ((handshakerref19_Leave.f k bt287.1 bt287.2.1 bt287.2.2 a1).bind fun bt292 => ((gate_New.f k a1).bind fun bt299 => ((handshakerref03_Who.f a1).bind fun t306 => (if bt299.2.2.2 = 0 then (if t306 = true then (if bt299.1 = a1 then (if bt299.2.1 = 0 then (if (bt299.2.2.1.length : Int) = 0 then (handshakerlaw19_GateTells.j0 k a1 t260 t263 t275 t278 bt280.2.2.2 bt292.2.2.2 false a0_0 a0_1 l0_2 t255 t256 t257 t270 t271 t272 bt280.1 bt280.2.1 bt280.2.2.1 bt292.1 bt292.2.1 bt292.2.2.1) else (none)) else (none)) else (none)) else (none)) else (if t306 = true then (none) else (handshakerlaw19_GateTells.j0 k a1 t260 t263 t275 t278 bt280.2.2.2 bt292.2.2.2 (bt299.2.2.2 != 1) a0_0 a0_1 l0_2 t255 t256 t257 t270 t271 t272 bt280.1 bt280.2.1 bt280.2.2.1 bt292.1 bt292.2.1 bt292.2.2.1)))))))) = some r := H
    have A10 := Aside0.mk A100
    clear A100
    replace H := Option.bind_eq_some_iff.mp H
    obtain ⟨⟨t280, t281, t282, t285⟩, A110, H⟩ := H
    replace H : ((handshakerlaw19_ref.f a0_0 a0_1 l0_2).bind fun bt287 => ((handshakerref19_Leave.f k bt287.1 bt287.2.1 bt287.2.2 a1).bind fun bt292 => ((gate_New.f k a1).bind fun bt299 => ((handshakerref03_Who.f a1).bind fun t306 => (if bt299.2.2.2 = 0 then (if t306 = true then (if bt299.1 = a1 then (if bt299.2.1 = 0 then (if (bt299.2.2.1.length : Int) = 0 then (handshakerlaw19_GateTells.j0 k a1 t260 t263 t275 t278 t285 bt292.2.2.2 false a0_0 a0_1 l0_2 t255 t256 t257 t270 t271 t272 t280 t281 t282 bt292.1 bt292.2.1 bt292.2.2.1) else (none)) else (none)) else (none)) else (none)) else (if t306 = true then (none) else (handshakerlaw19_GateTells.j0 k a1 t260 t263 t275 t278 t285 bt292.2.2.2 (bt299.2.2.2 != 1) a0_0 a0_1 l0_2 t255 t256 t257 t270 t271 t272 t280 t281 t282 bt292.1 bt292.2.1 bt292.2.2.1))))))) = some r := H
    have A11 := Aside0.mk A110
    clear A110
    replace H := Option.bind_eq_some_iff.mp H
    obtain ⟨⟨t287, t288, t289⟩, A120, H⟩ := H
    replace H : ((handshakerref19_Leave.f k t287 t288 t289 a1).bind fun bt292 => ((gate_New.f k a1).bind fun bt299 => ((handshakerref03_Who.f a1).bind fun t306 => (if bt299.2.2.2 = 0 then (if t306 = true then (if bt299.1 = a1 then (if bt299.2.1 = 0 then (if (bt299.2.2.1.length : Int) = 0 then (handshakerlaw19_GateTells.j0 k a1 t260 t263 t275 t278 t285 bt292.2.2.2 false a0_0 a0_1 l0_2 t255 t256 t257 t270 t271 t272 t280 t281 t282 bt292.1 bt292.2.1 bt292.2.2.1) else (none)) else (none)) else (none)) else (none)) else (if t306 = true then (none) else (handshakerlaw19_GateTells.j0 k a1 t260 t263 t275 t278 t285 bt292.2.2.2 (bt299.2.2.2 != 1) a0_0 a0_1 l0_2 t255 t256 t257 t270 t271 t272 t280 t281 t282 bt292.1 bt292.2.1 bt292.2.2.1)))))) = some r := H
    have A12 := Aside0.mk A120
    clear A120
    replace H := Option.bind_eq_some_iff.mp H
    obtain ⟨⟨t292, t293, t294, t297⟩, A130, H⟩ := H
    replace H : ((gate_New.f k a1).bind fun bt299 => ((handshakerref03_Who.f a1).bind fun t306 => (if bt299.2.2.2 = 0 then (if t306 = true then (if bt299.1 = a1 then (if bt299.2.1 = 0 then (if (bt299.2.2.1.length : Int) = 0 then (handshakerlaw19_GateTells.j0 k a1 t260 t263 t275 t278 t285 t297 false a0_0 a0_1 l0_2 t255 t256 t257 t270 t271 t272 t280 t281 t282 t292 t293 t294) else (none)) else (none)) else (none)) else (none)) else (if t306 = true then (none) else (handshakerlaw19_GateTells.j0 k a1 t260 t263 t275 t278 t285 t297 (bt299.2.2.2 != 1) a0_0 a0_1 l0_2 t255 t256 t257 t270 t271 t272 t280 t281 t282 t292 t293 t294))))) = some r := H
    have A13 := Aside0.mk A130
    clear A130
    replace H := Option.bind_eq_some_iff.mp H
    obtain ⟨⟨t299, t300, t301, t304⟩, A140, H⟩ := H
    replace H : ((handshakerref03_Who.f a1).bind fun t306 => (if t304 = 0 then (if t306 = true then (if t299 = a1 then (if t300 = 0 then (if (t301.length : Int) = 0 then (handshakerlaw19_GateTells.j0 k a1 t260 t263 t275 t278 t285 t297 false a0_0 a0_1 l0_2 t255 t256 t257 t270 t271 t272 t280 t281 t282 t292 t293 t294) else (none)) else (none)) else (none)) else (none)) else (if t306 = true then (none) else (handshakerlaw19_GateTells.j0 k a1 t260 t263 t275 t278 t285 t297 (t304 != 1) a0_0 a0_1 l0_2 t255 t256 t257 t270 t271 t272 t280 t281 t282 t292 t293 t294)))) = some r := H
    have A14 := Aside0.mk A140
    clear A140
    replace H := Option.bind_eq_some_iff.mp H
    obtain ⟨t306, A150, H⟩ := H
    replace H : (if t304 = 0 then (if t306 = true then (if t299 = a1 then (if t300 = 0 then (if (t301.length : Int) = 0 then (handshakerlaw19_GateTells.j0 k a1 t260 t263 t275 t278 t285 t297 false a0_0 a0_1 l0_2 t255 t256 t257 t270 t271 t272 t280 t281 t282 t292 t293 t294) else (none)) else (none)) else (none)) else (none)) else (if t306 = true then (none) else (handshakerlaw19_GateTells.j0 k a1 t260 t263 t275 t278 t285 t297 (t304 != 1) a0_0 a0_1 l0_2 t255 t256 t257 t270 t271 t272 t280 t281 t282 t292 t293 t294))) = some r := H
    have A15 := Aside0.mk A150
    clear A150
    have HC16 := Aside0.mk H
    clear H
    go_enter Try.func3, Try.ntmps3
    go_upto_region 9 with (first | ((with_reducible refine gate_dst (N := 2) rfl ?_); (try (refine gate_guard (by rfl) ?_; dsimp only)); refine box_event ?hg (N := 2) ?hd (cs := #[.int .i64 a0_0, .int .i64 a0_1, .slice A0_2 l0_2.length c0_2]) (t := 24) ?hr ?_; (case hd => rfl); (case hg => rfl); (case hr => first | (go_simp; done) | (go_simp; rfl)); intro gb253 hg w17 hbox hb; have n0_ := Aside0.mk (below_step (by repeat (first | (with_reducible first | exact HB.out | apply below_alloc | apply pw_below_drewN | apply below_drew1) | exact HB.out)) hb); have n1_ := Aside0.mk (hbox); have n2_ := Aside0.mk ((by rw [hg]; exact (below_size (by repeat (first | (with_reducible first | exact HB.out | apply below_alloc | apply pw_below_drewN | apply below_drew1) | exact HB.out))) : w.heap.size ≤ gb253)); have n3_ := Aside0.mk ((by rw [hg]; exact (below_size (by repeat (first | (with_reducible first | exact HB.out | apply below_alloc | apply pw_below_drewN | apply below_drew1) | exact HB.out))) : w.heap.size ≤ gb253)); clear HB; have HB := n0_; have BK253 := n1_; have GW253 := n2_; have GE253 := n3_; clear n0_ n1_ n2_ n3_; clear hb hbox hg; have hcz18_0 : w17.cell? ⟨gb253, 0, none⟩ = some (.int .i64 a0_0) := (blk_cell BK253.out 0).trans rfl; have hcz18_1 : w17.cell? ⟨gb253, 1, none⟩ = some (.int .i64 a0_1) := (blk_cell BK253.out 1).trans rfl; have hcz18_2 : w17.cell? ⟨gb253, 2, none⟩ = some (.slice A0_2 l0_2.length c0_2) := (blk_cell BK253.out 2).trans rfl; have hfz18_0 := blk_frozen BK253.out 0; have hfz18_1 := blk_frozen BK253.out 1; have hfz18_2 := blk_frozen BK253.out 2) | ((with_reducible refine gate_callee (f := 9) rfl ?_); refine goesL_ (some 26) rfl rfl Try.func9 (by kernel_rfl) rfl #[.agg #[.int .i64 a0_0, .int .i64 a0_1, .slice A0_2 l0_2.length c0_2], .int .i64 a1] rfl (by (try simp only [List.map_toArray, List.map_cons, List.map_nil]); first | done | rfl | (simp only [List.length_drop, List.length_take]; rfl)) ?_; (with_reducible refine (gate_Come.calls k a0_0 a0_1 (fun k_ => k_ < w.heap.size) _ _ l0_2 a1 t255 t256 t257 t260 t263 _ ?side1 A8.out).mono ?_); (case side1 => exact Kd.V_mk HC0_2.out (Kd.F_below (Kd.C_F (Kd.heap_int .i64) HR0_2.out) (by repeat (first | (with_reducible first | exact HB.out | apply below_alloc | apply pw_below_drewN | apply below_drew1 | refine below_set ?_ GE253.out) | exact HB.out)))); rintro e w19 ⟨v258, v261, rfl, ho0, ho1, hb⟩; refine ⟨_, rfl, ?_⟩; have n0_ := Aside0.mk (Kd.V_lower (Kd.V_mono (ok' := fun k_ => some k_ ≠ (v261 : Value).ownBlock ∧ k_ ≠ gb253) ho0 (fun k_ hk_ => ⟨hk_.2, Or.elim hk_.1 (fun hs_ => fun e_ => Nat.not_le.2 hs_ (by rw [e_]; exact GW253.out)) (fun hn_ => (Kd.freshB (g := gb253) (o := .cells #[.int .i64 a0_0, .int .i64 a0_1, .slice A0_2 l0_2.length c0_2] 24 (0, 0)) (by (with_reducible repeat (first | refine blk_drewN ?_ _ | refine blk_drew ?_ | refine blk_alloc ?_ _)); exact BK253.out) k_ hn_))⟩)) (below_size (by repeat (first | (with_reducible first | exact HB.out | apply below_alloc | apply pw_below_drewN | apply below_drew1 | refine below_set ?_ GE253.out) | exact HB.out)))); have n1_ := Aside0.mk (Kd.R_lower (Kd.R_mono (ok' := fun k_ => True) ho1 (fun _ hk_ => trivial)) (below_size (by repeat (first | (with_reducible first | exact HB.out | apply below_alloc | apply pw_below_drewN | apply below_drew1 | refine below_set ?_ GE253.out) | exact HB.out)))); have n2_ := Aside0.mk (blk_below (g := gb253) (o := .cells #[.int .i64 a0_0, .int .i64 a0_1, .slice A0_2 l0_2.length c0_2] 24 (0, 0)) (by (with_reducible repeat (first | refine blk_drewN ?_ _ | refine blk_drew ?_ | refine blk_alloc ?_ _)); exact BK253.out) hb); have n3_ := Aside0.mk (below_step (by repeat (first | (with_reducible first | exact HB.out | apply below_alloc | apply pw_below_drewN | apply below_drew1 | refine below_set ?_ GE253.out) | exact HB.out)) hb); clear BK253; clear HB; have HO259 := n0_; have HO262 := n1_; have BK253 := n2_; have HB := n3_; clear n0_ n1_ n2_ n3_; (try clear hb); (try clear hb2); (try clear hk); (try clear hi); (try clear ho0); (try clear ho1)) | ((with_reducible refine gate_dst (N := 5) rfl ?_); (try (refine gate_guard (by rfl) ?_; dsimp only)); refine box_event ?hg (N := 5) ?hd (cs := #[.int .i64 0, .int .i64 0, .slice none 0 0]) (t := 24) ?hr ?_; (case hd => rfl); (case hg => rfl); (case hr => first | (go_simp; done) | (go_simp; rfl)); intro gb264 hg w20 hbox hb; have n0_ := Aside0.mk (Kd.V_below (Kd.V_elderB (by (with_reducible repeat (first | apply Kd.V_alloc | apply Kd.V_drewN | apply Kd.V_drew)); exact HO259.out) gb264 (Nat.le_of_eq hg.symm)) hb); have n1_ := Aside0.mk (Kd.R_below (by (with_reducible repeat (first | apply Kd.R_alloc | apply Kd.R_drewN | apply Kd.R_drew)); exact HO262.out) hb); have n2_ := Aside0.mk (blk_below (g := gb253) (o := .cells #[.int .i64 a0_0, .int .i64 a0_1, .slice A0_2 l0_2.length c0_2] 24 (0, 0)) (by (with_reducible repeat (first | refine blk_drewN ?_ _ | refine blk_drew ?_ | refine blk_alloc ?_ _)); exact BK253.out) hb); have n3_ := Aside0.mk (below_step (by repeat (first | (with_reducible first | exact HB.out | apply below_alloc | apply pw_below_drewN | apply below_drew1 | refine below_set ?_ GE253.out) | exact HB.out)) hb); have n4_ := Aside0.mk (hbox); have n5_ := Aside0.mk ((by rw [hg]; exact (below_size (by repeat (first | (with_reducible first | exact HB.out | apply below_alloc | apply pw_below_drewN | apply below_drew1 | refine below_set ?_ GE253.out) | exact HB.out))) : w.heap.size ≤ gb264)); have n6_ := Aside0.mk ((by rw [hg]; exact (below_size (by repeat (first | (with_reducible first | exact HB.out | apply below_alloc | apply pw_below_drewN | apply below_drew1 | refine below_set ?_ GE253.out) | exact HB.out))) : w.heap.size ≤ gb264)); have n7_ := Aside0.mk ((by rw [hg]; exact Nat.ne_of_lt (blk_lt (g := gb253) (o := .cells #[.int .i64 a0_0, .int .i64 a0_1, .slice A0_2 l0_2.length c0_2] 24 (0, 0)) (by (with_reducible repeat (first | refine blk_drewN ?_ _ | refine blk_drew ?_ | refine blk_alloc ?_ _)); exact BK253.out)) : gb253 ≠ gb264)); have n8_ := Aside0.mk ((by rw [hg]; exact Nat.ne_of_gt (blk_lt (g := gb253) (o := .cells #[.int .i64 a0_0, .int .i64 a0_1, .slice A0_2 l0_2.length c0_2] 24 (0, 0)) (by (with_reducible repeat (first | refine blk_drewN ?_ _ | refine blk_drew ?_ | refine blk_alloc ?_ _)); exact BK253.out)) : gb264 ≠ gb253)); clear HO259; clear HO262; clear BK253; clear HB; have HO259 := n0_; have HO262 := n1_; have BK253 := n2_; have HB := n3_; have BK264 := n4_; have GW264 := n5_; have GE264 := n6_; have NB253_264 := n7_; have NB264_253 := n8_; clear n0_ n1_ n2_ n3_ n4_ n5_ n6_ n7_ n8_; clear hb hbox hg; have hnb21 := NB264_253.out; have hnc21 := NB253_264.out; have hcz22_0 : w20.cell? ⟨gb264, 0, none⟩ = some (.int .i64 0) := (blk_cell BK264.out 0).trans rfl; have hcz22_1 : w20.cell? ⟨gb264, 1, none⟩ = some (.int .i64 0) := (blk_cell BK264.out 1).trans rfl; have hcz22_2 : w20.cell? ⟨gb264, 2, none⟩ = some (.slice none 0 0) := (blk_cell BK264.out 2).trans rfl; have hfz22_0 := blk_frozen BK264.out 0; have hfz22_1 := blk_frozen BK264.out 1; have hfz22_2 := blk_frozen BK264.out 2; obtain ⟨Ao23, co23, eo23⟩ := Kd.V_slice HO259.out; subst eo23) | ((with_reducible refine gate_store (t := 24) (p := 5) rfl ?_); refine store_event (t := 24) (p := 5) (v := ?vo_w24) (w1 := (((w20.setCell ⟨gb264, 0, none⟩ (.int .i64 t255)).setCell ⟨gb264, 1, none⟩ (.int .i64 t256)).setCell ⟨gb264, 2, none⟩ (.slice Ao23 t257.length co23))) ?hg ?ho ?hn ?hr ?_; (case ho => rfl); (case hg => rfl); (case hn => rfl); (case hr => first | (go_simp; done) | (go_simp; rfl)); intro w24 hw; have n0_ : Aside0 (Kd.V (Kd.int .i64) 3 w24 w.heap.size (fun k_ => some k_ ≠ (v261 : Value).ownBlock ∧ k_ ≠ gb253 ∧ k_ ≠ gb264) (.slice Ao23 t257.length co23) t257) := ⟨(by rw [hw]; exact (by (with_reducible repeat (first | apply Kd.V_alloc | apply Kd.V_drewN | apply Kd.V_drew)); exact Kd.V_mono (Kd.V_far (p := ⟨gb264, 2, none⟩) (Kd.V_far (p := ⟨gb264, 1, none⟩) (Kd.V_far (p := ⟨gb264, 0, none⟩) (Kd.V_mono HO259.out (fun k_ hk => (⟨hk, hk.2⟩ : _ ∧ k_ ≠ gb264))) (fun _ hk => hk.2) (.int .i64 t255)) (fun _ hk => hk.2) (.int .i64 t256)) (fun _ hk => hk.2) (.slice Ao23 t257.length co23)) (fun _ hk => ⟨hk.1.1.1, ⟨hk.1.1.2, hk.1.2⟩⟩)))⟩; have n1_ : Aside0 (Kd.R (Kd.int .i64) 3 w24 w.heap.size (fun _ => True) v261 t260) := ⟨(by rw [hw]; exact (by (with_reducible repeat (first | apply Kd.R_alloc | apply Kd.R_drewN | apply Kd.R_drew)); exact Kd.R_mono (Kd.R_far (p := ⟨gb264, 2, none⟩) (Kd.R_far (p := ⟨gb264, 1, none⟩) (Kd.R_far (p := ⟨gb264, 0, none⟩) (Kd.R_types HO262.out BK264.out (by decide)) (fun _ hk => hk.2) (.int .i64 t255)) (fun _ hk => hk.2) (.int .i64 t256)) (fun _ hk => hk.2) (.slice Ao23 t257.length co23)) (fun _ hk => trivial)))⟩; have n2_ : Aside0 (w24.heap[gb253]? = some (.cells #[.int .i64 a0_0, .int .i64 a0_1, .slice A0_2 l0_2.length c0_2] 24 (0, 0))) := ⟨(by rw [hw]; exact (by (with_reducible repeat (first | refine blk_drewN ?_ _ | refine blk_drew ?_ | refine blk_alloc ?_ _)); refine blk_far ?_ NB253_264.out _; (with_reducible repeat (first | refine blk_drewN ?_ _ | refine blk_drew ?_ | refine blk_alloc ?_ _)); refine blk_far ?_ NB253_264.out _; (with_reducible repeat (first | refine blk_drewN ?_ _ | refine blk_drew ?_ | refine blk_alloc ?_ _)); refine blk_far ?_ NB253_264.out _; (with_reducible repeat (first | refine blk_drewN ?_ _ | refine blk_drew ?_ | refine blk_alloc ?_ _)); exact BK253.out))⟩; have n3_ : Aside0 (w24.heap[gb264]? = some (.cells #[.int .i64 t255, .int .i64 t256, .slice Ao23 t257.length co23] 24 (0, 0))) := ⟨(by rw [hw]; exact (by (with_reducible repeat (first | refine blk_drewN ?_ _ | refine blk_drew ?_ | refine blk_alloc ?_ _)); refine blk_put (cs := #[.int .i64 t255, .int .i64 t256, .slice none 0 0]) ?_ 2 _ rfl; (with_reducible repeat (first | refine blk_drewN ?_ _ | refine blk_drew ?_ | refine blk_alloc ?_ _)); refine blk_put (cs := #[.int .i64 t255, .int .i64 0, .slice none 0 0]) ?_ 1 _ rfl; (with_reducible repeat (first | refine blk_drewN ?_ _ | refine blk_drew ?_ | refine blk_alloc ?_ _)); refine blk_put (cs := #[.int .i64 0, .int .i64 0, .slice none 0 0]) ?_ 0 _ rfl; (with_reducible repeat (first | refine blk_drewN ?_ _ | refine blk_drew ?_ | refine blk_alloc ?_ _)); exact BK264.out))⟩; have n4_ : Aside0 (Below w.heap.size w w24) := ⟨(by rw [hw]; exact (by repeat (first | (with_reducible first | exact HB.out | apply below_alloc | apply pw_below_drewN | apply below_drew1 | refine below_set ?_ GE253.out | refine below_set ?_ GE264.out) | exact HB.out)))⟩; clear hw; clear HO259; clear HO262; clear BK253; clear BK264; clear HB; have HO259 := n0_; have HO262 := n1_; have BK253 := n2_; have BK264 := n3_; have HB := n4_; clear n0_ n1_ n2_ n3_ n4_; have hcz25_0 : w24.cell? ⟨gb253, 0, none⟩ = some (.int .i64 a0_0) := (blk_cell BK253.out 0).trans rfl; have hcz25_1 : w24.cell? ⟨gb253, 1, none⟩ = some (.int .i64 a0_1) := (blk_cell BK253.out 1).trans rfl; have hcz25_2 : w24.cell? ⟨gb253, 2, none⟩ = some (.slice A0_2 l0_2.length c0_2) := (blk_cell BK253.out 2).trans rfl; have hfz25_0 := blk_frozen BK253.out 0; have hfz25_1 := blk_frozen BK253.out 1; have hfz25_2 := blk_frozen BK253.out 2) | ((with_reducible refine gate_callee (f := 11) rfl ?_); refine goesL_ (some 32) rfl rfl Try.func11 (by kernel_rfl) rfl #[.agg #[.int .i64 a0_0, .int .i64 a0_1, .slice A0_2 l0_2.length c0_2]] rfl (by (try simp only [List.map_toArray, List.map_cons, List.map_nil]); first | done | rfl | (simp only [List.length_drop, List.length_take]; rfl)) ?_; (with_reducible refine (handshakerlaw19_ref.calls a0_0 a0_1 (fun k_ => k_ < w.heap.size) _ _ l0_2 t265 t266 t267 _ ?side1 A9.out).mono ?_); (case side1 => exact Kd.V_mk HC0_2.out (Kd.F_below (Kd.C_F (Kd.heap_int .i64) HR0_2.out) (by repeat (first | (with_reducible first | exact HB.out | apply below_alloc | apply pw_below_drewN | apply below_drew1 | refine below_set ?_ GE253.out | refine below_set ?_ GE264.out) | exact HB.out)))); rintro e w26 ⟨v268, rfl, ho0, hb⟩; refine ⟨_, rfl, ?_⟩; have n0_ := Aside0.mk (Kd.V_below (by (with_reducible repeat (first | apply Kd.V_alloc | apply Kd.V_drewN | apply Kd.V_drew)); exact HO259.out) hb); have n1_ := Aside0.mk (Kd.R_below (by (with_reducible repeat (first | apply Kd.R_alloc | apply Kd.R_drewN | apply Kd.R_drew)); exact HO262.out) hb); have n2_ := Aside0.mk (Kd.V_lower (Kd.V_mono (ok' := fun k_ => some k_ ≠ (v261 : Value).ownBlock ∧ k_ ≠ gb253 ∧ k_ ≠ gb264) ho0 (fun k_ hk_ => ⟨Or.elim hk_ (fun hs_ => fun e_ => Nat.not_le.2 hs_ (Kd.R_base HO262.out k_ e_.symm)) (fun hn_ => (Kd.fresh' (Kd.R_lt (by (with_reducible repeat (first | apply Kd.R_alloc | apply Kd.R_drewN | apply Kd.R_drew)); exact HO262.out)) k_ hn_)), Or.elim hk_ (fun hs_ => fun e_ => Nat.not_le.2 hs_ (by rw [e_]; exact GW253.out)) (fun hn_ => (Kd.freshB (g := gb253) (o := .cells #[.int .i64 a0_0, .int .i64 a0_1, .slice A0_2 l0_2.length c0_2] 24 (0, 0)) (by (with_reducible repeat (first | refine blk_drewN ?_ _ | refine blk_drew ?_ | refine blk_alloc ?_ _)); exact BK253.out) k_ hn_)), Or.elim hk_ (fun hs_ => fun e_ => Nat.not_le.2 hs_ (by rw [e_]; exact GW264.out)) (fun hn_ => (Kd.freshB (g := gb264) (o := .cells #[.int .i64 t255, .int .i64 t256, .slice Ao23 t257.length co23] 24 (0, 0)) (by (with_reducible repeat (first | refine blk_drewN ?_ _ | refine blk_drew ?_ | refine blk_alloc ?_ _)); exact BK264.out) k_ hn_))⟩)) (below_size (by repeat (first | (with_reducible first | exact HB.out | apply below_alloc | apply pw_below_drewN | apply below_drew1 | refine below_set ?_ GE253.out | refine below_set ?_ GE264.out) | exact HB.out)))); have n3_ := Aside0.mk (blk_below (g := gb253) (o := .cells #[.int .i64 a0_0, .int .i64 a0_1, .slice A0_2 l0_2.length c0_2] 24 (0, 0)) (by (with_reducible repeat (first | refine blk_drewN ?_ _ | refine blk_drew ?_ | refine blk_alloc ?_ _)); exact BK253.out) hb); have n4_ := Aside0.mk (blk_below (g := gb264) (o := .cells #[.int .i64 t255, .int .i64 t256, .slice Ao23 t257.length co23] 24 (0, 0)) (by (with_reducible repeat (first | refine blk_drewN ?_ _ | refine blk_drew ?_ | refine blk_alloc ?_ _)); exact BK264.out) hb); have n5_ := Aside0.mk (below_step (by repeat (first | (with_reducible first | exact HB.out | apply below_alloc | apply pw_below_drewN | apply below_drew1 | refine below_set ?_ GE253.out | refine below_set ?_ GE264.out) | exact HB.out)) hb); clear HO259; clear HO262; clear BK253; clear BK264; clear HB; have HO259 := n0_; have HO262 := n1_; have HO269 := n2_; have BK253 := n3_; have BK264 := n4_; have HB := n5_; clear n0_ n1_ n2_ n3_ n4_ n5_; (try clear hb); (try clear hb2); (try clear hk); (try clear hi); (try clear ho0); obtain ⟨Ao27, co27, eo27⟩ := Kd.V_slice HO269.out; subst eo27) | ((with_reducible refine gate_callee (f := 10) rfl ?_); refine goesL_ (some 34) rfl rfl Try.func10 (by kernel_rfl) rfl #[.agg #[.int .i64 t265, .int .i64 t266, .slice Ao27 t267.length co27], .int .i64 a1] rfl (by (try simp only [List.map_toArray, List.map_cons, List.map_nil]); first | done | rfl | (simp only [List.length_drop, List.length_take]; rfl)) ?_; (with_reducible refine (handshakerref19_Come.calls k t265 t266 (fun k_ => (some k_ ≠ (v261 : Value).ownBlock ∧ (k_ ≠ gb253 ∧ k_ ≠ gb264))) _ _ t267 a1 t270 t271 t272 t275 t278 _ ?side1 A10.out).mono ?_); (case side1 => exact HO269.out); rintro e w28 ⟨v273, v276, rfl, ho0, ho1, hb⟩; refine ⟨_, rfl, ?_⟩; have n0_ := Aside0.mk (Kd.V_elder' (by (with_reducible repeat (first | apply Kd.V_alloc | apply Kd.V_drewN | apply Kd.V_drew)); exact HO259.out) (Kd.R_base ho1) hb); have n1_ := Aside0.mk (Kd.R_elder' (by (with_reducible repeat (first | apply Kd.R_alloc | apply Kd.R_drewN | apply Kd.R_drew)); exact HO262.out) (Kd.R_base ho1) hb); have n2_ := Aside0.mk (Kd.V_elder' (by (with_reducible repeat (first | apply Kd.V_alloc | apply Kd.V_drewN | apply Kd.V_drew)); exact HO269.out) (Kd.R_base ho1) hb); have n3_ := Aside0.mk (Kd.V_lower (Kd.V_mono (ok' := fun k_ => some k_ ≠ (v276 : Value).ownBlock ∧ some k_ ≠ (v261 : Value).ownBlock ∧ k_ ≠ gb253 ∧ k_ ≠ gb264) ho0 (fun k_ hk_ => ⟨hk_.2, Or.elim hk_.1 (fun hs_ => hs_.1) (fun hn_ => (Kd.fresh' (Kd.R_lt (by (with_reducible repeat (first | apply Kd.R_alloc | apply Kd.R_drewN | apply Kd.R_drew)); exact HO262.out)) k_ hn_)), Or.elim hk_.1 (fun hs_ => hs_.2.1) (fun hn_ => (Kd.freshB (g := gb253) (o := .cells #[.int .i64 a0_0, .int .i64 a0_1, .slice A0_2 l0_2.length c0_2] 24 (0, 0)) (by (with_reducible repeat (first | refine blk_drewN ?_ _ | refine blk_drew ?_ | refine blk_alloc ?_ _)); exact BK253.out) k_ hn_)), Or.elim hk_.1 (fun hs_ => hs_.2.2) (fun hn_ => (Kd.freshB (g := gb264) (o := .cells #[.int .i64 t255, .int .i64 t256, .slice Ao23 t257.length co23] 24 (0, 0)) (by (with_reducible repeat (first | refine blk_drewN ?_ _ | refine blk_drew ?_ | refine blk_alloc ?_ _)); exact BK264.out) k_ hn_))⟩)) (below_size (by repeat (first | (with_reducible first | exact HB.out | apply below_alloc | apply pw_below_drewN | apply below_drew1 | refine below_set ?_ GE253.out | refine below_set ?_ GE264.out) | exact HB.out)))); have n4_ := Aside0.mk (Kd.R_lower (Kd.R_new' (Kd.R_mono (ok' := fun k_ => True) ho1 (fun _ hk_ => trivial)) (Kd.R_lt (by (with_reducible repeat (first | apply Kd.R_alloc | apply Kd.R_drewN | apply Kd.R_drew)); exact HO262.out))) (below_size (by repeat (first | (with_reducible first | exact HB.out | apply below_alloc | apply pw_below_drewN | apply below_drew1 | refine below_set ?_ GE253.out | refine below_set ?_ GE264.out) | exact HB.out)))); have n5_ := Aside0.mk (blk_below (g := gb253) (o := .cells #[.int .i64 a0_0, .int .i64 a0_1, .slice A0_2 l0_2.length c0_2] 24 (0, 0)) (by (with_reducible repeat (first | refine blk_drewN ?_ _ | refine blk_drew ?_ | refine blk_alloc ?_ _)); exact BK253.out) hb); have n6_ := Aside0.mk (blk_below (g := gb264) (o := .cells #[.int .i64 t255, .int .i64 t256, .slice Ao23 t257.length co23] 24 (0, 0)) (by (with_reducible repeat (first | refine blk_drewN ?_ _ | refine blk_drew ?_ | refine blk_alloc ?_ _)); exact BK264.out) hb); have n7_ := Aside0.mk (below_step (by repeat (first | (with_reducible first | exact HB.out | apply below_alloc | apply pw_below_drewN | apply below_drew1 | refine below_set ?_ GE253.out | refine below_set ?_ GE264.out) | exact HB.out)) hb); clear HO259; clear HO262; clear HO269; clear BK253; clear BK264; clear HB; have HO259 := n0_; have HO262 := n1_; have HO269 := n2_; have HO274 := n3_; have HO277 := n4_; have BK253 := n5_; have BK264 := n6_; have HB := n7_; clear n0_ n1_ n2_ n3_ n4_ n5_ n6_ n7_; (try clear hb); (try clear hb2); (try clear hk); (try clear hi); (try clear ho0); (try clear ho1)) | ((with_reducible refine gate_dst (N := 8) rfl ?_); (try (refine gate_guard (by rfl) ?_; dsimp only)); refine box_event ?hg (N := 8) ?hd (cs := #[.int .i64 0, .int .i64 0, .slice none 0 0]) (t := 29) ?hr ?_; (case hd => rfl); (case hg => rfl); (case hr => first | (go_simp; done) | (go_simp; rfl)); intro gb279 hg w29 hbox hb; have n0_ := Aside0.mk (Kd.V_below (Kd.V_elderB (by (with_reducible repeat (first | apply Kd.V_alloc | apply Kd.V_drewN | apply Kd.V_drew)); exact HO259.out) gb279 (Nat.le_of_eq hg.symm)) hb); have n1_ := Aside0.mk (Kd.R_below (by (with_reducible repeat (first | apply Kd.R_alloc | apply Kd.R_drewN | apply Kd.R_drew)); exact HO262.out) hb); have n2_ := Aside0.mk (Kd.V_below (Kd.V_elderB (by (with_reducible repeat (first | apply Kd.V_alloc | apply Kd.V_drewN | apply Kd.V_drew)); exact HO269.out) gb279 (Nat.le_of_eq hg.symm)) hb); have n3_ := Aside0.mk (Kd.V_below (Kd.V_elderB (by (with_reducible repeat (first | apply Kd.V_alloc | apply Kd.V_drewN | apply Kd.V_drew)); exact HO274.out) gb279 (Nat.le_of_eq hg.symm)) hb); have n4_ := Aside0.mk (Kd.R_below (by (with_reducible repeat (first | apply Kd.R_alloc | apply Kd.R_drewN | apply Kd.R_drew)); exact HO277.out) hb); have n5_ := Aside0.mk (blk_below (g := gb253) (o := .cells #[.int .i64 a0_0, .int .i64 a0_1, .slice A0_2 l0_2.length c0_2] 24 (0, 0)) (by (with_reducible repeat (first | refine blk_drewN ?_ _ | refine blk_drew ?_ | refine blk_alloc ?_ _)); exact BK253.out) hb); have n6_ := Aside0.mk (blk_below (g := gb264) (o := .cells #[.int .i64 t255, .int .i64 t256, .slice Ao23 t257.length co23] 24 (0, 0)) (by (with_reducible repeat (first | refine blk_drewN ?_ _ | refine blk_drew ?_ | refine blk_alloc ?_ _)); exact BK264.out) hb); have n7_ := Aside0.mk (below_step (by repeat (first | (with_reducible first | exact HB.out | apply below_alloc | apply pw_below_drewN | apply below_drew1 | refine below_set ?_ GE253.out | refine below_set ?_ GE264.out) | exact HB.out)) hb); have n8_ := Aside0.mk (hbox); have n9_ := Aside0.mk ((by rw [hg]; exact (below_size (by repeat (first | (with_reducible first | exact HB.out | apply below_alloc | apply pw_below_drewN | apply below_drew1 | refine below_set ?_ GE253.out | refine below_set ?_ GE264.out) | exact HB.out))) : w.heap.size ≤ gb279)); have n10_ := Aside0.mk ((by rw [hg]; exact (below_size (by repeat (first | (with_reducible first | exact HB.out | apply below_alloc | apply pw_below_drewN | apply below_drew1 | refine below_set ?_ GE253.out | refine below_set ?_ GE264.out) | exact HB.out))) : w.heap.size ≤ gb279)); have n11_ := Aside0.mk ((by rw [hg]; exact Nat.ne_of_lt (blk_lt (g := gb253) (o := .cells #[.int .i64 a0_0, .int .i64 a0_1, .slice A0_2 l0_2.length c0_2] 24 (0, 0)) (by (with_reducible repeat (first | refine blk_drewN ?_ _ | refine blk_drew ?_ | refine blk_alloc ?_ _)); exact BK253.out)) : gb253 ≠ gb279)); have n12_ := Aside0.mk ((by rw [hg]; exact Nat.ne_of_gt (blk_lt (g := gb253) (o := .cells #[.int .i64 a0_0, .int .i64 a0_1, .slice A0_2 l0_2.length c0_2] 24 (0, 0)) (by (with_reducible repeat (first | refine blk_drewN ?_ _ | refine blk_drew ?_ | refine blk_alloc ?_ _)); exact BK253.out)) : gb279 ≠ gb253)); have n13_ := Aside0.mk ((by rw [hg]; exact Nat.ne_of_lt (blk_lt (g := gb264) (o := .cells #[.int .i64 t255, .int .i64 t256, .slice Ao23 t257.length co23] 24 (0, 0)) (by (with_reducible repeat (first | refine blk_drewN ?_ _ | refine blk_drew ?_ | refine blk_alloc ?_ _)); exact BK264.out)) : gb264 ≠ gb279)); have n14_ := Aside0.mk ((by rw [hg]; exact Nat.ne_of_gt (blk_lt (g := gb264) (o := .cells #[.int .i64 t255, .int .i64 t256, .slice Ao23 t257.length co23] 24 (0, 0)) (by (with_reducible repeat (first | refine blk_drewN ?_ _ | refine blk_drew ?_ | refine blk_alloc ?_ _)); exact BK264.out)) : gb279 ≠ gb264)); clear HO259; clear HO262; clear HO269; clear HO274; clear HO277; clear BK253; clear BK264; clear HB; have HO259 := n0_; have HO262 := n1_; have HO269 := n2_; have HO274 := n3_; have HO277 := n4_; have BK253 := n5_; have BK264 := n6_; have HB := n7_; have BK279 := n8_; have GW279 := n9_; have GE279 := n10_; have NB253_279 := n11_; have NB279_253 := n12_; have NB264_279 := n13_; have NB279_264 := n14_; clear n0_ n1_ n2_ n3_ n4_ n5_ n6_ n7_ n8_ n9_ n10_ n11_ n12_ n13_ n14_; clear hb hbox hg; have hnb30 := NB279_253.out; have hnc30 := NB253_279.out; have hnb31 := NB279_264.out; have hnc31 := NB264_279.out; have hcz32_0 : w29.cell? ⟨gb279, 0, none⟩ = some (.int .i64 0) := (blk_cell BK279.out 0).trans rfl; have hcz32_1 : w29.cell? ⟨gb279, 1, none⟩ = some (.int .i64 0) := (blk_cell BK279.out 1).trans rfl; have hcz32_2 : w29.cell? ⟨gb279, 2, none⟩ = some (.slice none 0 0) := (blk_cell BK279.out 2).trans rfl; have hfz32_0 := blk_frozen BK279.out 0; have hfz32_1 := blk_frozen BK279.out 1; have hfz32_2 := blk_frozen BK279.out 2; obtain ⟨Ao33, co33, eo33⟩ := Kd.V_slice HO274.out; subst eo33) | ((with_reducible refine gate_store (t := 29) (p := 8) rfl ?_); refine store_event (t := 29) (p := 8) (v := ?vo_w34) (w1 := (((w29.setCell ⟨gb279, 0, none⟩ (.int .i64 t270)).setCell ⟨gb279, 1, none⟩ (.int .i64 t271)).setCell ⟨gb279, 2, none⟩ (.slice Ao33 t272.length co33))) ?hg ?ho ?hn ?hr ?_; (case ho => rfl); (case hg => rfl); (case hn => rfl); (case hr => first | (go_simp; done) | (go_simp; rfl)); intro w34 hw; have n0_ : Aside0 (Kd.V (Kd.int .i64) 3 w34 w.heap.size (fun k_ => some k_ ≠ (v261 : Value).ownBlock ∧ some k_ ≠ (v276 : Value).ownBlock ∧ k_ ≠ gb253 ∧ k_ ≠ gb264 ∧ k_ ≠ gb279) (.slice Ao23 t257.length co23) t257) := ⟨(by rw [hw]; exact (by (with_reducible repeat (first | apply Kd.V_alloc | apply Kd.V_drewN | apply Kd.V_drew)); exact Kd.V_mono (Kd.V_far (p := ⟨gb279, 2, none⟩) (Kd.V_far (p := ⟨gb279, 1, none⟩) (Kd.V_far (p := ⟨gb279, 0, none⟩) (Kd.V_mono HO259.out (fun k_ hk => (⟨hk, hk.2⟩ : _ ∧ k_ ≠ gb279))) (fun _ hk => hk.2) (.int .i64 t270)) (fun _ hk => hk.2) (.int .i64 t271)) (fun _ hk => hk.2) (.slice Ao33 t272.length co33)) (fun _ hk => ⟨hk.1.1.1.1, ⟨hk.1.1.2, ⟨hk.1.1.1.2.1, ⟨hk.1.1.1.2.2, hk.1.2⟩⟩⟩⟩)))⟩; have n1_ : Aside0 (Kd.R (Kd.int .i64) 3 w34 w.heap.size (fun k_ => some k_ ≠ (v276 : Value).ownBlock) v261 t260) := ⟨(by rw [hw]; exact (by (with_reducible repeat (first | apply Kd.R_alloc | apply Kd.R_drewN | apply Kd.R_drew)); exact Kd.R_mono (Kd.R_far (p := ⟨gb279, 2, none⟩) (Kd.R_far (p := ⟨gb279, 1, none⟩) (Kd.R_far (p := ⟨gb279, 0, none⟩) (Kd.R_types HO262.out BK279.out (by decide)) (fun _ hk => hk.2) (.int .i64 t270)) (fun _ hk => hk.2) (.int .i64 t271)) (fun _ hk => hk.2) (.slice Ao33 t272.length co33)) (fun _ hk => hk.1.2)))⟩; have n2_ : Aside0 (Kd.V (Kd.int .i64) 3 w34 w.heap.size (fun k_ => some k_ ≠ (v261 : Value).ownBlock ∧ some k_ ≠ (v276 : Value).ownBlock ∧ k_ ≠ gb253 ∧ k_ ≠ gb264 ∧ k_ ≠ gb279) (.slice Ao27 t267.length co27) t267) := ⟨(by rw [hw]; exact (by (with_reducible repeat (first | apply Kd.V_alloc | apply Kd.V_drewN | apply Kd.V_drew)); exact Kd.V_mono (Kd.V_far (p := ⟨gb279, 2, none⟩) (Kd.V_far (p := ⟨gb279, 1, none⟩) (Kd.V_far (p := ⟨gb279, 0, none⟩) (Kd.V_mono HO269.out (fun k_ hk => (⟨hk, hk.2⟩ : _ ∧ k_ ≠ gb279))) (fun _ hk => hk.2) (.int .i64 t270)) (fun _ hk => hk.2) (.int .i64 t271)) (fun _ hk => hk.2) (.slice Ao33 t272.length co33)) (fun _ hk => ⟨hk.1.1.1.1, ⟨hk.1.1.2, ⟨hk.1.1.1.2.1, ⟨hk.1.1.1.2.2, hk.1.2⟩⟩⟩⟩)))⟩; have n3_ : Aside0 (Kd.V (Kd.int .i64) 3 w34 w.heap.size (fun k_ => some k_ ≠ (v261 : Value).ownBlock ∧ some k_ ≠ (v276 : Value).ownBlock ∧ k_ ≠ gb253 ∧ k_ ≠ gb264 ∧ k_ ≠ gb279) (.slice Ao33 t272.length co33) t272) := ⟨(by rw [hw]; exact (by (with_reducible repeat (first | apply Kd.V_alloc | apply Kd.V_drewN | apply Kd.V_drew)); exact Kd.V_mono (Kd.V_far (p := ⟨gb279, 2, none⟩) (Kd.V_far (p := ⟨gb279, 1, none⟩) (Kd.V_far (p := ⟨gb279, 0, none⟩) (Kd.V_mono HO274.out (fun k_ hk => (⟨hk, hk.2⟩ : _ ∧ k_ ≠ gb279))) (fun _ hk => hk.2) (.int .i64 t270)) (fun _ hk => hk.2) (.int .i64 t271)) (fun _ hk => hk.2) (.slice Ao33 t272.length co33)) (fun _ hk => ⟨hk.1.1.2.1, ⟨hk.1.1.1, ⟨hk.1.1.2.2.1, ⟨hk.1.1.2.2.2, hk.1.2⟩⟩⟩⟩)))⟩; have n4_ : Aside0 (Kd.R (Kd.int .i64) 3 w34 w.heap.size (fun k_ => some k_ ≠ (v261 : Value).ownBlock) v276 t275) := ⟨(by rw [hw]; exact (by (with_reducible repeat (first | apply Kd.R_alloc | apply Kd.R_drewN | apply Kd.R_drew)); exact Kd.R_mono (Kd.R_far (p := ⟨gb279, 2, none⟩) (Kd.R_far (p := ⟨gb279, 1, none⟩) (Kd.R_far (p := ⟨gb279, 0, none⟩) (Kd.R_types HO277.out BK279.out (by decide)) (fun _ hk => hk.2) (.int .i64 t270)) (fun _ hk => hk.2) (.int .i64 t271)) (fun _ hk => hk.2) (.slice Ao33 t272.length co33)) (fun _ hk => hk.1.2)))⟩; have n5_ : Aside0 (w34.heap[gb253]? = some (.cells #[.int .i64 a0_0, .int .i64 a0_1, .slice A0_2 l0_2.length c0_2] 24 (0, 0))) := ⟨(by rw [hw]; exact (by (with_reducible repeat (first | refine blk_drewN ?_ _ | refine blk_drew ?_ | refine blk_alloc ?_ _)); refine blk_far ?_ NB253_279.out _; (with_reducible repeat (first | refine blk_drewN ?_ _ | refine blk_drew ?_ | refine blk_alloc ?_ _)); refine blk_far ?_ NB253_279.out _; (with_reducible repeat (first | refine blk_drewN ?_ _ | refine blk_drew ?_ | refine blk_alloc ?_ _)); refine blk_far ?_ NB253_279.out _; (with_reducible repeat (first | refine blk_drewN ?_ _ | refine blk_drew ?_ | refine blk_alloc ?_ _)); exact BK253.out))⟩; have n6_ : Aside0 (w34.heap[gb264]? = some (.cells #[.int .i64 t255, .int .i64 t256, .slice Ao23 t257.length co23] 24 (0, 0))) := ⟨(by rw [hw]; exact (by (with_reducible repeat (first | refine blk_drewN ?_ _ | refine blk_drew ?_ | refine blk_alloc ?_ _)); refine blk_far ?_ NB264_279.out _; (with_reducible repeat (first | refine blk_drewN ?_ _ | refine blk_drew ?_ | refine blk_alloc ?_ _)); refine blk_far ?_ NB264_279.out _; (with_reducible repeat (first | refine blk_drewN ?_ _ | refine blk_drew ?_ | refine blk_alloc ?_ _)); refine blk_far ?_ NB264_279.out _; (with_reducible repeat (first | refine blk_drewN ?_ _ | refine blk_drew ?_ | refine blk_alloc ?_ _)); exact BK264.out))⟩; have n7_ : Aside0 (w34.heap[gb279]? = some (.cells #[.int .i64 t270, .int .i64 t271, .slice Ao33 t272.length co33] 29 (0, 0))) := ⟨(by rw [hw]; exact (by (with_reducible repeat (first | refine blk_drewN ?_ _ | refine blk_drew ?_ | refine blk_alloc ?_ _)); refine blk_put (cs := #[.int .i64 t270, .int .i64 t271, .slice none 0 0]) ?_ 2 _ rfl; (with_reducible repeat (first | refine blk_drewN ?_ _ | refine blk_drew ?_ | refine blk_alloc ?_ _)); refine blk_put (cs := #[.int .i64 t270, .int .i64 0, .slice none 0 0]) ?_ 1 _ rfl; (with_reducible repeat (first | refine blk_drewN ?_ _ | refine blk_drew ?_ | refine blk_alloc ?_ _)); refine blk_put (cs := #[.int .i64 0, .int .i64 0, .slice none 0 0]) ?_ 0 _ rfl; (with_reducible repeat (first | refine blk_drewN ?_ _ | refine blk_drew ?_ | refine blk_alloc ?_ _)); exact BK279.out))⟩; have n8_ : Aside0 (Below w.heap.size w w34) := ⟨(by rw [hw]; exact (by repeat (first | (with_reducible first | exact HB.out | apply below_alloc | apply pw_below_drewN | apply below_drew1 | refine below_set ?_ GE253.out | refine below_set ?_ GE264.out | refine below_set ?_ GE279.out) | exact HB.out)))⟩; clear hw; clear HO259; clear HO262; clear HO269; clear HO274; clear HO277; clear BK253; clear BK264; clear BK279; clear HB; have HO259 := n0_; have HO262 := n1_; have HO269 := n2_; have HO274 := n3_; have HO277 := n4_; have BK253 := n5_; have BK264 := n6_; have BK279 := n7_; have HB := n8_; clear n0_ n1_ n2_ n3_ n4_ n5_ n6_ n7_ n8_; have hcz35_0 : w34.cell? ⟨gb253, 0, none⟩ = some (.int .i64 a0_0) := (blk_cell BK253.out 0).trans rfl; have hcz35_1 : w34.cell? ⟨gb253, 1, none⟩ = some (.int .i64 a0_1) := (blk_cell BK253.out 1).trans rfl; have hcz35_2 : w34.cell? ⟨gb253, 2, none⟩ = some (.slice A0_2 l0_2.length c0_2) := (blk_cell BK253.out 2).trans rfl; have hfz35_0 := blk_frozen BK253.out 0; have hfz35_1 := blk_frozen BK253.out 1; have hfz35_2 := blk_frozen BK253.out 2) | ((with_reducible refine gate_callee (f := 12) rfl ?_); refine goesL_ (some 41) rfl rfl Try.func12 (by kernel_rfl) rfl #[.agg #[.int .i64 a0_0, .int .i64 a0_1, .slice A0_2 l0_2.length c0_2], .int .i64 a1] rfl (by (try simp only [List.map_toArray, List.map_cons, List.map_nil]); first | done | rfl | (simp only [List.length_drop, List.length_take]; rfl)) ?_; (with_reducible refine (gate_Leave.calls k a0_0 a0_1 (fun k_ => k_ < w.heap.size) _ _ l0_2 a1 t280 t281 t282 t285 _ ?side1 A11.out).mono ?_); (case side1 => exact Kd.V_mk HC0_2.out (Kd.F_below (Kd.C_F (Kd.heap_int .i64) HR0_2.out) (by repeat (first | (with_reducible first | exact HB.out | apply below_alloc | apply pw_below_drewN | apply below_drew1 | refine below_set ?_ GE253.out | refine below_set ?_ GE264.out | refine below_set ?_ GE279.out) | exact HB.out)))); rintro e w36 ⟨v283, rfl, ho0, hb⟩; refine ⟨_, rfl, ?_⟩; have n0_ := Aside0.mk (Kd.V_below (by (with_reducible repeat (first | apply Kd.V_alloc | apply Kd.V_drewN | apply Kd.V_drew)); exact HO259.out) hb); have n1_ := Aside0.mk (Kd.R_below (by (with_reducible repeat (first | apply Kd.R_alloc | apply Kd.R_drewN | apply Kd.R_drew)); exact HO262.out) hb); have n2_ := Aside0.mk (Kd.V_below (by (with_reducible repeat (first | apply Kd.V_alloc | apply Kd.V_drewN | apply Kd.V_drew)); exact HO269.out) hb); have n3_ := Aside0.mk (Kd.V_below (by (with_reducible repeat (first | apply Kd.V_alloc | apply Kd.V_drewN | apply Kd.V_drew)); exact HO274.out) hb); have n4_ := Aside0.mk (Kd.R_below (by (with_reducible repeat (first | apply Kd.R_alloc | apply Kd.R_drewN | apply Kd.R_drew)); exact HO277.out) hb); have n5_ := Aside0.mk (Kd.V_lower (Kd.V_mono (ok' := fun k_ => some k_ ≠ (v261 : Value).ownBlock ∧ some k_ ≠ (v276 : Value).ownBlock ∧ k_ ≠ gb253 ∧ k_ ≠ gb264 ∧ k_ ≠ gb279) ho0 (fun k_ hk_ => ⟨Or.elim hk_ (fun hs_ => fun e_ => Nat.not_le.2 hs_ (Kd.R_base HO262.out k_ e_.symm)) (fun hn_ => (Kd.fresh' (Kd.R_lt (by (with_reducible repeat (first | apply Kd.R_alloc | apply Kd.R_drewN | apply Kd.R_drew)); exact HO262.out)) k_ hn_)), Or.elim hk_ (fun hs_ => fun e_ => Nat.not_le.2 hs_ (Kd.R_base HO277.out k_ e_.symm)) (fun hn_ => (Kd.fresh' (Kd.R_lt (by (with_reducible repeat (first | apply Kd.R_alloc | apply Kd.R_drewN | apply Kd.R_drew)); exact HO277.out)) k_ hn_)), Or.elim hk_ (fun hs_ => fun e_ => Nat.not_le.2 hs_ (by rw [e_]; exact GW253.out)) (fun hn_ => (Kd.freshB (g := gb253) (o := .cells #[.int .i64 a0_0, .int .i64 a0_1, .slice A0_2 l0_2.length c0_2] 24 (0, 0)) (by (with_reducible repeat (first | refine blk_drewN ?_ _ | refine blk_drew ?_ | refine blk_alloc ?_ _)); exact BK253.out) k_ hn_)), Or.elim hk_ (fun hs_ => fun e_ => Nat.not_le.2 hs_ (by rw [e_]; exact GW264.out)) (fun hn_ => (Kd.freshB (g := gb264) (o := .cells #[.int .i64 t255, .int .i64 t256, .slice Ao23 t257.length co23] 24 (0, 0)) (by (with_reducible repeat (first | refine blk_drewN ?_ _ | refine blk_drew ?_ | refine blk_alloc ?_ _)); exact BK264.out) k_ hn_)), Or.elim hk_ (fun hs_ => fun e_ => Nat.not_le.2 hs_ (by rw [e_]; exact GW279.out)) (fun hn_ => (Kd.freshB (g := gb279) (o := .cells #[.int .i64 t270, .int .i64 t271, .slice Ao33 t272.length co33] 29 (0, 0)) (by (with_reducible repeat (first | refine blk_drewN ?_ _ | refine blk_drew ?_ | refine blk_alloc ?_ _)); exact BK279.out) k_ hn_))⟩)) (below_size (by repeat (first | (with_reducible first | exact HB.out | apply below_alloc | apply pw_below_drewN | apply below_drew1 | refine below_set ?_ GE253.out | refine below_set ?_ GE264.out | refine below_set ?_ GE279.out) | exact HB.out)))); have n6_ := Aside0.mk (blk_below (g := gb253) (o := .cells #[.int .i64 a0_0, .int .i64 a0_1, .slice A0_2 l0_2.length c0_2] 24 (0, 0)) (by (with_reducible repeat (first | refine blk_drewN ?_ _ | refine blk_drew ?_ | refine blk_alloc ?_ _)); exact BK253.out) hb); have n7_ := Aside0.mk (blk_below (g := gb264) (o := .cells #[.int .i64 t255, .int .i64 t256, .slice Ao23 t257.length co23] 24 (0, 0)) (by (with_reducible repeat (first | refine blk_drewN ?_ _ | refine blk_drew ?_ | refine blk_alloc ?_ _)); exact BK264.out) hb); have n8_ := Aside0.mk (blk_below (g := gb279) (o := .cells #[.int .i64 t270, .int .i64 t271, .slice Ao33 t272.length co33] 29 (0, 0)) (by (with_reducible repeat (first | refine blk_drewN ?_ _ | refine blk_drew ?_ | refine blk_alloc ?_ _)); exact BK279.out) hb); have n9_ := Aside0.mk (below_step (by repeat (first | (with_reducible first | exact HB.out | apply below_alloc | apply pw_below_drewN | apply below_drew1 | refine below_set ?_ GE253.out | refine below_set ?_ GE264.out | refine below_set ?_ GE279.out) | exact HB.out)) hb); clear HO259; clear HO262; clear HO269; clear HO274; clear HO277; clear BK253; clear BK264; clear BK279; clear HB; have HO259 := n0_; have HO262 := n1_; have HO269 := n2_; have HO274 := n3_; have HO277 := n4_; have HO284 := n5_; have BK253 := n6_; have BK264 := n7_; have BK279 := n8_; have HB := n9_; clear n0_ n1_ n2_ n3_ n4_ n5_ n6_ n7_ n8_ n9_; (try clear hb); (try clear hb2); (try clear hk); (try clear hi); (try clear ho0)) | ((with_reducible refine gate_dst (N := 11) rfl ?_); (try (refine gate_guard (by rfl) ?_; dsimp only)); refine box_event ?hg (N := 11) ?hd (cs := #[.int .i64 0, .int .i64 0, .slice none 0 0]) (t := 24) ?hr ?_; (case hd => rfl); (case hg => rfl); (case hr => first | (go_simp; done) | (go_simp; rfl)); intro gb286 hg w37 hbox hb; have n0_ := Aside0.mk (Kd.V_below (Kd.V_elderB (by (with_reducible repeat (first | apply Kd.V_alloc | apply Kd.V_drewN | apply Kd.V_drew)); exact HO259.out) gb286 (Nat.le_of_eq hg.symm)) hb); have n1_ := Aside0.mk (Kd.R_below (by (with_reducible repeat (first | apply Kd.R_alloc | apply Kd.R_drewN | apply Kd.R_drew)); exact HO262.out) hb); have n2_ := Aside0.mk (Kd.V_below (Kd.V_elderB (by (with_reducible repeat (first | apply Kd.V_alloc | apply Kd.V_drewN | apply Kd.V_drew)); exact HO269.out) gb286 (Nat.le_of_eq hg.symm)) hb); have n3_ := Aside0.mk (Kd.V_below (Kd.V_elderB (by (with_reducible repeat (first | apply Kd.V_alloc | apply Kd.V_drewN | apply Kd.V_drew)); exact HO274.out) gb286 (Nat.le_of_eq hg.symm)) hb); have n4_ := Aside0.mk (Kd.R_below (by (with_reducible repeat (first | apply Kd.R_alloc | apply Kd.R_drewN | apply Kd.R_drew)); exact HO277.out) hb); have n5_ := Aside0.mk (Kd.V_below (Kd.V_elderB (by (with_reducible repeat (first | apply Kd.V_alloc | apply Kd.V_drewN | apply Kd.V_drew)); exact HO284.out) gb286 (Nat.le_of_eq hg.symm)) hb); have n6_ := Aside0.mk (blk_below (g := gb253) (o := .cells #[.int .i64 a0_0, .int .i64 a0_1, .slice A0_2 l0_2.length c0_2] 24 (0, 0)) (by (with_reducible repeat (first | refine blk_drewN ?_ _ | refine blk_drew ?_ | refine blk_alloc ?_ _)); exact BK253.out) hb); have n7_ := Aside0.mk (blk_below (g := gb264) (o := .cells #[.int .i64 t255, .int .i64 t256, .slice Ao23 t257.length co23] 24 (0, 0)) (by (with_reducible repeat (first | refine blk_drewN ?_ _ | refine blk_drew ?_ | refine blk_alloc ?_ _)); exact BK264.out) hb); have n8_ := Aside0.mk (blk_below (g := gb279) (o := .cells #[.int .i64 t270, .int .i64 t271, .slice Ao33 t272.length co33] 29 (0, 0)) (by (with_reducible repeat (first | refine blk_drewN ?_ _ | refine blk_drew ?_ | refine blk_alloc ?_ _)); exact BK279.out) hb); have n9_ := Aside0.mk (below_step (by repeat (first | (with_reducible first | exact HB.out | apply below_alloc | apply pw_below_drewN | apply below_drew1 | refine below_set ?_ GE253.out | refine below_set ?_ GE264.out | refine below_set ?_ GE279.out) | exact HB.out)) hb); have n10_ := Aside0.mk (hbox); have n11_ := Aside0.mk ((by rw [hg]; exact (below_size (by repeat (first | (with_reducible first | exact HB.out | apply below_alloc | apply pw_below_drewN | apply below_drew1 | refine below_set ?_ GE253.out | refine below_set ?_ GE264.out | refine below_set ?_ GE279.out) | exact HB.out))) : w.heap.size ≤ gb286)); have n12_ := Aside0.mk ((by rw [hg]; exact (below_size (by repeat (first | (with_reducible first | exact HB.out | apply below_alloc | apply pw_below_drewN | apply below_drew1 | refine below_set ?_ GE253.out | refine below_set ?_ GE264.out | refine below_set ?_ GE279.out) | exact HB.out))) : w.heap.size ≤ gb286)); have n13_ := Aside0.mk ((by rw [hg]; exact Nat.ne_of_lt (blk_lt (g := gb253) (o := .cells #[.int .i64 a0_0, .int .i64 a0_1, .slice A0_2 l0_2.length c0_2] 24 (0, 0)) (by (with_reducible repeat (first | refine blk_drewN ?_ _ | refine blk_drew ?_ | refine blk_alloc ?_ _)); exact BK253.out)) : gb253 ≠ gb286)); have n14_ := Aside0.mk ((by rw [hg]; exact Nat.ne_of_gt (blk_lt (g := gb253) (o := .cells #[.int .i64 a0_0, .int .i64 a0_1, .slice A0_2 l0_2.length c0_2] 24 (0, 0)) (by (with_reducible repeat (first | refine blk_drewN ?_ _ | refine blk_drew ?_ | refine blk_alloc ?_ _)); exact BK253.out)) : gb286 ≠ gb253)); have n15_ := Aside0.mk ((by rw [hg]; exact Nat.ne_of_lt (blk_lt (g := gb264) (o := .cells #[.int .i64 t255, .int .i64 t256, .slice Ao23 t257.length co23] 24 (0, 0)) (by (with_reducible repeat (first | refine blk_drewN ?_ _ | refine blk_drew ?_ | refine blk_alloc ?_ _)); exact BK264.out)) : gb264 ≠ gb286)); have n16_ := Aside0.mk ((by rw [hg]; exact Nat.ne_of_gt (blk_lt (g := gb264) (o := .cells #[.int .i64 t255, .int .i64 t256, .slice Ao23 t257.length co23] 24 (0, 0)) (by (with_reducible repeat (first | refine blk_drewN ?_ _ | refine blk_drew ?_ | refine blk_alloc ?_ _)); exact BK264.out)) : gb286 ≠ gb264)); have n17_ := Aside0.mk ((by rw [hg]; exact Nat.ne_of_lt (blk_lt (g := gb279) (o := .cells #[.int .i64 t270, .int .i64 t271, .slice Ao33 t272.length co33] 29 (0, 0)) (by (with_reducible repeat (first | refine blk_drewN ?_ _ | refine blk_drew ?_ | refine blk_alloc ?_ _)); exact BK279.out)) : gb279 ≠ gb286)); have n18_ := Aside0.mk ((by rw [hg]; exact Nat.ne_of_gt (blk_lt (g := gb279) (o := .cells #[.int .i64 t270, .int .i64 t271, .slice Ao33 t272.length co33] 29 (0, 0)) (by (with_reducible repeat (first | refine blk_drewN ?_ _ | refine blk_drew ?_ | refine blk_alloc ?_ _)); exact BK279.out)) : gb286 ≠ gb279)); clear HO259; clear HO262; clear HO269; clear HO274; clear HO277; clear HO284; clear BK253; clear BK264; clear BK279; clear HB; have HO259 := n0_; have HO262 := n1_; have HO269 := n2_; have HO274 := n3_; have HO277 := n4_; have HO284 := n5_; have BK253 := n6_; have BK264 := n7_; have BK279 := n8_; have HB := n9_; have BK286 := n10_; have GW286 := n11_; have GE286 := n12_; have NB253_286 := n13_; have NB286_253 := n14_; have NB264_286 := n15_; have NB286_264 := n16_; have NB279_286 := n17_; have NB286_279 := n18_; clear n0_ n1_ n2_ n3_ n4_ n5_ n6_ n7_ n8_ n9_ n10_ n11_ n12_ n13_ n14_ n15_ n16_ n17_ n18_; clear hb hbox hg; have hnb38 := NB286_253.out; have hnc38 := NB253_286.out; have hnb39 := NB286_264.out; have hnc39 := NB264_286.out; have hnb40 := NB286_279.out; have hnc40 := NB279_286.out; have hcz41_0 : w37.cell? ⟨gb286, 0, none⟩ = some (.int .i64 0) := (blk_cell BK286.out 0).trans rfl; have hcz41_1 : w37.cell? ⟨gb286, 1, none⟩ = some (.int .i64 0) := (blk_cell BK286.out 1).trans rfl; have hcz41_2 : w37.cell? ⟨gb286, 2, none⟩ = some (.slice none 0 0) := (blk_cell BK286.out 2).trans rfl; have hfz41_0 := blk_frozen BK286.out 0; have hfz41_1 := blk_frozen BK286.out 1; have hfz41_2 := blk_frozen BK286.out 2; obtain ⟨Ao42, co42, eo42⟩ := Kd.V_slice HO284.out; subst eo42) | ((with_reducible refine gate_store (t := 24) (p := 11) rfl ?_); refine store_event (t := 24) (p := 11) (v := ?vo_w43) (w1 := (((w37.setCell ⟨gb286, 0, none⟩ (.int .i64 t280)).setCell ⟨gb286, 1, none⟩ (.int .i64 t281)).setCell ⟨gb286, 2, none⟩ (.slice Ao42 t282.length co42))) ?hg ?ho ?hn ?hr ?_; (case ho => rfl); (case hg => rfl); (case hn => rfl); (case hr => first | (go_simp; done) | (go_simp; rfl)); intro w43 hw; have n0_ : Aside0 (Kd.V (Kd.int .i64) 3 w43 w.heap.size (fun k_ => some k_ ≠ (v261 : Value).ownBlock ∧ some k_ ≠ (v276 : Value).ownBlock ∧ k_ ≠ gb253 ∧ k_ ≠ gb264 ∧ k_ ≠ gb279 ∧ k_ ≠ gb286) (.slice Ao23 t257.length co23) t257) := ⟨(by rw [hw]; exact (by (with_reducible repeat (first | apply Kd.V_alloc | apply Kd.V_drewN | apply Kd.V_drew)); exact Kd.V_mono (Kd.V_far (p := ⟨gb286, 2, none⟩) (Kd.V_far (p := ⟨gb286, 1, none⟩) (Kd.V_far (p := ⟨gb286, 0, none⟩) (Kd.V_mono HO259.out (fun k_ hk => (⟨hk, hk.2⟩ : _ ∧ k_ ≠ gb286))) (fun _ hk => hk.2) (.int .i64 t280)) (fun _ hk => hk.2) (.int .i64 t281)) (fun _ hk => hk.2) (.slice Ao42 t282.length co42)) (fun _ hk => ⟨hk.1.1.1, ⟨hk.1.1.2.1, ⟨hk.1.1.2.2.1, ⟨hk.1.1.2.2.2.1, ⟨hk.1.1.2.2.2.2, hk.1.2⟩⟩⟩⟩⟩)))⟩; have n1_ : Aside0 (Kd.R (Kd.int .i64) 3 w43 w.heap.size (fun k_ => some k_ ≠ (v276 : Value).ownBlock) v261 t260) := ⟨(by rw [hw]; exact (by (with_reducible repeat (first | apply Kd.R_alloc | apply Kd.R_drewN | apply Kd.R_drew)); exact Kd.R_mono (Kd.R_far (p := ⟨gb286, 2, none⟩) (Kd.R_far (p := ⟨gb286, 1, none⟩) (Kd.R_far (p := ⟨gb286, 0, none⟩) (Kd.R_types HO262.out BK286.out (by decide)) (fun _ hk => hk.2) (.int .i64 t280)) (fun _ hk => hk.2) (.int .i64 t281)) (fun _ hk => hk.2) (.slice Ao42 t282.length co42)) (fun _ hk => hk.1)))⟩; have n2_ : Aside0 (Kd.V (Kd.int .i64) 3 w43 w.heap.size (fun k_ => some k_ ≠ (v261 : Value).ownBlock ∧ some k_ ≠ (v276 : Value).ownBlock ∧ k_ ≠ gb253 ∧ k_ ≠ gb264 ∧ k_ ≠ gb279 ∧ k_ ≠ gb286) (.slice Ao27 t267.length co27) t267) := ⟨(by rw [hw]; exact (by (with_reducible repeat (first | apply Kd.V_alloc | apply Kd.V_drewN | apply Kd.V_drew)); exact Kd.V_mono (Kd.V_far (p := ⟨gb286, 2, none⟩) (Kd.V_far (p := ⟨gb286, 1, none⟩) (Kd.V_far (p := ⟨gb286, 0, none⟩) (Kd.V_mono HO269.out (fun k_ hk => (⟨hk, hk.2⟩ : _ ∧ k_ ≠ gb286))) (fun _ hk => hk.2) (.int .i64 t280)) (fun _ hk => hk.2) (.int .i64 t281)) (fun _ hk => hk.2) (.slice Ao42 t282.length co42)) (fun _ hk => ⟨hk.1.1.1, ⟨hk.1.1.2.1, ⟨hk.1.1.2.2.1, ⟨hk.1.1.2.2.2.1, ⟨hk.1.1.2.2.2.2, hk.1.2⟩⟩⟩⟩⟩)))⟩; have n3_ : Aside0 (Kd.V (Kd.int .i64) 3 w43 w.heap.size (fun k_ => some k_ ≠ (v261 : Value).ownBlock ∧ some k_ ≠ (v276 : Value).ownBlock ∧ k_ ≠ gb253 ∧ k_ ≠ gb264 ∧ k_ ≠ gb279 ∧ k_ ≠ gb286) (.slice Ao33 t272.length co33) t272) := ⟨(by rw [hw]; exact (by (with_reducible repeat (first | apply Kd.V_alloc | apply Kd.V_drewN | apply Kd.V_drew)); exact Kd.V_mono (Kd.V_far (p := ⟨gb286, 2, none⟩) (Kd.V_far (p := ⟨gb286, 1, none⟩) (Kd.V_far (p := ⟨gb286, 0, none⟩) (Kd.V_mono HO274.out (fun k_ hk => (⟨hk, hk.2⟩ : _ ∧ k_ ≠ gb286))) (fun _ hk => hk.2) (.int .i64 t280)) (fun _ hk => hk.2) (.int .i64 t281)) (fun _ hk => hk.2) (.slice Ao42 t282.length co42)) (fun _ hk => ⟨hk.1.1.1, ⟨hk.1.1.2.1, ⟨hk.1.1.2.2.1, ⟨hk.1.1.2.2.2.1, ⟨hk.1.1.2.2.2.2, hk.1.2⟩⟩⟩⟩⟩)))⟩; have n4_ : Aside0 (Kd.R (Kd.int .i64) 3 w43 w.heap.size (fun k_ => some k_ ≠ (v261 : Value).ownBlock) v276 t275) := ⟨(by rw [hw]; exact (by (with_reducible repeat (first | apply Kd.R_alloc | apply Kd.R_drewN | apply Kd.R_drew)); exact Kd.R_mono (Kd.R_far (p := ⟨gb286, 2, none⟩) (Kd.R_far (p := ⟨gb286, 1, none⟩) (Kd.R_far (p := ⟨gb286, 0, none⟩) (Kd.R_types HO277.out BK286.out (by decide)) (fun _ hk => hk.2) (.int .i64 t280)) (fun _ hk => hk.2) (.int .i64 t281)) (fun _ hk => hk.2) (.slice Ao42 t282.length co42)) (fun _ hk => hk.1)))⟩; have n5_ : Aside0 (Kd.V (Kd.int .i64) 3 w43 w.heap.size (fun k_ => some k_ ≠ (v261 : Value).ownBlock ∧ some k_ ≠ (v276 : Value).ownBlock ∧ k_ ≠ gb253 ∧ k_ ≠ gb264 ∧ k_ ≠ gb279 ∧ k_ ≠ gb286) (.slice Ao42 t282.length co42) t282) := ⟨(by rw [hw]; exact (by (with_reducible repeat (first | apply Kd.V_alloc | apply Kd.V_drewN | apply Kd.V_drew)); exact Kd.V_mono (Kd.V_far (p := ⟨gb286, 2, none⟩) (Kd.V_far (p := ⟨gb286, 1, none⟩) (Kd.V_far (p := ⟨gb286, 0, none⟩) (Kd.V_mono HO284.out (fun k_ hk => (⟨hk, hk.2⟩ : _ ∧ k_ ≠ gb286))) (fun _ hk => hk.2) (.int .i64 t280)) (fun _ hk => hk.2) (.int .i64 t281)) (fun _ hk => hk.2) (.slice Ao42 t282.length co42)) (fun _ hk => ⟨hk.1.1.1, ⟨hk.1.1.2.1, ⟨hk.1.1.2.2.1, ⟨hk.1.1.2.2.2.1, ⟨hk.1.1.2.2.2.2, hk.1.2⟩⟩⟩⟩⟩)))⟩; have n6_ : Aside0 (w43.heap[gb253]? = some (.cells #[.int .i64 a0_0, .int .i64 a0_1, .slice A0_2 l0_2.length c0_2] 24 (0, 0))) := ⟨(by rw [hw]; exact (by (with_reducible repeat (first | refine blk_drewN ?_ _ | refine blk_drew ?_ | refine blk_alloc ?_ _)); refine blk_far ?_ NB253_286.out _; (with_reducible repeat (first | refine blk_drewN ?_ _ | refine blk_drew ?_ | refine blk_alloc ?_ _)); refine blk_far ?_ NB253_286.out _; (with_reducible repeat (first | refine blk_drewN ?_ _ | refine blk_drew ?_ | refine blk_alloc ?_ _)); refine blk_far ?_ NB253_286.out _; (with_reducible repeat (first | refine blk_drewN ?_ _ | refine blk_drew ?_ | refine blk_alloc ?_ _)); exact BK253.out))⟩; have n7_ : Aside0 (w43.heap[gb264]? = some (.cells #[.int .i64 t255, .int .i64 t256, .slice Ao23 t257.length co23] 24 (0, 0))) := ⟨(by rw [hw]; exact (by (with_reducible repeat (first | refine blk_drewN ?_ _ | refine blk_drew ?_ | refine blk_alloc ?_ _)); refine blk_far ?_ NB264_286.out _; (with_reducible repeat (first | refine blk_drewN ?_ _ | refine blk_drew ?_ | refine blk_alloc ?_ _)); refine blk_far ?_ NB264_286.out _; (with_reducible repeat (first | refine blk_drewN ?_ _ | refine blk_drew ?_ | refine blk_alloc ?_ _)); refine blk_far ?_ NB264_286.out _; (with_reducible repeat (first | refine blk_drewN ?_ _ | refine blk_drew ?_ | refine blk_alloc ?_ _)); exact BK264.out))⟩; have n8_ : Aside0 (w43.heap[gb279]? = some (.cells #[.int .i64 t270, .int .i64 t271, .slice Ao33 t272.length co33] 29 (0, 0))) := ⟨(by rw [hw]; exact (by (with_reducible repeat (first | refine blk_drewN ?_ _ | refine blk_drew ?_ | refine blk_alloc ?_ _)); refine blk_far ?_ NB279_286.out _; (with_reducible repeat (first | refine blk_drewN ?_ _ | refine blk_drew ?_ | refine blk_alloc ?_ _)); refine blk_far ?_ NB279_286.out _; (with_reducible repeat (first | refine blk_drewN ?_ _ | refine blk_drew ?_ | refine blk_alloc ?_ _)); refine blk_far ?_ NB279_286.out _; (with_reducible repeat (first | refine blk_drewN ?_ _ | refine blk_drew ?_ | refine blk_alloc ?_ _)); exact BK279.out))⟩; have n9_ : Aside0 (w43.heap[gb286]? = some (.cells #[.int .i64 t280, .int .i64 t281, .slice Ao42 t282.length co42] 24 (0, 0))) := ⟨(by rw [hw]; exact (by (with_reducible repeat (first | refine blk_drewN ?_ _ | refine blk_drew ?_ | refine blk_alloc ?_ _)); refine blk_put (cs := #[.int .i64 t280, .int .i64 t281, .slice none 0 0]) ?_ 2 _ rfl; (with_reducible repeat (first | refine blk_drewN ?_ _ | refine blk_drew ?_ | refine blk_alloc ?_ _)); refine blk_put (cs := #[.int .i64 t280, .int .i64 0, .slice none 0 0]) ?_ 1 _ rfl; (with_reducible repeat (first | refine blk_drewN ?_ _ | refine blk_drew ?_ | refine blk_alloc ?_ _)); refine blk_put (cs := #[.int .i64 0, .int .i64 0, .slice none 0 0]) ?_ 0 _ rfl; (with_reducible repeat (first | refine blk_drewN ?_ _ | refine blk_drew ?_ | refine blk_alloc ?_ _)); exact BK286.out))⟩; have n10_ : Aside0 (Below w.heap.size w w43) := ⟨(by rw [hw]; exact (by repeat (first | (with_reducible first | exact HB.out | apply below_alloc | apply pw_below_drewN | apply below_drew1 | refine below_set ?_ GE253.out | refine below_set ?_ GE264.out | refine below_set ?_ GE279.out | refine below_set ?_ GE286.out) | exact HB.out)))⟩; clear hw; clear HO259; clear HO262; clear HO269; clear HO274; clear HO277; clear HO284; clear BK253; clear BK264; clear BK279; clear BK286; clear HB; have HO259 := n0_; have HO262 := n1_; have HO269 := n2_; have HO274 := n3_; have HO277 := n4_; have HO284 := n5_; have BK253 := n6_; have BK264 := n7_; have BK279 := n8_; have BK286 := n9_; have HB := n10_; clear n0_ n1_ n2_ n3_ n4_ n5_ n6_ n7_ n8_ n9_ n10_; have hcz44_0 : w43.cell? ⟨gb253, 0, none⟩ = some (.int .i64 a0_0) := (blk_cell BK253.out 0).trans rfl; have hcz44_1 : w43.cell? ⟨gb253, 1, none⟩ = some (.int .i64 a0_1) := (blk_cell BK253.out 1).trans rfl; have hcz44_2 : w43.cell? ⟨gb253, 2, none⟩ = some (.slice A0_2 l0_2.length c0_2) := (blk_cell BK253.out 2).trans rfl; have hfz44_0 := blk_frozen BK253.out 0; have hfz44_1 := blk_frozen BK253.out 1; have hfz44_2 := blk_frozen BK253.out 2) | ((with_reducible refine gate_callee (f := 11) rfl ?_); refine goesL_ (some 46) rfl rfl Try.func11 (by kernel_rfl) rfl #[.agg #[.int .i64 a0_0, .int .i64 a0_1, .slice A0_2 l0_2.length c0_2]] rfl (by (try simp only [List.map_toArray, List.map_cons, List.map_nil]); first | done | rfl | (simp only [List.length_drop, List.length_take]; rfl)) ?_; (with_reducible refine (handshakerlaw19_ref.calls a0_0 a0_1 (fun k_ => k_ < w.heap.size) _ _ l0_2 t287 t288 t289 _ ?side1 A12.out).mono ?_); (case side1 => exact Kd.V_mk HC0_2.out (Kd.F_below (Kd.C_F (Kd.heap_int .i64) HR0_2.out) (by repeat (first | (with_reducible first | exact HB.out | apply below_alloc | apply pw_below_drewN | apply below_drew1 | refine below_set ?_ GE253.out | refine below_set ?_ GE264.out | refine below_set ?_ GE279.out | refine below_set ?_ GE286.out) | exact HB.out)))); rintro e w45 ⟨v290, rfl, ho0, hb⟩; refine ⟨_, rfl, ?_⟩; have n0_ := Aside0.mk (Kd.V_below (by (with_reducible repeat (first | apply Kd.V_alloc | apply Kd.V_drewN | apply Kd.V_drew)); exact HO259.out) hb); have n1_ := Aside0.mk (Kd.R_below (by (with_reducible repeat (first | apply Kd.R_alloc | apply Kd.R_drewN | apply Kd.R_drew)); exact HO262.out) hb); have n2_ := Aside0.mk (Kd.V_below (by (with_reducible repeat (first | apply Kd.V_alloc | apply Kd.V_drewN | apply Kd.V_drew)); exact HO269.out) hb); have n3_ := Aside0.mk (Kd.V_below (by (with_reducible repeat (first | apply Kd.V_alloc | apply Kd.V_drewN | apply Kd.V_drew)); exact HO274.out) hb); have n4_ := Aside0.mk (Kd.R_below (by (with_reducible repeat (first | apply Kd.R_alloc | apply Kd.R_drewN | apply Kd.R_drew)); exact HO277.out) hb); have n5_ := Aside0.mk (Kd.V_below (by (with_reducible repeat (first | apply Kd.V_alloc | apply Kd.V_drewN | apply Kd.V_drew)); exact HO284.out) hb); have n6_ := Aside0.mk (Kd.V_lower (Kd.V_mono (ok' := fun k_ => some k_ ≠ (v261 : Value).ownBlock ∧ some k_ ≠ (v276 : Value).ownBlock ∧ k_ ≠ gb253 ∧ k_ ≠ gb264 ∧ k_ ≠ gb279 ∧ k_ ≠ gb286) ho0 (fun k_ hk_ => ⟨Or.elim hk_ (fun hs_ => fun e_ => Nat.not_le.2 hs_ (Kd.R_base HO262.out k_ e_.symm)) (fun hn_ => (Kd.fresh' (Kd.R_lt (by (with_reducible repeat (first | apply Kd.R_alloc | apply Kd.R_drewN | apply Kd.R_drew)); exact HO262.out)) k_ hn_)), Or.elim hk_ (fun hs_ => fun e_ => Nat.not_le.2 hs_ (Kd.R_base HO277.out k_ e_.symm)) (fun hn_ => (Kd.fresh' (Kd.R_lt (by (with_reducible repeat (first | apply Kd.R_alloc | apply Kd.R_drewN | apply Kd.R_drew)); exact HO277.out)) k_ hn_)), Or.elim hk_ (fun hs_ => fun e_ => Nat.not_le.2 hs_ (by rw [e_]; exact GW253.out)) (fun hn_ => (Kd.freshB (g := gb253) (o := .cells #[.int .i64 a0_0, .int .i64 a0_1, .slice A0_2 l0_2.length c0_2] 24 (0, 0)) (by (with_reducible repeat (first | refine blk_drewN ?_ _ | refine blk_drew ?_ | refine blk_alloc ?_ _)); exact BK253.out) k_ hn_)), Or.elim hk_ (fun hs_ => fun e_ => Nat.not_le.2 hs_ (by rw [e_]; exact GW264.out)) (fun hn_ => (Kd.freshB (g := gb264) (o := .cells #[.int .i64 t255, .int .i64 t256, .slice Ao23 t257.length co23] 24 (0, 0)) (by (with_reducible repeat (first | refine blk_drewN ?_ _ | refine blk_drew ?_ | refine blk_alloc ?_ _)); exact BK264.out) k_ hn_)), Or.elim hk_ (fun hs_ => fun e_ => Nat.not_le.2 hs_ (by rw [e_]; exact GW279.out)) (fun hn_ => (Kd.freshB (g := gb279) (o := .cells #[.int .i64 t270, .int .i64 t271, .slice Ao33 t272.length co33] 29 (0, 0)) (by (with_reducible repeat (first | refine blk_drewN ?_ _ | refine blk_drew ?_ | refine blk_alloc ?_ _)); exact BK279.out) k_ hn_)), Or.elim hk_ (fun hs_ => fun e_ => Nat.not_le.2 hs_ (by rw [e_]; exact GW286.out)) (fun hn_ => (Kd.freshB (g := gb286) (o := .cells #[.int .i64 t280, .int .i64 t281, .slice Ao42 t282.length co42] 24 (0, 0)) (by (with_reducible repeat (first | refine blk_drewN ?_ _ | refine blk_drew ?_ | refine blk_alloc ?_ _)); exact BK286.out) k_ hn_))⟩)) (below_size (by repeat (first | (with_reducible first | exact HB.out | apply below_alloc | apply pw_below_drewN | apply below_drew1 | refine below_set ?_ GE253.out | refine below_set ?_ GE264.out | refine below_set ?_ GE279.out | refine below_set ?_ GE286.out) | exact HB.out)))); have n7_ := Aside0.mk (blk_below (g := gb253) (o := .cells #[.int .i64 a0_0, .int .i64 a0_1, .slice A0_2 l0_2.length c0_2] 24 (0, 0)) (by (with_reducible repeat (first | refine blk_drewN ?_ _ | refine blk_drew ?_ | refine blk_alloc ?_ _)); exact BK253.out) hb); have n8_ := Aside0.mk (blk_below (g := gb264) (o := .cells #[.int .i64 t255, .int .i64 t256, .slice Ao23 t257.length co23] 24 (0, 0)) (by (with_reducible repeat (first | refine blk_drewN ?_ _ | refine blk_drew ?_ | refine blk_alloc ?_ _)); exact BK264.out) hb); have n9_ := Aside0.mk (blk_below (g := gb279) (o := .cells #[.int .i64 t270, .int .i64 t271, .slice Ao33 t272.length co33] 29 (0, 0)) (by (with_reducible repeat (first | refine blk_drewN ?_ _ | refine blk_drew ?_ | refine blk_alloc ?_ _)); exact BK279.out) hb); have n10_ := Aside0.mk (blk_below (g := gb286) (o := .cells #[.int .i64 t280, .int .i64 t281, .slice Ao42 t282.length co42] 24 (0, 0)) (by (with_reducible repeat (first | refine blk_drewN ?_ _ | refine blk_drew ?_ | refine blk_alloc ?_ _)); exact BK286.out) hb); have n11_ := Aside0.mk (below_step (by repeat (first | (with_reducible first | exact HB.out | apply below_alloc | apply pw_below_drewN | apply below_drew1 | refine below_set ?_ GE253.out | refine below_set ?_ GE264.out | refine below_set ?_ GE279.out | refine below_set ?_ GE286.out) | exact HB.out)) hb); clear HO259; clear HO262; clear HO269; clear HO274; clear HO277; clear HO284; clear BK253; clear BK264; clear BK279; clear BK286; clear HB; have HO259 := n0_; have HO262 := n1_; have HO269 := n2_; have HO274 := n3_; have HO277 := n4_; have HO284 := n5_; have HO291 := n6_; have BK253 := n7_; have BK264 := n8_; have BK279 := n9_; have BK286 := n10_; have HB := n11_; clear n0_ n1_ n2_ n3_ n4_ n5_ n6_ n7_ n8_ n9_ n10_ n11_; (try clear hb); (try clear hb2); (try clear hk); (try clear hi); (try clear ho0); obtain ⟨Ao46, co46, eo46⟩ := Kd.V_slice HO291.out; subst eo46) | ((with_reducible refine gate_callee (f := 13) rfl ?_); refine goesL_ (some 48) rfl rfl Try.func13 (by kernel_rfl) rfl #[.agg #[.int .i64 t287, .int .i64 t288, .slice Ao46 t289.length co46], .int .i64 a1] rfl (by (try simp only [List.map_toArray, List.map_cons, List.map_nil]); first | done | rfl | (simp only [List.length_drop, List.length_take]; rfl)) ?_; (with_reducible refine (handshakerref19_Leave.calls k t287 t288 (fun k_ => (some k_ ≠ (v261 : Value).ownBlock ∧ (some k_ ≠ (v276 : Value).ownBlock ∧ (k_ ≠ gb253 ∧ (k_ ≠ gb264 ∧ (k_ ≠ gb279 ∧ k_ ≠ gb286)))))) _ _ t289 a1 t292 t293 t294 t297 _ ?side1 A13.out).mono ?_); (case side1 => exact HO291.out); rintro e w47 ⟨v295, rfl, ho0, hb⟩; refine ⟨_, rfl, ?_⟩; have n0_ := Aside0.mk (Kd.V_below (by (with_reducible repeat (first | apply Kd.V_alloc | apply Kd.V_drewN | apply Kd.V_drew)); exact HO259.out) hb); have n1_ := Aside0.mk (Kd.R_below (by (with_reducible repeat (first | apply Kd.R_alloc | apply Kd.R_drewN | apply Kd.R_drew)); exact HO262.out) hb); have n2_ := Aside0.mk (Kd.V_below (by (with_reducible repeat (first | apply Kd.V_alloc | apply Kd.V_drewN | apply Kd.V_drew)); exact HO269.out) hb); have n3_ := Aside0.mk (Kd.V_below (by (with_reducible repeat (first | apply Kd.V_alloc | apply Kd.V_drewN | apply Kd.V_drew)); exact HO274.out) hb); have n4_ := Aside0.mk (Kd.R_below (by (with_reducible repeat (first | apply Kd.R_alloc | apply Kd.R_drewN | apply Kd.R_drew)); exact HO277.out) hb); have n5_ := Aside0.mk (Kd.V_below (by (with_reducible repeat (first | apply Kd.V_alloc | apply Kd.V_drewN | apply Kd.V_drew)); exact HO284.out) hb); have n6_ := Aside0.mk (Kd.V_below (by (with_reducible repeat (first | apply Kd.V_alloc | apply Kd.V_drewN | apply Kd.V_drew)); exact HO291.out) hb); have n7_ := Aside0.mk (Kd.V_lower (Kd.V_mono (ok' := fun k_ => some k_ ≠ (v261 : Value).ownBlock ∧ some k_ ≠ (v276 : Value).ownBlock ∧ k_ ≠ gb253 ∧ k_ ≠ gb264 ∧ k_ ≠ gb279 ∧ k_ ≠ gb286) ho0 (fun k_ hk_ => ⟨Or.elim hk_ (fun hs_ => hs_.1) (fun hn_ => (Kd.fresh' (Kd.R_lt (by (with_reducible repeat (first | apply Kd.R_alloc | apply Kd.R_drewN | apply Kd.R_drew)); exact HO262.out)) k_ hn_)), Or.elim hk_ (fun hs_ => hs_.2.1) (fun hn_ => (Kd.fresh' (Kd.R_lt (by (with_reducible repeat (first | apply Kd.R_alloc | apply Kd.R_drewN | apply Kd.R_drew)); exact HO277.out)) k_ hn_)), Or.elim hk_ (fun hs_ => hs_.2.2.1) (fun hn_ => (Kd.freshB (g := gb253) (o := .cells #[.int .i64 a0_0, .int .i64 a0_1, .slice A0_2 l0_2.length c0_2] 24 (0, 0)) (by (with_reducible repeat (first | refine blk_drewN ?_ _ | refine blk_drew ?_ | refine blk_alloc ?_ _)); exact BK253.out) k_ hn_)), Or.elim hk_ (fun hs_ => hs_.2.2.2.1) (fun hn_ => (Kd.freshB (g := gb264) (o := .cells #[.int .i64 t255, .int .i64 t256, .slice Ao23 t257.length co23] 24 (0, 0)) (by (with_reducible repeat (first | refine blk_drewN ?_ _ | refine blk_drew ?_ | refine blk_alloc ?_ _)); exact BK264.out) k_ hn_)), Or.elim hk_ (fun hs_ => hs_.2.2.2.2.1) (fun hn_ => (Kd.freshB (g := gb279) (o := .cells #[.int .i64 t270, .int .i64 t271, .slice Ao33 t272.length co33] 29 (0, 0)) (by (with_reducible repeat (first | refine blk_drewN ?_ _ | refine blk_drew ?_ | refine blk_alloc ?_ _)); exact BK279.out) k_ hn_)), Or.elim hk_ (fun hs_ => hs_.2.2.2.2.2) (fun hn_ => (Kd.freshB (g := gb286) (o := .cells #[.int .i64 t280, .int .i64 t281, .slice Ao42 t282.length co42] 24 (0, 0)) (by (with_reducible repeat (first | refine blk_drewN ?_ _ | refine blk_drew ?_ | refine blk_alloc ?_ _)); exact BK286.out) k_ hn_))⟩)) (below_size (by repeat (first | (with_reducible first | exact HB.out | apply below_alloc | apply pw_below_drewN | apply below_drew1 | refine below_set ?_ GE253.out | refine below_set ?_ GE264.out | refine below_set ?_ GE279.out | refine below_set ?_ GE286.out) | exact HB.out)))); have n8_ := Aside0.mk (blk_below (g := gb253) (o := .cells #[.int .i64 a0_0, .int .i64 a0_1, .slice A0_2 l0_2.length c0_2] 24 (0, 0)) (by (with_reducible repeat (first | refine blk_drewN ?_ _ | refine blk_drew ?_ | refine blk_alloc ?_ _)); exact BK253.out) hb); have n9_ := Aside0.mk (blk_below (g := gb264) (o := .cells #[.int .i64 t255, .int .i64 t256, .slice Ao23 t257.length co23] 24 (0, 0)) (by (with_reducible repeat (first | refine blk_drewN ?_ _ | refine blk_drew ?_ | refine blk_alloc ?_ _)); exact BK264.out) hb); have n10_ := Aside0.mk (blk_below (g := gb279) (o := .cells #[.int .i64 t270, .int .i64 t271, .slice Ao33 t272.length co33] 29 (0, 0)) (by (with_reducible repeat (first | refine blk_drewN ?_ _ | refine blk_drew ?_ | refine blk_alloc ?_ _)); exact BK279.out) hb); have n11_ := Aside0.mk (blk_below (g := gb286) (o := .cells #[.int .i64 t280, .int .i64 t281, .slice Ao42 t282.length co42] 24 (0, 0)) (by (with_reducible repeat (first | refine blk_drewN ?_ _ | refine blk_drew ?_ | refine blk_alloc ?_ _)); exact BK286.out) hb); have n12_ := Aside0.mk (below_step (by repeat (first | (with_reducible first | exact HB.out | apply below_alloc | apply pw_below_drewN | apply below_drew1 | refine below_set ?_ GE253.out | refine below_set ?_ GE264.out | refine below_set ?_ GE279.out | refine below_set ?_ GE286.out) | exact HB.out)) hb); clear HO259; clear HO262; clear HO269; clear HO274; clear HO277; clear HO284; clear HO291; clear BK253; clear BK264; clear BK279; clear BK286; clear HB; have HO259 := n0_; have HO262 := n1_; have HO269 := n2_; have HO274 := n3_; have HO277 := n4_; have HO284 := n5_; have HO291 := n6_; have HO296 := n7_; have BK253 := n8_; have BK264 := n9_; have BK279 := n10_; have BK286 := n11_; have HB := n12_; clear n0_ n1_ n2_ n3_ n4_ n5_ n6_ n7_ n8_ n9_ n10_ n11_ n12_; (try clear hb); (try clear hb2); (try clear hk); (try clear hi); (try clear ho0)) | ((with_reducible refine gate_dst (N := 13) rfl ?_); (try (refine gate_guard (by rfl) ?_; dsimp only)); refine box_event ?hg (N := 13) ?hd (cs := #[.int .i64 0, .int .i64 0, .slice none 0 0]) (t := 29) ?hr ?_; (case hd => rfl); (case hg => rfl); (case hr => first | (go_simp; done) | (go_simp; rfl)); intro gb298 hg w48 hbox hb; have n0_ := Aside0.mk (Kd.V_below (Kd.V_elderB (by (with_reducible repeat (first | apply Kd.V_alloc | apply Kd.V_drewN | apply Kd.V_drew)); exact HO259.out) gb298 (Nat.le_of_eq hg.symm)) hb); have n1_ := Aside0.mk (Kd.R_below (by (with_reducible repeat (first | apply Kd.R_alloc | apply Kd.R_drewN | apply Kd.R_drew)); exact HO262.out) hb); have n2_ := Aside0.mk (Kd.V_below (Kd.V_elderB (by (with_reducible repeat (first | apply Kd.V_alloc | apply Kd.V_drewN | apply Kd.V_drew)); exact HO269.out) gb298 (Nat.le_of_eq hg.symm)) hb); have n3_ := Aside0.mk (Kd.V_below (Kd.V_elderB (by (with_reducible repeat (first | apply Kd.V_alloc | apply Kd.V_drewN | apply Kd.V_drew)); exact HO274.out) gb298 (Nat.le_of_eq hg.symm)) hb); have n4_ := Aside0.mk (Kd.R_below (by (with_reducible repeat (first | apply Kd.R_alloc | apply Kd.R_drewN | apply Kd.R_drew)); exact HO277.out) hb); have n5_ := Aside0.mk (Kd.V_below (Kd.V_elderB (by (with_reducible repeat (first | apply Kd.V_alloc | apply Kd.V_drewN | apply Kd.V_drew)); exact HO284.out) gb298 (Nat.le_of_eq hg.symm)) hb); have n6_ := Aside0.mk (Kd.V_below (Kd.V_elderB (by (with_reducible repeat (first | apply Kd.V_alloc | apply Kd.V_drewN | apply Kd.V_drew)); exact HO291.out) gb298 (Nat.le_of_eq hg.symm)) hb); have n7_ := Aside0.mk (Kd.V_below (Kd.V_elderB (by (with_reducible repeat (first | apply Kd.V_alloc | apply Kd.V_drewN | apply Kd.V_drew)); exact HO296.out) gb298 (Nat.le_of_eq hg.symm)) hb); have n8_ := Aside0.mk (blk_below (g := gb253) (o := .cells #[.int .i64 a0_0, .int .i64 a0_1, .slice A0_2 l0_2.length c0_2] 24 (0, 0)) (by (with_reducible repeat (first | refine blk_drewN ?_ _ | refine blk_drew ?_ | refine blk_alloc ?_ _)); exact BK253.out) hb); have n9_ := Aside0.mk (blk_below (g := gb264) (o := .cells #[.int .i64 t255, .int .i64 t256, .slice Ao23 t257.length co23] 24 (0, 0)) (by (with_reducible repeat (first | refine blk_drewN ?_ _ | refine blk_drew ?_ | refine blk_alloc ?_ _)); exact BK264.out) hb); have n10_ := Aside0.mk (blk_below (g := gb279) (o := .cells #[.int .i64 t270, .int .i64 t271, .slice Ao33 t272.length co33] 29 (0, 0)) (by (with_reducible repeat (first | refine blk_drewN ?_ _ | refine blk_drew ?_ | refine blk_alloc ?_ _)); exact BK279.out) hb); have n11_ := Aside0.mk (blk_below (g := gb286) (o := .cells #[.int .i64 t280, .int .i64 t281, .slice Ao42 t282.length co42] 24 (0, 0)) (by (with_reducible repeat (first | refine blk_drewN ?_ _ | refine blk_drew ?_ | refine blk_alloc ?_ _)); exact BK286.out) hb); have n12_ := Aside0.mk (below_step (by repeat (first | (with_reducible first | exact HB.out | apply below_alloc | apply pw_below_drewN | apply below_drew1 | refine below_set ?_ GE253.out | refine below_set ?_ GE264.out | refine below_set ?_ GE279.out | refine below_set ?_ GE286.out) | exact HB.out)) hb); have n13_ := Aside0.mk (hbox); have n14_ := Aside0.mk ((by rw [hg]; exact (below_size (by repeat (first | (with_reducible first | exact HB.out | apply below_alloc | apply pw_below_drewN | apply below_drew1 | refine below_set ?_ GE253.out | refine below_set ?_ GE264.out | refine below_set ?_ GE279.out | refine below_set ?_ GE286.out) | exact HB.out))) : w.heap.size ≤ gb298)); have n15_ := Aside0.mk ((by rw [hg]; exact (below_size (by repeat (first | (with_reducible first | exact HB.out | apply below_alloc | apply pw_below_drewN | apply below_drew1 | refine below_set ?_ GE253.out | refine below_set ?_ GE264.out | refine below_set ?_ GE279.out | refine below_set ?_ GE286.out) | exact HB.out))) : w.heap.size ≤ gb298)); have n16_ := Aside0.mk ((by rw [hg]; exact Nat.ne_of_lt (blk_lt (g := gb253) (o := .cells #[.int .i64 a0_0, .int .i64 a0_1, .slice A0_2 l0_2.length c0_2] 24 (0, 0)) (by (with_reducible repeat (first | refine blk_drewN ?_ _ | refine blk_drew ?_ | refine blk_alloc ?_ _)); exact BK253.out)) : gb253 ≠ gb298)); have n17_ := Aside0.mk ((by rw [hg]; exact Nat.ne_of_gt (blk_lt (g := gb253) (o := .cells #[.int .i64 a0_0, .int .i64 a0_1, .slice A0_2 l0_2.length c0_2] 24 (0, 0)) (by (with_reducible repeat (first | refine blk_drewN ?_ _ | refine blk_drew ?_ | refine blk_alloc ?_ _)); exact BK253.out)) : gb298 ≠ gb253)); have n18_ := Aside0.mk ((by rw [hg]; exact Nat.ne_of_lt (blk_lt (g := gb264) (o := .cells #[.int .i64 t255, .int .i64 t256, .slice Ao23 t257.length co23] 24 (0, 0)) (by (with_reducible repeat (first | refine blk_drewN ?_ _ | refine blk_drew ?_ | refine blk_alloc ?_ _)); exact BK264.out)) : gb264 ≠ gb298)); have n19_ := Aside0.mk ((by rw [hg]; exact Nat.ne_of_gt (blk_lt (g := gb264) (o := .cells #[.int .i64 t255, .int .i64 t256, .slice Ao23 t257.length co23] 24 (0, 0)) (by (with_reducible repeat (first | refine blk_drewN ?_ _ | refine blk_drew ?_ | refine blk_alloc ?_ _)); exact BK264.out)) : gb298 ≠ gb264)); have n20_ := Aside0.mk ((by rw [hg]; exact Nat.ne_of_lt (blk_lt (g := gb279) (o := .cells #[.int .i64 t270, .int .i64 t271, .slice Ao33 t272.length co33] 29 (0, 0)) (by (with_reducible repeat (first | refine blk_drewN ?_ _ | refine blk_drew ?_ | refine blk_alloc ?_ _)); exact BK279.out)) : gb279 ≠ gb298)); have n21_ := Aside0.mk ((by rw [hg]; exact Nat.ne_of_gt (blk_lt (g := gb279) (o := .cells #[.int .i64 t270, .int .i64 t271, .slice Ao33 t272.length co33] 29 (0, 0)) (by (with_reducible repeat (first | refine blk_drewN ?_ _ | refine blk_drew ?_ | refine blk_alloc ?_ _)); exact BK279.out)) : gb298 ≠ gb279)); have n22_ := Aside0.mk ((by rw [hg]; exact Nat.ne_of_lt (blk_lt (g := gb286) (o := .cells #[.int .i64 t280, .int .i64 t281, .slice Ao42 t282.length co42] 24 (0, 0)) (by (with_reducible repeat (first | refine blk_drewN ?_ _ | refine blk_drew ?_ | refine blk_alloc ?_ _)); exact BK286.out)) : gb286 ≠ gb298)); have n23_ := Aside0.mk ((by rw [hg]; exact Nat.ne_of_gt (blk_lt (g := gb286) (o := .cells #[.int .i64 t280, .int .i64 t281, .slice Ao42 t282.length co42] 24 (0, 0)) (by (with_reducible repeat (first | refine blk_drewN ?_ _ | refine blk_drew ?_ | refine blk_alloc ?_ _)); exact BK286.out)) : gb298 ≠ gb286)); clear HO259; clear HO262; clear HO269; clear HO274; clear HO277; clear HO284; clear HO291; clear HO296; clear BK253; clear BK264; clear BK279; clear BK286; clear HB; have HO259 := n0_; have HO262 := n1_; have HO269 := n2_; have HO274 := n3_; have HO277 := n4_; have HO284 := n5_; have HO291 := n6_; have HO296 := n7_; have BK253 := n8_; have BK264 := n9_; have BK279 := n10_; have BK286 := n11_; have HB := n12_; have BK298 := n13_; have GW298 := n14_; have GE298 := n15_; have NB253_298 := n16_; have NB298_253 := n17_; have NB264_298 := n18_; have NB298_264 := n19_; have NB279_298 := n20_; have NB298_279 := n21_; have NB286_298 := n22_; have NB298_286 := n23_; clear n0_ n1_ n2_ n3_ n4_ n5_ n6_ n7_ n8_ n9_ n10_ n11_ n12_ n13_ n14_ n15_ n16_ n17_ n18_ n19_ n20_ n21_ n22_ n23_; clear hb hbox hg; have hnb49 := NB298_253.out; have hnc49 := NB253_298.out; have hnb50 := NB298_264.out; have hnc50 := NB264_298.out; have hnb51 := NB298_279.out; have hnc51 := NB279_298.out; have hnb52 := NB298_286.out; have hnc52 := NB286_298.out; have hcz53_0 : w48.cell? ⟨gb298, 0, none⟩ = some (.int .i64 0) := (blk_cell BK298.out 0).trans rfl; have hcz53_1 : w48.cell? ⟨gb298, 1, none⟩ = some (.int .i64 0) := (blk_cell BK298.out 1).trans rfl; have hcz53_2 : w48.cell? ⟨gb298, 2, none⟩ = some (.slice none 0 0) := (blk_cell BK298.out 2).trans rfl; have hfz53_0 := blk_frozen BK298.out 0; have hfz53_1 := blk_frozen BK298.out 1; have hfz53_2 := blk_frozen BK298.out 2; obtain ⟨Ao54, co54, eo54⟩ := Kd.V_slice HO296.out; subst eo54) | ((with_reducible refine gate_callee (f := 14) rfl ?_); refine goesL_ (some 53) rfl rfl Try.func14 (by kernel_rfl) rfl #[.int .i64 a1] rfl (by (try simp only [List.map_toArray, List.map_cons, List.map_nil]); first | done | rfl | (simp only [List.length_drop, List.length_take]; rfl)) ?_; (with_reducible refine (gate_New.calls k a1 t299 t300 t301 t304 _ A14.out).mono ?_); rintro e w55 ⟨v302, rfl, ho0, hb⟩; refine ⟨_, rfl, ?_⟩; have n0_ := Aside0.mk (Kd.V_elder' (by (with_reducible repeat (first | apply Kd.V_alloc | apply Kd.V_drewN | apply Kd.V_drew)); exact (Kd.V_mono (Kd.V_far (p := ⟨gb298, 2, none⟩) (Kd.V_far (p := ⟨gb298, 1, none⟩) (Kd.V_far (p := ⟨gb298, 0, none⟩) (Kd.V_mono HO259.out (fun k_ hk => (⟨hk, hk.2⟩ : _ ∧ k_ ≠ gb298))) (fun _ hk => hk.2) (.int .i64 t292)) (fun _ hk => hk.2) (.int .i64 t293)) (fun _ hk => hk.2) (.slice Ao54 t294.length co54)) (fun _ h_ => h_.1))) (Kd.R_base ho0) hb); have n1_ := Aside0.mk (Kd.R_elder' (by (with_reducible repeat (first | apply Kd.R_alloc | apply Kd.R_drewN | apply Kd.R_drew)); exact (Kd.R_mono (Kd.R_far (p := ⟨gb298, 2, none⟩) (Kd.R_far (p := ⟨gb298, 1, none⟩) (Kd.R_far (p := ⟨gb298, 0, none⟩) (Kd.R_types HO262.out BK298.out (by decide)) (fun _ hk => hk.2) (.int .i64 t292)) (fun _ hk => hk.2) (.int .i64 t293)) (fun _ hk => hk.2) (.slice Ao54 t294.length co54)) (fun _ h_ => h_.1))) (Kd.R_base ho0) hb); have n2_ := Aside0.mk (Kd.V_elder' (by (with_reducible repeat (first | apply Kd.V_alloc | apply Kd.V_drewN | apply Kd.V_drew)); exact (Kd.V_mono (Kd.V_far (p := ⟨gb298, 2, none⟩) (Kd.V_far (p := ⟨gb298, 1, none⟩) (Kd.V_far (p := ⟨gb298, 0, none⟩) (Kd.V_mono HO269.out (fun k_ hk => (⟨hk, hk.2⟩ : _ ∧ k_ ≠ gb298))) (fun _ hk => hk.2) (.int .i64 t292)) (fun _ hk => hk.2) (.int .i64 t293)) (fun _ hk => hk.2) (.slice Ao54 t294.length co54)) (fun _ h_ => h_.1))) (Kd.R_base ho0) hb); have n3_ := Aside0.mk (Kd.V_elder' (by (with_reducible repeat (first | apply Kd.V_alloc | apply Kd.V_drewN | apply Kd.V_drew)); exact (Kd.V_mono (Kd.V_far (p := ⟨gb298, 2, none⟩) (Kd.V_far (p := ⟨gb298, 1, none⟩) (Kd.V_far (p := ⟨gb298, 0, none⟩) (Kd.V_mono HO274.out (fun k_ hk => (⟨hk, hk.2⟩ : _ ∧ k_ ≠ gb298))) (fun _ hk => hk.2) (.int .i64 t292)) (fun _ hk => hk.2) (.int .i64 t293)) (fun _ hk => hk.2) (.slice Ao54 t294.length co54)) (fun _ h_ => h_.1))) (Kd.R_base ho0) hb); have n4_ := Aside0.mk (Kd.R_elder' (by (with_reducible repeat (first | apply Kd.R_alloc | apply Kd.R_drewN | apply Kd.R_drew)); exact (Kd.R_mono (Kd.R_far (p := ⟨gb298, 2, none⟩) (Kd.R_far (p := ⟨gb298, 1, none⟩) (Kd.R_far (p := ⟨gb298, 0, none⟩) (Kd.R_types HO277.out BK298.out (by decide)) (fun _ hk => hk.2) (.int .i64 t292)) (fun _ hk => hk.2) (.int .i64 t293)) (fun _ hk => hk.2) (.slice Ao54 t294.length co54)) (fun _ h_ => h_.1))) (Kd.R_base ho0) hb); have n5_ := Aside0.mk (Kd.V_elder' (by (with_reducible repeat (first | apply Kd.V_alloc | apply Kd.V_drewN | apply Kd.V_drew)); exact (Kd.V_mono (Kd.V_far (p := ⟨gb298, 2, none⟩) (Kd.V_far (p := ⟨gb298, 1, none⟩) (Kd.V_far (p := ⟨gb298, 0, none⟩) (Kd.V_mono HO284.out (fun k_ hk => (⟨hk, hk.2⟩ : _ ∧ k_ ≠ gb298))) (fun _ hk => hk.2) (.int .i64 t292)) (fun _ hk => hk.2) (.int .i64 t293)) (fun _ hk => hk.2) (.slice Ao54 t294.length co54)) (fun _ h_ => h_.1))) (Kd.R_base ho0) hb); have n6_ := Aside0.mk (Kd.V_elder' (by (with_reducible repeat (first | apply Kd.V_alloc | apply Kd.V_drewN | apply Kd.V_drew)); exact (Kd.V_mono (Kd.V_far (p := ⟨gb298, 2, none⟩) (Kd.V_far (p := ⟨gb298, 1, none⟩) (Kd.V_far (p := ⟨gb298, 0, none⟩) (Kd.V_mono HO291.out (fun k_ hk => (⟨hk, hk.2⟩ : _ ∧ k_ ≠ gb298))) (fun _ hk => hk.2) (.int .i64 t292)) (fun _ hk => hk.2) (.int .i64 t293)) (fun _ hk => hk.2) (.slice Ao54 t294.length co54)) (fun _ h_ => h_.1))) (Kd.R_base ho0) hb); have n7_ := Aside0.mk (Kd.V_elder' (by (with_reducible repeat (first | apply Kd.V_alloc | apply Kd.V_drewN | apply Kd.V_drew)); exact (Kd.V_mono (Kd.V_far (p := ⟨gb298, 2, none⟩) (Kd.V_far (p := ⟨gb298, 1, none⟩) (Kd.V_far (p := ⟨gb298, 0, none⟩) (Kd.V_mono HO296.out (fun k_ hk => (⟨hk, hk.2⟩ : _ ∧ k_ ≠ gb298))) (fun _ hk => hk.2) (.int .i64 t292)) (fun _ hk => hk.2) (.int .i64 t293)) (fun _ hk => hk.2) (.slice Ao54 t294.length co54)) (fun _ h_ => h_.1))) (Kd.R_base ho0) hb); have n8_ := Aside0.mk (Kd.R_lower (Kd.R_new' (Kd.R_new' ho0 (Kd.R_lt (by (with_reducible repeat (first | apply Kd.R_alloc | apply Kd.R_drewN | apply Kd.R_drew)); exact (Kd.R_mono (Kd.R_far (p := ⟨gb298, 2, none⟩) (Kd.R_far (p := ⟨gb298, 1, none⟩) (Kd.R_far (p := ⟨gb298, 0, none⟩) (Kd.R_types HO262.out BK298.out (by decide)) (fun _ hk => hk.2) (.int .i64 t292)) (fun _ hk => hk.2) (.int .i64 t293)) (fun _ hk => hk.2) (.slice Ao54 t294.length co54)) (fun _ h_ => h_.1))))) (Kd.R_lt (by (with_reducible repeat (first | apply Kd.R_alloc | apply Kd.R_drewN | apply Kd.R_drew)); exact (Kd.R_mono (Kd.R_far (p := ⟨gb298, 2, none⟩) (Kd.R_far (p := ⟨gb298, 1, none⟩) (Kd.R_far (p := ⟨gb298, 0, none⟩) (Kd.R_types HO277.out BK298.out (by decide)) (fun _ hk => hk.2) (.int .i64 t292)) (fun _ hk => hk.2) (.int .i64 t293)) (fun _ hk => hk.2) (.slice Ao54 t294.length co54)) (fun _ h_ => h_.1))))) (below_size (by repeat (first | (with_reducible first | exact HB.out | apply below_alloc | apply pw_below_drewN | apply below_drew1 | refine below_set ?_ GE253.out | refine below_set ?_ GE264.out | refine below_set ?_ GE279.out | refine below_set ?_ GE286.out | refine below_set ?_ GE298.out) | exact HB.out)))); have n9_ := Aside0.mk (blk_below (g := gb253) (o := .cells #[.int .i64 a0_0, .int .i64 a0_1, .slice A0_2 l0_2.length c0_2] 24 (0, 0)) (by (with_reducible repeat (first | refine blk_drewN ?_ _ | refine blk_drew ?_ | refine blk_alloc ?_ _)); refine blk_far ?_ NB253_298.out _; (with_reducible repeat (first | refine blk_drewN ?_ _ | refine blk_drew ?_ | refine blk_alloc ?_ _)); refine blk_far ?_ NB253_298.out _; (with_reducible repeat (first | refine blk_drewN ?_ _ | refine blk_drew ?_ | refine blk_alloc ?_ _)); refine blk_far ?_ NB253_298.out _; (with_reducible repeat (first | refine blk_drewN ?_ _ | refine blk_drew ?_ | refine blk_alloc ?_ _)); exact BK253.out) hb); have n10_ := Aside0.mk (blk_below (g := gb264) (o := .cells #[.int .i64 t255, .int .i64 t256, .slice Ao23 t257.length co23] 24 (0, 0)) (by (with_reducible repeat (first | refine blk_drewN ?_ _ | refine blk_drew ?_ | refine blk_alloc ?_ _)); refine blk_far ?_ NB264_298.out _; (with_reducible repeat (first | refine blk_drewN ?_ _ | refine blk_drew ?_ | refine blk_alloc ?_ _)); refine blk_far ?_ NB264_298.out _; (with_reducible repeat (first | refine blk_drewN ?_ _ | refine blk_drew ?_ | refine blk_alloc ?_ _)); refine blk_far ?_ NB264_298.out _; (with_reducible repeat (first | refine blk_drewN ?_ _ | refine blk_drew ?_ | refine blk_alloc ?_ _)); exact BK264.out) hb); have n11_ := Aside0.mk (blk_below (g := gb279) (o := .cells #[.int .i64 t270, .int .i64 t271, .slice Ao33 t272.length co33] 29 (0, 0)) (by (with_reducible repeat (first | refine blk_drewN ?_ _ | refine blk_drew ?_ | refine blk_alloc ?_ _)); refine blk_far ?_ NB279_298.out _; (with_reducible repeat (first | refine blk_drewN ?_ _ | refine blk_drew ?_ | refine blk_alloc ?_ _)); refine blk_far ?_ NB279_298.out _; (with_reducible repeat (first | refine blk_drewN ?_ _ | refine blk_drew ?_ | refine blk_alloc ?_ _)); refine blk_far ?_ NB279_298.out _; (with_reducible repeat (first | refine blk_drewN ?_ _ | refine blk_drew ?_ | refine blk_alloc ?_ _)); exact BK279.out) hb); have n12_ := Aside0.mk (blk_below (g := gb286) (o := .cells #[.int .i64 t280, .int .i64 t281, .slice Ao42 t282.length co42] 24 (0, 0)) (by (with_reducible repeat (first | refine blk_drewN ?_ _ | refine blk_drew ?_ | refine blk_alloc ?_ _)); refine blk_far ?_ NB286_298.out _; (with_reducible repeat (first | refine blk_drewN ?_ _ | refine blk_drew ?_ | refine blk_alloc ?_ _)); refine blk_far ?_ NB286_298.out _; (with_reducible repeat (first | refine blk_drewN ?_ _ | refine blk_drew ?_ | refine blk_alloc ?_ _)); refine blk_far ?_ NB286_298.out _; (with_reducible repeat (first | refine blk_drewN ?_ _ | refine blk_drew ?_ | refine blk_alloc ?_ _)); exact BK286.out) hb); have n13_ := Aside0.mk (blk_below (g := gb298) (o := .cells #[.int .i64 t292, .int .i64 t293, .slice Ao54 t294.length co54] 29 (0, 0)) (by (with_reducible repeat (first | refine blk_drewN ?_ _ | refine blk_drew ?_ | refine blk_alloc ?_ _)); refine blk_put (cs := #[.int .i64 t292, .int .i64 t293, .slice none 0 0]) ?_ 2 _ rfl; (with_reducible repeat (first | refine blk_drewN ?_ _ | refine blk_drew ?_ | refine blk_alloc ?_ _)); refine blk_put (cs := #[.int .i64 t292, .int .i64 0, .slice none 0 0]) ?_ 1 _ rfl; (with_reducible repeat (first | refine blk_drewN ?_ _ | refine blk_drew ?_ | refine blk_alloc ?_ _)); refine blk_put (cs := #[.int .i64 0, .int .i64 0, .slice none 0 0]) ?_ 0 _ rfl; (with_reducible repeat (first | refine blk_drewN ?_ _ | refine blk_drew ?_ | refine blk_alloc ?_ _)); exact BK298.out) hb); have n14_ := Aside0.mk (below_step (by repeat (first | (with_reducible first | exact HB.out | apply below_alloc | apply pw_below_drewN | apply below_drew1 | refine below_set ?_ GE253.out | refine below_set ?_ GE264.out | refine below_set ?_ GE279.out | refine below_set ?_ GE286.out | refine below_set ?_ GE298.out) | exact HB.out)) hb); clear HO259; clear HO262; clear HO269; clear HO274; clear HO277; clear HO284; clear HO291; clear HO296; clear BK253; clear BK264; clear BK279; clear BK286; clear BK298; clear HB; have HO259 := n0_; have HO262 := n1_; have HO269 := n2_; have HO274 := n3_; have HO277 := n4_; have HO284 := n5_; have HO291 := n6_; have HO296 := n7_; have HO303 := n8_; have BK253 := n9_; have BK264 := n10_; have BK279 := n11_; have BK286 := n12_; have BK298 := n13_; have HB := n14_; clear n0_ n1_ n2_ n3_ n4_ n5_ n6_ n7_ n8_ n9_ n10_ n11_ n12_ n13_ n14_; (try clear hb); (try clear hb2); (try clear hk); (try clear hi); (try clear ho0)) | ((with_reducible refine gate_dst (N := 15) rfl ?_); (try (refine gate_guard (by rfl) ?_; dsimp only)); refine box_event ?hg (N := 15) ?hd (cs := #[.int .i64 0, .int .i64 0, .slice none 0 0]) (t := 24) ?hr ?_; (case hd => rfl); (case hg => rfl); (case hr => first | (go_simp; done) | (go_simp; rfl)); intro gb305 hg w56 hbox hb; have n0_ := Aside0.mk (Kd.V_below (Kd.V_elderB (by (with_reducible repeat (first | apply Kd.V_alloc | apply Kd.V_drewN | apply Kd.V_drew)); exact HO259.out) gb305 (Nat.le_of_eq hg.symm)) hb); have n1_ := Aside0.mk (Kd.R_below (by (with_reducible repeat (first | apply Kd.R_alloc | apply Kd.R_drewN | apply Kd.R_drew)); exact HO262.out) hb); have n2_ := Aside0.mk (Kd.V_below (Kd.V_elderB (by (with_reducible repeat (first | apply Kd.V_alloc | apply Kd.V_drewN | apply Kd.V_drew)); exact HO269.out) gb305 (Nat.le_of_eq hg.symm)) hb); have n3_ := Aside0.mk (Kd.V_below (Kd.V_elderB (by (with_reducible repeat (first | apply Kd.V_alloc | apply Kd.V_drewN | apply Kd.V_drew)); exact HO274.out) gb305 (Nat.le_of_eq hg.symm)) hb); have n4_ := Aside0.mk (Kd.R_below (by (with_reducible repeat (first | apply Kd.R_alloc | apply Kd.R_drewN | apply Kd.R_drew)); exact HO277.out) hb); have n5_ := Aside0.mk (Kd.V_below (Kd.V_elderB (by (with_reducible repeat (first | apply Kd.V_alloc | apply Kd.V_drewN | apply Kd.V_drew)); exact HO284.out) gb305 (Nat.le_of_eq hg.symm)) hb); have n6_ := Aside0.mk (Kd.V_below (Kd.V_elderB (by (with_reducible repeat (first | apply Kd.V_alloc | apply Kd.V_drewN | apply Kd.V_drew)); exact HO291.out) gb305 (Nat.le_of_eq hg.symm)) hb); have n7_ := Aside0.mk (Kd.V_below (Kd.V_elderB (by (with_reducible repeat (first | apply Kd.V_alloc | apply Kd.V_drewN | apply Kd.V_drew)); exact HO296.out) gb305 (Nat.le_of_eq hg.symm)) hb); have n8_ := Aside0.mk (Kd.R_below (by (with_reducible repeat (first | apply Kd.R_alloc | apply Kd.R_drewN | apply Kd.R_drew)); exact HO303.out) hb); have n9_ := Aside0.mk (blk_below (g := gb253) (o := .cells #[.int .i64 a0_0, .int .i64 a0_1, .slice A0_2 l0_2.length c0_2] 24 (0, 0)) (by (with_reducible repeat (first | refine blk_drewN ?_ _ | refine blk_drew ?_ | refine blk_alloc ?_ _)); exact BK253.out) hb); have n10_ := Aside0.mk (blk_below (g := gb264) (o := .cells #[.int .i64 t255, .int .i64 t256, .slice Ao23 t257.length co23] 24 (0, 0)) (by (with_reducible repeat (first | refine blk_drewN ?_ _ | refine blk_drew ?_ | refine blk_alloc ?_ _)); exact BK264.out) hb); have n11_ := Aside0.mk (blk_below (g := gb279) (o := .cells #[.int .i64 t270, .int .i64 t271, .slice Ao33 t272.length co33] 29 (0, 0)) (by (with_reducible repeat (first | refine blk_drewN ?_ _ | refine blk_drew ?_ | refine blk_alloc ?_ _)); exact BK279.out) hb); have n12_ := Aside0.mk (blk_below (g := gb286) (o := .cells #[.int .i64 t280, .int .i64 t281, .slice Ao42 t282.length co42] 24 (0, 0)) (by (with_reducible repeat (first | refine blk_drewN ?_ _ | refine blk_drew ?_ | refine blk_alloc ?_ _)); exact BK286.out) hb); have n13_ := Aside0.mk (blk_below (g := gb298) (o := .cells #[.int .i64 t292, .int .i64 t293, .slice Ao54 t294.length co54] 29 (0, 0)) (by (with_reducible repeat (first | refine blk_drewN ?_ _ | refine blk_drew ?_ | refine blk_alloc ?_ _)); exact BK298.out) hb); have n14_ := Aside0.mk (below_step (by repeat (first | (with_reducible first | exact HB.out | apply below_alloc | apply pw_below_drewN | apply below_drew1 | refine below_set ?_ GE253.out | refine below_set ?_ GE264.out | refine below_set ?_ GE279.out | refine below_set ?_ GE286.out | refine below_set ?_ GE298.out) | exact HB.out)) hb); have n15_ := Aside0.mk (hbox); have n16_ := Aside0.mk ((by rw [hg]; exact (below_size (by repeat (first | (with_reducible first | exact HB.out | apply below_alloc | apply pw_below_drewN | apply below_drew1 | refine below_set ?_ GE253.out | refine below_set ?_ GE264.out | refine below_set ?_ GE279.out | refine below_set ?_ GE286.out | refine below_set ?_ GE298.out) | exact HB.out))) : w.heap.size ≤ gb305)); have n17_ := Aside0.mk ((by rw [hg]; exact (below_size (by repeat (first | (with_reducible first | exact HB.out | apply below_alloc | apply pw_below_drewN | apply below_drew1 | refine below_set ?_ GE253.out | refine below_set ?_ GE264.out | refine below_set ?_ GE279.out | refine below_set ?_ GE286.out | refine below_set ?_ GE298.out) | exact HB.out))) : w.heap.size ≤ gb305)); have n18_ := Aside0.mk ((by rw [hg]; exact Nat.ne_of_lt (blk_lt (g := gb253) (o := .cells #[.int .i64 a0_0, .int .i64 a0_1, .slice A0_2 l0_2.length c0_2] 24 (0, 0)) (by (with_reducible repeat (first | refine blk_drewN ?_ _ | refine blk_drew ?_ | refine blk_alloc ?_ _)); exact BK253.out)) : gb253 ≠ gb305)); have n19_ := Aside0.mk ((by rw [hg]; exact Nat.ne_of_gt (blk_lt (g := gb253) (o := .cells #[.int .i64 a0_0, .int .i64 a0_1, .slice A0_2 l0_2.length c0_2] 24 (0, 0)) (by (with_reducible repeat (first | refine blk_drewN ?_ _ | refine blk_drew ?_ | refine blk_alloc ?_ _)); exact BK253.out)) : gb305 ≠ gb253)); have n20_ := Aside0.mk ((by rw [hg]; exact Nat.ne_of_lt (blk_lt (g := gb264) (o := .cells #[.int .i64 t255, .int .i64 t256, .slice Ao23 t257.length co23] 24 (0, 0)) (by (with_reducible repeat (first | refine blk_drewN ?_ _ | refine blk_drew ?_ | refine blk_alloc ?_ _)); exact BK264.out)) : gb264 ≠ gb305)); have n21_ := Aside0.mk ((by rw [hg]; exact Nat.ne_of_gt (blk_lt (g := gb264) (o := .cells #[.int .i64 t255, .int .i64 t256, .slice Ao23 t257.length co23] 24 (0, 0)) (by (with_reducible repeat (first | refine blk_drewN ?_ _ | refine blk_drew ?_ | refine blk_alloc ?_ _)); exact BK264.out)) : gb305 ≠ gb264)); have n22_ := Aside0.mk ((by rw [hg]; exact Nat.ne_of_lt (blk_lt (g := gb279) (o := .cells #[.int .i64 t270, .int .i64 t271, .slice Ao33 t272.length co33] 29 (0, 0)) (by (with_reducible repeat (first | refine blk_drewN ?_ _ | refine blk_drew ?_ | refine blk_alloc ?_ _)); exact BK279.out)) : gb279 ≠ gb305)); have n23_ := Aside0.mk ((by rw [hg]; exact Nat.ne_of_gt (blk_lt (g := gb279) (o := .cells #[.int .i64 t270, .int .i64 t271, .slice Ao33 t272.length co33] 29 (0, 0)) (by (with_reducible repeat (first | refine blk_drewN ?_ _ | refine blk_drew ?_ | refine blk_alloc ?_ _)); exact BK279.out)) : gb305 ≠ gb279)); have n24_ := Aside0.mk ((by rw [hg]; exact Nat.ne_of_lt (blk_lt (g := gb286) (o := .cells #[.int .i64 t280, .int .i64 t281, .slice Ao42 t282.length co42] 24 (0, 0)) (by (with_reducible repeat (first | refine blk_drewN ?_ _ | refine blk_drew ?_ | refine blk_alloc ?_ _)); exact BK286.out)) : gb286 ≠ gb305)); have n25_ := Aside0.mk ((by rw [hg]; exact Nat.ne_of_gt (blk_lt (g := gb286) (o := .cells #[.int .i64 t280, .int .i64 t281, .slice Ao42 t282.length co42] 24 (0, 0)) (by (with_reducible repeat (first | refine blk_drewN ?_ _ | refine blk_drew ?_ | refine blk_alloc ?_ _)); exact BK286.out)) : gb305 ≠ gb286)); have n26_ := Aside0.mk ((by rw [hg]; exact Nat.ne_of_lt (blk_lt (g := gb298) (o := .cells #[.int .i64 t292, .int .i64 t293, .slice Ao54 t294.length co54] 29 (0, 0)) (by (with_reducible repeat (first | refine blk_drewN ?_ _ | refine blk_drew ?_ | refine blk_alloc ?_ _)); exact BK298.out)) : gb298 ≠ gb305)); have n27_ := Aside0.mk ((by rw [hg]; exact Nat.ne_of_gt (blk_lt (g := gb298) (o := .cells #[.int .i64 t292, .int .i64 t293, .slice Ao54 t294.length co54] 29 (0, 0)) (by (with_reducible repeat (first | refine blk_drewN ?_ _ | refine blk_drew ?_ | refine blk_alloc ?_ _)); exact BK298.out)) : gb305 ≠ gb298)); clear HO259; clear HO262; clear HO269; clear HO274; clear HO277; clear HO284; clear HO291; clear HO296; clear HO303; clear BK253; clear BK264; clear BK279; clear BK286; clear BK298; clear HB; have HO259 := n0_; have HO262 := n1_; have HO269 := n2_; have HO274 := n3_; have HO277 := n4_; have HO284 := n5_; have HO291 := n6_; have HO296 := n7_; have HO303 := n8_; have BK253 := n9_; have BK264 := n10_; have BK279 := n11_; have BK286 := n12_; have BK298 := n13_; have HB := n14_; have BK305 := n15_; have GW305 := n16_; have GE305 := n17_; have NB253_305 := n18_; have NB305_253 := n19_; have NB264_305 := n20_; have NB305_264 := n21_; have NB279_305 := n22_; have NB305_279 := n23_; have NB286_305 := n24_; have NB305_286 := n25_; have NB298_305 := n26_; have NB305_298 := n27_; clear n0_ n1_ n2_ n3_ n4_ n5_ n6_ n7_ n8_ n9_ n10_ n11_ n12_ n13_ n14_ n15_ n16_ n17_ n18_ n19_ n20_ n21_ n22_ n23_ n24_ n25_ n26_ n27_; clear hb hbox hg; have hnb57 := NB305_253.out; have hnc57 := NB253_305.out; have hnb58 := NB305_264.out; have hnc58 := NB264_305.out; have hnb59 := NB305_279.out; have hnc59 := NB279_305.out; have hnb60 := NB305_286.out; have hnc60 := NB286_305.out; have hnb61 := NB305_298.out; have hnc61 := NB298_305.out; have hcz62_0 : w56.cell? ⟨gb305, 0, none⟩ = some (.int .i64 0) := (blk_cell BK305.out 0).trans rfl; have hcz62_1 : w56.cell? ⟨gb305, 1, none⟩ = some (.int .i64 0) := (blk_cell BK305.out 1).trans rfl; have hcz62_2 : w56.cell? ⟨gb305, 2, none⟩ = some (.slice none 0 0) := (blk_cell BK305.out 2).trans rfl; have hfz62_0 := blk_frozen BK305.out 0; have hfz62_1 := blk_frozen BK305.out 1; have hfz62_2 := blk_frozen BK305.out 2; obtain ⟨Ao63, co63, eo63⟩ := Kd.R_slice HO303.out; subst eo63) | ((with_reducible refine gate_callee (f := 15) rfl ?_); refine goesL_ (some 57) rfl rfl Try.func15 (by kernel_rfl) rfl #[.int .i64 a1] rfl (by (try simp only [List.map_toArray, List.map_cons, List.map_nil]); first | done | rfl | (simp only [List.length_drop, List.length_take]; rfl)) ?_; (with_reducible refine (handshakerref03_Who.calls a1 t306 _ A15.out).mono ?_); rintro e w' ⟨rfl, ⟨nd, rfl⟩⟩; refine ⟨_, rfl, ?_⟩))
    (try simp only [Act.put, List.setIfInBounds_toArray, List.set_cons_zero, List.set_cons_succ])
    go_cut [89] (fun v89 wc => ∃ (kq : Nat) (x89_15 : Bool), v89 = .bool x89_15 ∧ Aside0 (handshakerlaw19_GateTells.j0 kq a1 t260 t263 t275 t278 t285 t297 x89_15 a0_0 a0_1 l0_2 t255 t256 t257 t270 t271 t272 t280 t281 t282 t292 t293 t294 = some r) ∧ Aside0 (kq ≤ k) ∧ Aside0 (Kd.R (Kd.int .i64) 3 wc w.heap.size (fun k_ => some k_ ≠ (v276 : Value).ownBlock ∧ some k_ ≠ ((.slice Ao63 t301.length co63) : Value).ownBlock) v261 t260) ∧ Aside0 (Kd.R (Kd.int .i64) 3 wc w.heap.size (fun k_ => some k_ ≠ (v261 : Value).ownBlock ∧ some k_ ≠ ((.slice Ao63 t301.length co63) : Value).ownBlock) v276 t275) ∧ Aside0 (Kd.V (Kd.int .i64) 3 wc w.heap.size (fun k_ => some k_ ≠ (v261 : Value).ownBlock ∧ some k_ ≠ (v276 : Value).ownBlock ∧ some k_ ≠ ((.slice Ao63 t301.length co63) : Value).ownBlock ∧ k_ ≠ gb253 ∧ k_ ≠ gb264 ∧ k_ ≠ gb279 ∧ k_ ≠ gb286 ∧ k_ ≠ gb298 ∧ k_ ≠ gb305) (.slice Ao23 t257.length co23) t257) ∧ Aside0 (Kd.V (Kd.int .i64) 3 wc w.heap.size (fun k_ => some k_ ≠ (v261 : Value).ownBlock ∧ some k_ ≠ (v276 : Value).ownBlock ∧ some k_ ≠ ((.slice Ao63 t301.length co63) : Value).ownBlock ∧ k_ ≠ gb253 ∧ k_ ≠ gb264 ∧ k_ ≠ gb279 ∧ k_ ≠ gb286 ∧ k_ ≠ gb298 ∧ k_ ≠ gb305) (.slice Ao33 t272.length co33) t272) ∧ Aside0 (Kd.V (Kd.int .i64) 3 wc w.heap.size (fun k_ => some k_ ≠ (v261 : Value).ownBlock ∧ some k_ ≠ (v276 : Value).ownBlock ∧ some k_ ≠ ((.slice Ao63 t301.length co63) : Value).ownBlock ∧ k_ ≠ gb253 ∧ k_ ≠ gb264 ∧ k_ ≠ gb279 ∧ k_ ≠ gb286 ∧ k_ ≠ gb298 ∧ k_ ≠ gb305) (.slice Ao42 t282.length co42) t282) ∧ Aside0 (Kd.V (Kd.int .i64) 3 wc w.heap.size (fun k_ => some k_ ≠ (v261 : Value).ownBlock ∧ some k_ ≠ (v276 : Value).ownBlock ∧ some k_ ≠ ((.slice Ao63 t301.length co63) : Value).ownBlock ∧ k_ ≠ gb253 ∧ k_ ≠ gb264 ∧ k_ ≠ gb279 ∧ k_ ≠ gb286 ∧ k_ ≠ gb298 ∧ k_ ≠ gb305) (.slice Ao54 t294.length co54) t294) ∧ Aside0 (Kd.R (Kd.int .i64) 3 wc w.heap.size (fun k_ => some k_ ≠ (v261 : Value).ownBlock ∧ some k_ ≠ (v276 : Value).ownBlock) (.slice Ao63 t301.length co63) t301) ∧ Aside0 (wc.heap[gb253]? = some (.cells #[.int .i64 a0_0, .int .i64 a0_1, (.slice A0_2 l0_2.length c0_2)] 24 (0, 0))) ∧ Aside0 (wc.heap[gb264]? = some (.cells #[.int .i64 t255, .int .i64 t256, (.slice Ao23 t257.length co23)] 24 (0, 0))) ∧ Aside0 (wc.heap[gb279]? = some (.cells #[.int .i64 t270, .int .i64 t271, (.slice Ao33 t272.length co33)] 29 (0, 0))) ∧ Aside0 (wc.heap[gb286]? = some (.cells #[.int .i64 t280, .int .i64 t281, (.slice Ao42 t282.length co42)] 24 (0, 0))) ∧ Aside0 (wc.heap[gb298]? = some (.cells #[.int .i64 t292, .int .i64 t293, (.slice Ao54 t294.length co54)] 29 (0, 0))) ∧ Aside0 (wc.heap[gb305]? = some (.cells #[.int .i64 t299, .int .i64 t300, (.slice Ao63 t301.length co63)] 24 (0, 0))) ∧ Aside0 (Below w.heap.size w wc))
    case first =>
      have H := HC16.out
      clear HC16
      by_cases c64 : t304 = 0
      · rw [if_pos c64] at H
        have c64b0 : (t304 == 0) = true := beq_iff_eq.mpr c64
        have c64b1 : (t304 != 0) = false := bne_eq_false_iff_eq.mpr c64
        clear c64
        (first | rw [c64b0] | (simp only [i64_w, i32_w]; rw [c64b0]) | skip)
        by_cases c65 : t306 = true
        · subst c65
          have H1 : (if t299 = a1 then (if t300 = 0 then (if (t301.length : Int) = 0 then (handshakerlaw19_GateTells.j0 k a1 t260 t263 t275 t278 t285 t297 false a0_0 a0_1 l0_2 t255 t256 t257 t270 t271 t272 t280 t281 t282 t292 t293 t294) else (none)) else (none)) else (none)) = some r := by rw [if_pos rfl] at H; exact H
          clear H
          have H := H1
          clear H1
          by_cases c66 : t299 = a1
          · rw [if_pos c66] at H
            have c66b0 : (t299 == a1) = true := beq_iff_eq.mpr c66
            have c66b1 : (t299 != a1) = false := bne_eq_false_iff_eq.mpr c66
            clear c66
            by_cases c67 : t300 = 0
            · rw [if_pos c67] at H
              have c67b0 : (t300 == 0) = true := beq_iff_eq.mpr c67
              have c67b1 : (t300 != 0) = false := bne_eq_false_iff_eq.mpr c67
              clear c67
              by_cases c68 : (t301.length : Int) = 0
              · rw [if_pos c68] at H
                have c68b0 : ((t301.length : Int) == 0) = true := beq_iff_eq.mpr c68
                have c68b1 : ((t301.length : Int) != 0) = false := bne_eq_false_iff_eq.mpr c68
                clear c68
                have H' := Aside0.mk H
                clear H
                have hnb69 := NB305_253.out
                have hnc69 := NB253_305.out
                have hnb70 := NB305_264.out
                have hnc70 := NB264_305.out
                have hnb71 := NB305_279.out
                have hnc71 := NB279_305.out
                have hnb72 := NB305_286.out
                have hnc72 := NB286_305.out
                have hnb73 := NB305_298.out
                have hnc73 := NB298_305.out
                have hcz74_0 : w56.cell? ⟨gb305, 0, none⟩ = some (.int .i64 0) := (blk_cell BK305.out 0).trans rfl
                have hcz74_1 : w56.cell? ⟨gb305, 1, none⟩ = some (.int .i64 0) := (blk_cell BK305.out 1).trans rfl
                have hcz74_2 : w56.cell? ⟨gb305, 2, none⟩ = some (.slice none 0 0) := (blk_cell BK305.out 2).trans rfl
                have hfz74_0 := blk_frozen BK305.out 0
                have hfz74_1 := blk_frozen BK305.out 1
                have hfz74_2 := blk_frozen BK305.out 2
                go_wp2
                go_meet
                case rel => exact ⟨_, (false), (by first | rfl | (simp; done) | (simp [*]; done)), H', ⟨by first | omega | exact Nat.le_refl _⟩, ⟨by (with_reducible repeat (first | apply Kd.R_alloc | apply Kd.R_drewN | apply Kd.R_drew)); exact Kd.R_mono (Kd.R_far (p := ⟨gb305, 2, none⟩) (Kd.R_far (p := ⟨gb305, 1, none⟩) (Kd.R_far (p := ⟨gb305, 0, none⟩) (Kd.R_types HO262.out BK305.out (by decide)) (fun _ hk => hk.2) (.int .i64 t299)) (fun _ hk => hk.2) (.int .i64 t300)) (fun _ hk => hk.2) (.slice Ao63 t301.length co63)) (fun _ hk => ⟨hk.1.1, hk.1.2⟩)⟩, ⟨by (with_reducible repeat (first | apply Kd.R_alloc | apply Kd.R_drewN | apply Kd.R_drew)); exact Kd.R_mono (Kd.R_far (p := ⟨gb305, 2, none⟩) (Kd.R_far (p := ⟨gb305, 1, none⟩) (Kd.R_far (p := ⟨gb305, 0, none⟩) (Kd.R_types HO277.out BK305.out (by decide)) (fun _ hk => hk.2) (.int .i64 t299)) (fun _ hk => hk.2) (.int .i64 t300)) (fun _ hk => hk.2) (.slice Ao63 t301.length co63)) (fun _ hk => ⟨hk.1.1, hk.1.2⟩)⟩, ⟨by (with_reducible repeat (first | apply Kd.V_alloc | apply Kd.V_drewN | apply Kd.V_drew)); exact Kd.V_mono (Kd.V_far (p := ⟨gb305, 2, none⟩) (Kd.V_far (p := ⟨gb305, 1, none⟩) (Kd.V_far (p := ⟨gb305, 0, none⟩) (Kd.V_mono HO259.out (fun k_ hk => (⟨hk, hk.2⟩ : _ ∧ k_ ≠ gb305))) (fun _ hk => hk.2) (.int .i64 t299)) (fun _ hk => hk.2) (.int .i64 t300)) (fun _ hk => hk.2) (.slice Ao63 t301.length co63)) (fun _ hk => ⟨hk.1.1.1.1.1, ⟨hk.1.1.1.1.2.1, ⟨hk.1.1.2, ⟨hk.1.1.1.1.2.2.1, ⟨hk.1.1.1.1.2.2.2.1, ⟨hk.1.1.1.1.2.2.2.2.1, ⟨hk.1.1.1.1.2.2.2.2.2, ⟨hk.1.1.1.2, hk.1.2⟩⟩⟩⟩⟩⟩⟩⟩)⟩, ⟨by (with_reducible repeat (first | apply Kd.V_alloc | apply Kd.V_drewN | apply Kd.V_drew)); exact Kd.V_mono (Kd.V_far (p := ⟨gb305, 2, none⟩) (Kd.V_far (p := ⟨gb305, 1, none⟩) (Kd.V_far (p := ⟨gb305, 0, none⟩) (Kd.V_mono HO274.out (fun k_ hk => (⟨hk, hk.2⟩ : _ ∧ k_ ≠ gb305))) (fun _ hk => hk.2) (.int .i64 t299)) (fun _ hk => hk.2) (.int .i64 t300)) (fun _ hk => hk.2) (.slice Ao63 t301.length co63)) (fun _ hk => ⟨hk.1.1.1.1.1, ⟨hk.1.1.1.1.2.1, ⟨hk.1.1.2, ⟨hk.1.1.1.1.2.2.1, ⟨hk.1.1.1.1.2.2.2.1, ⟨hk.1.1.1.1.2.2.2.2.1, ⟨hk.1.1.1.1.2.2.2.2.2, ⟨hk.1.1.1.2, hk.1.2⟩⟩⟩⟩⟩⟩⟩⟩)⟩, ⟨by (with_reducible repeat (first | apply Kd.V_alloc | apply Kd.V_drewN | apply Kd.V_drew)); exact Kd.V_mono (Kd.V_far (p := ⟨gb305, 2, none⟩) (Kd.V_far (p := ⟨gb305, 1, none⟩) (Kd.V_far (p := ⟨gb305, 0, none⟩) (Kd.V_mono HO284.out (fun k_ hk => (⟨hk, hk.2⟩ : _ ∧ k_ ≠ gb305))) (fun _ hk => hk.2) (.int .i64 t299)) (fun _ hk => hk.2) (.int .i64 t300)) (fun _ hk => hk.2) (.slice Ao63 t301.length co63)) (fun _ hk => ⟨hk.1.1.1.1.1, ⟨hk.1.1.1.1.2.1, ⟨hk.1.1.2, ⟨hk.1.1.1.1.2.2.1, ⟨hk.1.1.1.1.2.2.2.1, ⟨hk.1.1.1.1.2.2.2.2.1, ⟨hk.1.1.1.1.2.2.2.2.2, ⟨hk.1.1.1.2, hk.1.2⟩⟩⟩⟩⟩⟩⟩⟩)⟩, ⟨by (with_reducible repeat (first | apply Kd.V_alloc | apply Kd.V_drewN | apply Kd.V_drew)); exact Kd.V_mono (Kd.V_far (p := ⟨gb305, 2, none⟩) (Kd.V_far (p := ⟨gb305, 1, none⟩) (Kd.V_far (p := ⟨gb305, 0, none⟩) (Kd.V_mono HO296.out (fun k_ hk => (⟨hk, hk.2⟩ : _ ∧ k_ ≠ gb305))) (fun _ hk => hk.2) (.int .i64 t299)) (fun _ hk => hk.2) (.int .i64 t300)) (fun _ hk => hk.2) (.slice Ao63 t301.length co63)) (fun _ hk => ⟨hk.1.1.1.1.1, ⟨hk.1.1.1.1.2.1, ⟨hk.1.1.2, ⟨hk.1.1.1.1.2.2.1, ⟨hk.1.1.1.1.2.2.2.1, ⟨hk.1.1.1.1.2.2.2.2.1, ⟨hk.1.1.1.1.2.2.2.2.2, ⟨hk.1.1.1.2, hk.1.2⟩⟩⟩⟩⟩⟩⟩⟩)⟩, ⟨by (with_reducible repeat (first | apply Kd.R_alloc | apply Kd.R_drewN | apply Kd.R_drew)); exact Kd.R_mono (Kd.R_far (p := ⟨gb305, 2, none⟩) (Kd.R_far (p := ⟨gb305, 1, none⟩) (Kd.R_far (p := ⟨gb305, 0, none⟩) (Kd.R_types HO303.out BK305.out (by decide)) (fun _ hk => hk.2) (.int .i64 t299)) (fun _ hk => hk.2) (.int .i64 t300)) (fun _ hk => hk.2) (.slice Ao63 t301.length co63)) (fun _ hk => ⟨hk.1.1.2, hk.1.2⟩)⟩, ⟨by (with_reducible repeat (first | refine blk_drewN ?_ _ | refine blk_drew ?_ | refine blk_alloc ?_ _)); refine blk_far ?_ NB253_305.out _; (with_reducible repeat (first | refine blk_drewN ?_ _ | refine blk_drew ?_ | refine blk_alloc ?_ _)); refine blk_far ?_ NB253_305.out _; (with_reducible repeat (first | refine blk_drewN ?_ _ | refine blk_drew ?_ | refine blk_alloc ?_ _)); refine blk_far ?_ NB253_305.out _; (with_reducible repeat (first | refine blk_drewN ?_ _ | refine blk_drew ?_ | refine blk_alloc ?_ _)); exact BK253.out⟩, ⟨by (with_reducible repeat (first | refine blk_drewN ?_ _ | refine blk_drew ?_ | refine blk_alloc ?_ _)); refine blk_far ?_ NB264_305.out _; (with_reducible repeat (first | refine blk_drewN ?_ _ | refine blk_drew ?_ | refine blk_alloc ?_ _)); refine blk_far ?_ NB264_305.out _; (with_reducible repeat (first | refine blk_drewN ?_ _ | refine blk_drew ?_ | refine blk_alloc ?_ _)); refine blk_far ?_ NB264_305.out _; (with_reducible repeat (first | refine blk_drewN ?_ _ | refine blk_drew ?_ | refine blk_alloc ?_ _)); exact BK264.out⟩, ⟨by (with_reducible repeat (first | refine blk_drewN ?_ _ | refine blk_drew ?_ | refine blk_alloc ?_ _)); refine blk_far ?_ NB279_305.out _; (with_reducible repeat (first | refine blk_drewN ?_ _ | refine blk_drew ?_ | refine blk_alloc ?_ _)); refine blk_far ?_ NB279_305.out _; (with_reducible repeat (first | refine blk_drewN ?_ _ | refine blk_drew ?_ | refine blk_alloc ?_ _)); refine blk_far ?_ NB279_305.out _; (with_reducible repeat (first | refine blk_drewN ?_ _ | refine blk_drew ?_ | refine blk_alloc ?_ _)); exact BK279.out⟩, ⟨by (with_reducible repeat (first | refine blk_drewN ?_ _ | refine blk_drew ?_ | refine blk_alloc ?_ _)); refine blk_far ?_ NB286_305.out _; (with_reducible repeat (first | refine blk_drewN ?_ _ | refine blk_drew ?_ | refine blk_alloc ?_ _)); refine blk_far ?_ NB286_305.out _; (with_reducible repeat (first | refine blk_drewN ?_ _ | refine blk_drew ?_ | refine blk_alloc ?_ _)); refine blk_far ?_ NB286_305.out _; (with_reducible repeat (first | refine blk_drewN ?_ _ | refine blk_drew ?_ | refine blk_alloc ?_ _)); exact BK286.out⟩, ⟨by (with_reducible repeat (first | refine blk_drewN ?_ _ | refine blk_drew ?_ | refine blk_alloc ?_ _)); refine blk_far ?_ NB298_305.out _; (with_reducible repeat (first | refine blk_drewN ?_ _ | refine blk_drew ?_ | refine blk_alloc ?_ _)); refine blk_far ?_ NB298_305.out _; (with_reducible repeat (first | refine blk_drewN ?_ _ | refine blk_drew ?_ | refine blk_alloc ?_ _)); refine blk_far ?_ NB298_305.out _; (with_reducible repeat (first | refine blk_drewN ?_ _ | refine blk_drew ?_ | refine blk_alloc ?_ _)); exact BK298.out⟩, ⟨by (with_reducible repeat (first | refine blk_drewN ?_ _ | refine blk_drew ?_ | refine blk_alloc ?_ _)); refine blk_put (cs := #[.int .i64 t299, .int .i64 t300, .slice none 0 0]) ?_ 2 _ rfl; (with_reducible repeat (first | refine blk_drewN ?_ _ | refine blk_drew ?_ | refine blk_alloc ?_ _)); refine blk_put (cs := #[.int .i64 t299, .int .i64 0, .slice none 0 0]) ?_ 1 _ rfl; (with_reducible repeat (first | refine blk_drewN ?_ _ | refine blk_drew ?_ | refine blk_alloc ?_ _)); refine blk_put (cs := #[.int .i64 0, .int .i64 0, .slice none 0 0]) ?_ 0 _ rfl; (with_reducible repeat (first | refine blk_drewN ?_ _ | refine blk_drew ?_ | refine blk_alloc ?_ _)); exact BK305.out⟩, ⟨by repeat (first | (with_reducible first | exact HB.out | apply below_alloc | apply pw_below_drewN | apply below_drew1 | refine below_set ?_ GE253.out | refine below_set ?_ GE264.out | refine below_set ?_ GE279.out | refine below_set ?_ GE286.out | refine below_set ?_ GE298.out | refine below_set ?_ GE305.out) | exact HB.out)⟩⟩
              · rw [if_neg c68] at H
                exact absurd H (by simp)
            · rw [if_neg c67] at H
              exact absurd H (by simp)
          · rw [if_neg c66] at H
            exact absurd H (by simp)
        · replace c65 := Bool.eq_false_iff.mpr c65
          subst c65
          have H1 : (none) = some r := by rw [if_neg (show ¬ (false = true) by decide)] at H; exact H
          clear H
          have H := H1
          clear H1
          exact absurd H (by simp)
      · rw [if_neg c64] at H
        have c64b0 : (t304 == 0) = false := beq_eq_false_iff_ne.mpr c64
        have c64b1 : (t304 != 0) = true := bne_iff_ne.mpr c64
        (first | rw [c64b0] | (simp only [i64_w, i32_w]; rw [c64b0]) | skip)
        by_cases c75 : t306 = true
        · subst c75
          have H1 : (none) = some r := by rw [if_pos rfl] at H; exact H
          clear H
          have H := H1
          clear H1
          exact absurd H (by simp)
        · replace c75 := Bool.eq_false_iff.mpr c75
          subst c75
          have H1 : (handshakerlaw19_GateTells.j0 k a1 t260 t263 t275 t278 t285 t297 (t304 != 1) a0_0 a0_1 l0_2 t255 t256 t257 t270 t271 t272 t280 t281 t282 t292 t293 t294) = some r := by rw [if_neg (show ¬ (false = true) by decide)] at H; exact H
          clear H
          have H := H1
          clear H1
          have H' := Aside0.mk H
          clear H
          go_wp2
          go_meet
          case rel => exact ⟨_, ((t304 != 1)), (by first | rfl | (simp; done) | (simp [*]; done)), H', ⟨by first | omega | exact Nat.le_refl _⟩, ⟨by (with_reducible repeat (first | apply Kd.R_alloc | apply Kd.R_drewN | apply Kd.R_drew)); exact Kd.R_mono (Kd.R_far (p := ⟨gb305, 2, none⟩) (Kd.R_far (p := ⟨gb305, 1, none⟩) (Kd.R_far (p := ⟨gb305, 0, none⟩) (Kd.R_types HO262.out BK305.out (by decide)) (fun _ hk => hk.2) (.int .i64 t299)) (fun _ hk => hk.2) (.int .i64 t300)) (fun _ hk => hk.2) (.slice Ao63 t301.length co63)) (fun _ hk => ⟨hk.1.1, hk.1.2⟩)⟩, ⟨by (with_reducible repeat (first | apply Kd.R_alloc | apply Kd.R_drewN | apply Kd.R_drew)); exact Kd.R_mono (Kd.R_far (p := ⟨gb305, 2, none⟩) (Kd.R_far (p := ⟨gb305, 1, none⟩) (Kd.R_far (p := ⟨gb305, 0, none⟩) (Kd.R_types HO277.out BK305.out (by decide)) (fun _ hk => hk.2) (.int .i64 t299)) (fun _ hk => hk.2) (.int .i64 t300)) (fun _ hk => hk.2) (.slice Ao63 t301.length co63)) (fun _ hk => ⟨hk.1.1, hk.1.2⟩)⟩, ⟨by (with_reducible repeat (first | apply Kd.V_alloc | apply Kd.V_drewN | apply Kd.V_drew)); exact Kd.V_mono (Kd.V_far (p := ⟨gb305, 2, none⟩) (Kd.V_far (p := ⟨gb305, 1, none⟩) (Kd.V_far (p := ⟨gb305, 0, none⟩) (Kd.V_mono HO259.out (fun k_ hk => (⟨hk, hk.2⟩ : _ ∧ k_ ≠ gb305))) (fun _ hk => hk.2) (.int .i64 t299)) (fun _ hk => hk.2) (.int .i64 t300)) (fun _ hk => hk.2) (.slice Ao63 t301.length co63)) (fun _ hk => ⟨hk.1.1.1.1.1, ⟨hk.1.1.1.1.2.1, ⟨hk.1.1.2, ⟨hk.1.1.1.1.2.2.1, ⟨hk.1.1.1.1.2.2.2.1, ⟨hk.1.1.1.1.2.2.2.2.1, ⟨hk.1.1.1.1.2.2.2.2.2, ⟨hk.1.1.1.2, hk.1.2⟩⟩⟩⟩⟩⟩⟩⟩)⟩, ⟨by (with_reducible repeat (first | apply Kd.V_alloc | apply Kd.V_drewN | apply Kd.V_drew)); exact Kd.V_mono (Kd.V_far (p := ⟨gb305, 2, none⟩) (Kd.V_far (p := ⟨gb305, 1, none⟩) (Kd.V_far (p := ⟨gb305, 0, none⟩) (Kd.V_mono HO274.out (fun k_ hk => (⟨hk, hk.2⟩ : _ ∧ k_ ≠ gb305))) (fun _ hk => hk.2) (.int .i64 t299)) (fun _ hk => hk.2) (.int .i64 t300)) (fun _ hk => hk.2) (.slice Ao63 t301.length co63)) (fun _ hk => ⟨hk.1.1.1.1.1, ⟨hk.1.1.1.1.2.1, ⟨hk.1.1.2, ⟨hk.1.1.1.1.2.2.1, ⟨hk.1.1.1.1.2.2.2.1, ⟨hk.1.1.1.1.2.2.2.2.1, ⟨hk.1.1.1.1.2.2.2.2.2, ⟨hk.1.1.1.2, hk.1.2⟩⟩⟩⟩⟩⟩⟩⟩)⟩, ⟨by (with_reducible repeat (first | apply Kd.V_alloc | apply Kd.V_drewN | apply Kd.V_drew)); exact Kd.V_mono (Kd.V_far (p := ⟨gb305, 2, none⟩) (Kd.V_far (p := ⟨gb305, 1, none⟩) (Kd.V_far (p := ⟨gb305, 0, none⟩) (Kd.V_mono HO284.out (fun k_ hk => (⟨hk, hk.2⟩ : _ ∧ k_ ≠ gb305))) (fun _ hk => hk.2) (.int .i64 t299)) (fun _ hk => hk.2) (.int .i64 t300)) (fun _ hk => hk.2) (.slice Ao63 t301.length co63)) (fun _ hk => ⟨hk.1.1.1.1.1, ⟨hk.1.1.1.1.2.1, ⟨hk.1.1.2, ⟨hk.1.1.1.1.2.2.1, ⟨hk.1.1.1.1.2.2.2.1, ⟨hk.1.1.1.1.2.2.2.2.1, ⟨hk.1.1.1.1.2.2.2.2.2, ⟨hk.1.1.1.2, hk.1.2⟩⟩⟩⟩⟩⟩⟩⟩)⟩, ⟨by (with_reducible repeat (first | apply Kd.V_alloc | apply Kd.V_drewN | apply Kd.V_drew)); exact Kd.V_mono (Kd.V_far (p := ⟨gb305, 2, none⟩) (Kd.V_far (p := ⟨gb305, 1, none⟩) (Kd.V_far (p := ⟨gb305, 0, none⟩) (Kd.V_mono HO296.out (fun k_ hk => (⟨hk, hk.2⟩ : _ ∧ k_ ≠ gb305))) (fun _ hk => hk.2) (.int .i64 t299)) (fun _ hk => hk.2) (.int .i64 t300)) (fun _ hk => hk.2) (.slice Ao63 t301.length co63)) (fun _ hk => ⟨hk.1.1.1.1.1, ⟨hk.1.1.1.1.2.1, ⟨hk.1.1.2, ⟨hk.1.1.1.1.2.2.1, ⟨hk.1.1.1.1.2.2.2.1, ⟨hk.1.1.1.1.2.2.2.2.1, ⟨hk.1.1.1.1.2.2.2.2.2, ⟨hk.1.1.1.2, hk.1.2⟩⟩⟩⟩⟩⟩⟩⟩)⟩, ⟨by (with_reducible repeat (first | apply Kd.R_alloc | apply Kd.R_drewN | apply Kd.R_drew)); exact Kd.R_mono (Kd.R_far (p := ⟨gb305, 2, none⟩) (Kd.R_far (p := ⟨gb305, 1, none⟩) (Kd.R_far (p := ⟨gb305, 0, none⟩) (Kd.R_types HO303.out BK305.out (by decide)) (fun _ hk => hk.2) (.int .i64 t299)) (fun _ hk => hk.2) (.int .i64 t300)) (fun _ hk => hk.2) (.slice Ao63 t301.length co63)) (fun _ hk => ⟨hk.1.1.2, hk.1.2⟩)⟩, ⟨by (with_reducible repeat (first | refine blk_drewN ?_ _ | refine blk_drew ?_ | refine blk_alloc ?_ _)); refine blk_far ?_ NB253_305.out _; (with_reducible repeat (first | refine blk_drewN ?_ _ | refine blk_drew ?_ | refine blk_alloc ?_ _)); refine blk_far ?_ NB253_305.out _; (with_reducible repeat (first | refine blk_drewN ?_ _ | refine blk_drew ?_ | refine blk_alloc ?_ _)); refine blk_far ?_ NB253_305.out _; (with_reducible repeat (first | refine blk_drewN ?_ _ | refine blk_drew ?_ | refine blk_alloc ?_ _)); exact BK253.out⟩, ⟨by (with_reducible repeat (first | refine blk_drewN ?_ _ | refine blk_drew ?_ | refine blk_alloc ?_ _)); refine blk_far ?_ NB264_305.out _; (with_reducible repeat (first | refine blk_drewN ?_ _ | refine blk_drew ?_ | refine blk_alloc ?_ _)); refine blk_far ?_ NB264_305.out _; (with_reducible repeat (first | refine blk_drewN ?_ _ | refine blk_drew ?_ | refine blk_alloc ?_ _)); refine blk_far ?_ NB264_305.out _; (with_reducible repeat (first | refine blk_drewN ?_ _ | refine blk_drew ?_ | refine blk_alloc ?_ _)); exact BK264.out⟩, ⟨by (with_reducible repeat (first | refine blk_drewN ?_ _ | refine blk_drew ?_ | refine blk_alloc ?_ _)); refine blk_far ?_ NB279_305.out _; (with_reducible repeat (first | refine blk_drewN ?_ _ | refine blk_drew ?_ | refine blk_alloc ?_ _)); refine blk_far ?_ NB279_305.out _; (with_reducible repeat (first | refine blk_drewN ?_ _ | refine blk_drew ?_ | refine blk_alloc ?_ _)); refine blk_far ?_ NB279_305.out _; (with_reducible repeat (first | refine blk_drewN ?_ _ | refine blk_drew ?_ | refine blk_alloc ?_ _)); exact BK279.out⟩, ⟨by (with_reducible repeat (first | refine blk_drewN ?_ _ | refine blk_drew ?_ | refine blk_alloc ?_ _)); refine blk_far ?_ NB286_305.out _; (with_reducible repeat (first | refine blk_drewN ?_ _ | refine blk_drew ?_ | refine blk_alloc ?_ _)); refine blk_far ?_ NB286_305.out _; (with_reducible repeat (first | refine blk_drewN ?_ _ | refine blk_drew ?_ | refine blk_alloc ?_ _)); refine blk_far ?_ NB286_305.out _; (with_reducible repeat (first | refine blk_drewN ?_ _ | refine blk_drew ?_ | refine blk_alloc ?_ _)); exact BK286.out⟩, ⟨by (with_reducible repeat (first | refine blk_drewN ?_ _ | refine blk_drew ?_ | refine blk_alloc ?_ _)); refine blk_far ?_ NB298_305.out _; (with_reducible repeat (first | refine blk_drewN ?_ _ | refine blk_drew ?_ | refine blk_alloc ?_ _)); refine blk_far ?_ NB298_305.out _; (with_reducible repeat (first | refine blk_drewN ?_ _ | refine blk_drew ?_ | refine blk_alloc ?_ _)); refine blk_far ?_ NB298_305.out _; (with_reducible repeat (first | refine blk_drewN ?_ _ | refine blk_drew ?_ | refine blk_alloc ?_ _)); exact BK298.out⟩, ⟨by (with_reducible repeat (first | refine blk_drewN ?_ _ | refine blk_drew ?_ | refine blk_alloc ?_ _)); refine blk_put (cs := #[.int .i64 t299, .int .i64 t300, .slice none 0 0]) ?_ 2 _ rfl; (with_reducible repeat (first | refine blk_drewN ?_ _ | refine blk_drew ?_ | refine blk_alloc ?_ _)); refine blk_put (cs := #[.int .i64 t299, .int .i64 0, .slice none 0 0]) ?_ 1 _ rfl; (with_reducible repeat (first | refine blk_drewN ?_ _ | refine blk_drew ?_ | refine blk_alloc ?_ _)); refine blk_put (cs := #[.int .i64 0, .int .i64 0, .slice none 0 0]) ?_ 0 _ rfl; (with_reducible repeat (first | refine blk_drewN ?_ _ | refine blk_drew ?_ | refine blk_alloc ?_ _)); exact BK305.out⟩, ⟨by repeat (first | (with_reducible first | exact HB.out | apply below_alloc | apply pw_below_drewN | apply below_drew1 | refine below_set ?_ GE253.out | refine below_set ?_ GE264.out | refine below_set ?_ GE279.out | refine below_set ?_ GE286.out | refine below_set ?_ GE298.out | refine below_set ?_ GE305.out) | exact HB.out)⟩⟩
    case rest =>
      clear HC16
      try clear c1
      try clear c2
      try clear p2
      try clear c3
      try clear c3b0
      try clear c3b1
      try clear c4
      try clear c5
      try clear c6
      try clear c7
      try clear c8
      try clear c9
      try clear c10
      try clear c11
      try clear c12
      try clear c13
      try clear c14
      try clear c15
      try clear c21
      try clear c30
      try clear c31
      try clear c38
      try clear c39
      try clear c40
      try clear c49
      try clear c50
      try clear c51
      try clear c52
      try clear c57
      try clear c58
      try clear c59
      try clear c60
      try clear c61
      try clear c64
      try clear c64b0
      try clear c64b1
      try clear c65
      try clear c66
      try clear c66b0
      try clear c66b1
      try clear c67
      try clear c67b0
      try clear c67b1
      try clear c68
      try clear c68b0
      try clear c68b1
      try clear c69
      try clear c70
      try clear c71
      try clear c72
      try clear c73
      try clear c75
      try clear hcz18_0
      try clear hcz18_1
      try clear hcz18_2
      try clear hcz22_0
      try clear hcz22_1
      try clear hcz22_2
      try clear hcz25_0
      try clear hcz25_1
      try clear hcz25_2
      try clear hcz32_0
      try clear hcz32_1
      try clear hcz32_2
      try clear hcz35_0
      try clear hcz35_1
      try clear hcz35_2
      try clear hcz41_0
      try clear hcz41_1
      try clear hcz41_2
      try clear hcz44_0
      try clear hcz44_1
      try clear hcz44_2
      try clear hcz53_0
      try clear hcz53_1
      try clear hcz53_2
      try clear hcz62_0
      try clear hcz62_1
      try clear hcz62_2
      try clear hcz6_0
      try clear hcz6_1
      try clear hcz6_2
      try clear hcz74_0
      try clear hcz74_1
      try clear hcz74_2
      try clear hfz18_0
      try clear hfz18_1
      try clear hfz18_2
      try clear hfz22_0
      try clear hfz22_1
      try clear hfz22_2
      try clear hfz25_0
      try clear hfz25_1
      try clear hfz25_2
      try clear hfz32_0
      try clear hfz32_1
      try clear hfz32_2
      try clear hfz35_0
      try clear hfz35_1
      try clear hfz35_2
      try clear hfz41_0
      try clear hfz41_1
      try clear hfz41_2
      try clear hfz44_0
      try clear hfz44_1
      try clear hfz44_2
      try clear hfz53_0
      try clear hfz53_1
      try clear hfz53_2
      try clear hfz62_0
      try clear hfz62_1
      try clear hfz62_2
      try clear hfz6_0
      try clear hfz6_1
      try clear hfz6_2
      try clear hfz74_0
      try clear hfz74_1
      try clear hfz74_2
      obtain ⟨kq, x89_15, rfl, HA, HJ15, HO_6, HO_9, HO_265002, HO_280002, HO_287002, HO_299002, HO_306002, BK253, BK264, BK279, BK286, BK298, BK305, HB⟩ := hcut
      cases kq with
      | zero => exact absurd HA.out (by simp [handshakerlaw19_GateTells.j0])
      | succ kj15 =>
        have H := HA.out
        clear HA
        simp only [handshakerlaw19_GateTells.j0] at H
        by_cases c76 : x89_15 = true
        · subst c76
          have H1 : (none) = some r := by rw [if_pos rfl] at H; exact H
          clear H
          have H := H1
          clear H1
          exact absurd H (by simp)
        · replace c76 := Bool.eq_false_iff.mpr c76
          subst c76
          have H1 : ((gate_Right.f kj15 a0_0 a0_1 l0_2).bind fun t307 => ((handshakerlaw19_ref.f a0_0 a0_1 l0_2).bind fun bt308 => ((handshakerref19_Right.f kj15 bt308.1 bt308.2.1 bt308.2.2).bind fun t313 => (if (t307 == t313) = true then ((handshakerlaw19_ref.f t255 t256 t257).bind fun bt314 => ((handshakerref19_Same.f kj15 bt314.1 bt314.2.1 bt314.2.2 t270 t271 t272).bind fun t319 => (if t319 = true then ((handshakerref03_Numbers.f kj15 t260 t275).bind fun t320 => (if t320 = true then (if t263 = t278 then ((handshakerlaw19_ref.f t280 t281 t282).bind fun bt321 => ((handshakerref19_Same.f kj15 bt321.1 bt321.2.1 bt321.2.2 t292 t293 t294).bind fun t326 => (if t326 = true then (if t285 = t297 then ((gate_Place.f kj15 a0_0 a0_1 l0_2 a1).bind fun t327 => ((handshakerlaw19_ref.f a0_0 a0_1 l0_2).bind fun bt328 => ((handshakerref19_Place.f kj15 bt328.1 bt328.2.1 bt328.2.2 a1).bind fun t333 => (if t327 = t333 then ((handshakerlaw19_awake.f kj15).bind fun t334 => (some t334)) else (none))))) else (none)) else (none)))) else (none)) else (none))) else (none)))) else (none))))) = some r := by rw [if_neg (show ¬ (false = true) by decide)] at H; exact H
          clear H
          have H := H1
          clear H1
          replace H := Option.bind_eq_some_iff.mp H
          obtain ⟨t307, A770, H⟩ := H
          replace H : ((handshakerlaw19_ref.f a0_0 a0_1 l0_2).bind fun bt308 => ((handshakerref19_Right.f kj15 bt308.1 bt308.2.1 bt308.2.2).bind fun t313 => (if (t307 == t313) = true then ((handshakerlaw19_ref.f t255 t256 t257).bind fun bt314 => ((handshakerref19_Same.f kj15 bt314.1 bt314.2.1 bt314.2.2 t270 t271 t272).bind fun t319 => (if t319 = true then ((handshakerref03_Numbers.f kj15 t260 t275).bind fun t320 => (if t320 = true then (if t263 = t278 then ((handshakerlaw19_ref.f t280 t281 t282).bind fun bt321 => ((handshakerref19_Same.f kj15 bt321.1 bt321.2.1 bt321.2.2 t292 t293 t294).bind fun t326 => (if t326 = true then (if t285 = t297 then ((gate_Place.f kj15 a0_0 a0_1 l0_2 a1).bind fun t327 => ((handshakerlaw19_ref.f a0_0 a0_1 l0_2).bind fun bt328 => ((handshakerref19_Place.f kj15 bt328.1 bt328.2.1 bt328.2.2 a1).bind fun t333 => (if t327 = t333 then ((handshakerlaw19_awake.f kj15).bind fun t334 => (some t334)) else (none))))) else (none)) else (none)))) else (none)) else (none))) else (none)))) else (none)))) = some r := H
          have A77 := Aside0.mk A770
          clear A770
          replace H := Option.bind_eq_some_iff.mp H
          obtain ⟨⟨t308, t309, t310⟩, A780, H⟩ := H
          replace H : ((handshakerref19_Right.f kj15 t308 t309 t310).bind fun t313 => (if (t307 == t313) = true then ((handshakerlaw19_ref.f t255 t256 t257).bind fun bt314 => ((handshakerref19_Same.f kj15 bt314.1 bt314.2.1 bt314.2.2 t270 t271 t272).bind fun t319 => (if t319 = true then ((handshakerref03_Numbers.f kj15 t260 t275).bind fun t320 => (if t320 = true then (if t263 = t278 then ((handshakerlaw19_ref.f t280 t281 t282).bind fun bt321 => ((handshakerref19_Same.f kj15 bt321.1 bt321.2.1 bt321.2.2 t292 t293 t294).bind fun t326 => (if t326 = true then (if t285 = t297 then ((gate_Place.f kj15 a0_0 a0_1 l0_2 a1).bind fun t327 => ((handshakerlaw19_ref.f a0_0 a0_1 l0_2).bind fun bt328 => ((handshakerref19_Place.f kj15 bt328.1 bt328.2.1 bt328.2.2 a1).bind fun t333 => (if t327 = t333 then ((handshakerlaw19_awake.f kj15).bind fun t334 => (some t334)) else (none))))) else (none)) else (none)))) else (none)) else (none))) else (none)))) else (none))) = some r := H
          have A78 := Aside0.mk A780
          clear A780
          replace H := Option.bind_eq_some_iff.mp H
          obtain ⟨t313, A790, H⟩ := H
          replace H : (if (t307 == t313) = true then ((handshakerlaw19_ref.f t255 t256 t257).bind fun bt314 => ((handshakerref19_Same.f kj15 bt314.1 bt314.2.1 bt314.2.2 t270 t271 t272).bind fun t319 => (if t319 = true then ((handshakerref03_Numbers.f kj15 t260 t275).bind fun t320 => (if t320 = true then (if t263 = t278 then ((handshakerlaw19_ref.f t280 t281 t282).bind fun bt321 => ((handshakerref19_Same.f kj15 bt321.1 bt321.2.1 bt321.2.2 t292 t293 t294).bind fun t326 => (if t326 = true then (if t285 = t297 then ((gate_Place.f kj15 a0_0 a0_1 l0_2 a1).bind fun t327 => ((handshakerlaw19_ref.f a0_0 a0_1 l0_2).bind fun bt328 => ((handshakerref19_Place.f kj15 bt328.1 bt328.2.1 bt328.2.2 a1).bind fun t333 => (if t327 = t333 then ((handshakerlaw19_awake.f kj15).bind fun t334 => (some t334)) else (none))))) else (none)) else (none)))) else (none)) else (none))) else (none)))) else (none)) = some r := H
          have A79 := Aside0.mk A790
          clear A790
          by_cases c80 : (t307 == t313) = true
          · rw [if_pos c80] at H
            have c80b0 : (t307 == t313) = true := c80
            (try (have c80b1 : decide (t307 = t313) = true := by simpa using c80))
            (try (have c80b2 : (t307 == t313) = true := by simpa using c80))
            clear c80
            replace H := Option.bind_eq_some_iff.mp H
            obtain ⟨⟨t314, t315, t316⟩, A810, H⟩ := H
            replace H : ((handshakerref19_Same.f kj15 t314 t315 t316 t270 t271 t272).bind fun t319 => (if t319 = true then ((handshakerref03_Numbers.f kj15 t260 t275).bind fun t320 => (if t320 = true then (if t263 = t278 then ((handshakerlaw19_ref.f t280 t281 t282).bind fun bt321 => ((handshakerref19_Same.f kj15 bt321.1 bt321.2.1 bt321.2.2 t292 t293 t294).bind fun t326 => (if t326 = true then (if t285 = t297 then ((gate_Place.f kj15 a0_0 a0_1 l0_2 a1).bind fun t327 => ((handshakerlaw19_ref.f a0_0 a0_1 l0_2).bind fun bt328 => ((handshakerref19_Place.f kj15 bt328.1 bt328.2.1 bt328.2.2 a1).bind fun t333 => (if t327 = t333 then ((handshakerlaw19_awake.f kj15).bind fun t334 => (some t334)) else (none))))) else (none)) else (none)))) else (none)) else (none))) else (none))) = some r := H
            have A81 := Aside0.mk A810
            clear A810
            replace H := Option.bind_eq_some_iff.mp H
            obtain ⟨t319, A820, H⟩ := H
            replace H : (if t319 = true then ((handshakerref03_Numbers.f kj15 t260 t275).bind fun t320 => (if t320 = true then (if t263 = t278 then ((handshakerlaw19_ref.f t280 t281 t282).bind fun bt321 => ((handshakerref19_Same.f kj15 bt321.1 bt321.2.1 bt321.2.2 t292 t293 t294).bind fun t326 => (if t326 = true then (if t285 = t297 then ((gate_Place.f kj15 a0_0 a0_1 l0_2 a1).bind fun t327 => ((handshakerlaw19_ref.f a0_0 a0_1 l0_2).bind fun bt328 => ((handshakerref19_Place.f kj15 bt328.1 bt328.2.1 bt328.2.2 a1).bind fun t333 => (if t327 = t333 then ((handshakerlaw19_awake.f kj15).bind fun t334 => (some t334)) else (none))))) else (none)) else (none)))) else (none)) else (none))) else (none)) = some r := H
            have A82 := Aside0.mk A820
            clear A820
            by_cases c83 : t319 = true
            · subst c83
              have H1 : ((handshakerref03_Numbers.f kj15 t260 t275).bind fun t320 => (if t320 = true then (if t263 = t278 then ((handshakerlaw19_ref.f t280 t281 t282).bind fun bt321 => ((handshakerref19_Same.f kj15 bt321.1 bt321.2.1 bt321.2.2 t292 t293 t294).bind fun t326 => (if t326 = true then (if t285 = t297 then ((gate_Place.f kj15 a0_0 a0_1 l0_2 a1).bind fun t327 => ((handshakerlaw19_ref.f a0_0 a0_1 l0_2).bind fun bt328 => ((handshakerref19_Place.f kj15 bt328.1 bt328.2.1 bt328.2.2 a1).bind fun t333 => (if t327 = t333 then ((handshakerlaw19_awake.f kj15).bind fun t334 => (some t334)) else (none))))) else (none)) else (none)))) else (none)) else (none))) = some r := by rw [if_pos rfl] at H; exact H
              clear H
              have H := H1
              clear H1
              replace H := Option.bind_eq_some_iff.mp H
              obtain ⟨t320, A840, H⟩ := H
              replace H : (if t320 = true then (if t263 = t278 then ((handshakerlaw19_ref.f t280 t281 t282).bind fun bt321 => ((handshakerref19_Same.f kj15 bt321.1 bt321.2.1 bt321.2.2 t292 t293 t294).bind fun t326 => (if t326 = true then (if t285 = t297 then ((gate_Place.f kj15 a0_0 a0_1 l0_2 a1).bind fun t327 => ((handshakerlaw19_ref.f a0_0 a0_1 l0_2).bind fun bt328 => ((handshakerref19_Place.f kj15 bt328.1 bt328.2.1 bt328.2.2 a1).bind fun t333 => (if t327 = t333 then ((handshakerlaw19_awake.f kj15).bind fun t334 => (some t334)) else (none))))) else (none)) else (none)))) else (none)) else (none)) = some r := H
              have A84 := Aside0.mk A840
              clear A840
              by_cases c85 : t320 = true
              · subst c85
                have H1 : (if t263 = t278 then ((handshakerlaw19_ref.f t280 t281 t282).bind fun bt321 => ((handshakerref19_Same.f kj15 bt321.1 bt321.2.1 bt321.2.2 t292 t293 t294).bind fun t326 => (if t326 = true then (if t285 = t297 then ((gate_Place.f kj15 a0_0 a0_1 l0_2 a1).bind fun t327 => ((handshakerlaw19_ref.f a0_0 a0_1 l0_2).bind fun bt328 => ((handshakerref19_Place.f kj15 bt328.1 bt328.2.1 bt328.2.2 a1).bind fun t333 => (if t327 = t333 then ((handshakerlaw19_awake.f kj15).bind fun t334 => (some t334)) else (none))))) else (none)) else (none)))) else (none)) = some r := by rw [if_pos rfl] at H; exact H
                clear H
                have H := H1
                clear H1
                by_cases c86 : t263 = t278
                · rw [if_pos c86] at H
                  have c86b0 : (t263 == t278) = true := beq_iff_eq.mpr c86
                  have c86b1 : (t263 != t278) = false := bne_eq_false_iff_eq.mpr c86
                  clear c86
                  replace H := Option.bind_eq_some_iff.mp H
                  obtain ⟨⟨t321, t322, t323⟩, A870, H⟩ := H
                  replace H : ((handshakerref19_Same.f kj15 t321 t322 t323 t292 t293 t294).bind fun t326 => (if t326 = true then (if t285 = t297 then ((gate_Place.f kj15 a0_0 a0_1 l0_2 a1).bind fun t327 => ((handshakerlaw19_ref.f a0_0 a0_1 l0_2).bind fun bt328 => ((handshakerref19_Place.f kj15 bt328.1 bt328.2.1 bt328.2.2 a1).bind fun t333 => (if t327 = t333 then ((handshakerlaw19_awake.f kj15).bind fun t334 => (some t334)) else (none))))) else (none)) else (none))) = some r := H
                  have A87 := Aside0.mk A870
                  clear A870
                  replace H := Option.bind_eq_some_iff.mp H
                  obtain ⟨t326, A880, H⟩ := H
                  replace H : (if t326 = true then (if t285 = t297 then ((gate_Place.f kj15 a0_0 a0_1 l0_2 a1).bind fun t327 => ((handshakerlaw19_ref.f a0_0 a0_1 l0_2).bind fun bt328 => ((handshakerref19_Place.f kj15 bt328.1 bt328.2.1 bt328.2.2 a1).bind fun t333 => (if t327 = t333 then ((handshakerlaw19_awake.f kj15).bind fun t334 => (some t334)) else (none))))) else (none)) else (none)) = some r := H
                  have A88 := Aside0.mk A880
                  clear A880
                  by_cases c89 : t326 = true
                  · subst c89
                    have H1 : (if t285 = t297 then ((gate_Place.f kj15 a0_0 a0_1 l0_2 a1).bind fun t327 => ((handshakerlaw19_ref.f a0_0 a0_1 l0_2).bind fun bt328 => ((handshakerref19_Place.f kj15 bt328.1 bt328.2.1 bt328.2.2 a1).bind fun t333 => (if t327 = t333 then ((handshakerlaw19_awake.f kj15).bind fun t334 => (some t334)) else (none))))) else (none)) = some r := by rw [if_pos rfl] at H; exact H
                    clear H
                    have H := H1
                    clear H1
                    by_cases c90 : t285 = t297
                    · rw [if_pos c90] at H
                      have c90b0 : (t285 == t297) = true := beq_iff_eq.mpr c90
                      have c90b1 : (t285 != t297) = false := bne_eq_false_iff_eq.mpr c90
                      clear c90
                      replace H := Option.bind_eq_some_iff.mp H
                      obtain ⟨t327, A910, H⟩ := H
                      replace H : ((handshakerlaw19_ref.f a0_0 a0_1 l0_2).bind fun bt328 => ((handshakerref19_Place.f kj15 bt328.1 bt328.2.1 bt328.2.2 a1).bind fun t333 => (if t327 = t333 then ((handshakerlaw19_awake.f kj15).bind fun t334 => (some t334)) else (none)))) = some r := H
                      have A91 := Aside0.mk A910
                      clear A910
                      replace H := Option.bind_eq_some_iff.mp H
                      obtain ⟨⟨t328, t329, t330⟩, A920, H⟩ := H
                      replace H : ((handshakerref19_Place.f kj15 t328 t329 t330 a1).bind fun t333 => (if t327 = t333 then ((handshakerlaw19_awake.f kj15).bind fun t334 => (some t334)) else (none))) = some r := H
                      have A92 := Aside0.mk A920
                      clear A920
                      replace H := Option.bind_eq_some_iff.mp H
                      obtain ⟨t333, A930, H⟩ := H
                      replace H : (if t327 = t333 then ((handshakerlaw19_awake.f kj15).bind fun t334 => (some t334)) else (none)) = some r := H
                      have A93 := Aside0.mk A930
                      clear A930
                      by_cases c94 : t327 = t333
                      · rw [if_pos c94] at H
                        have c94b0 : (t327 == t333) = true := beq_iff_eq.mpr c94
                        have c94b1 : (t327 != t333) = false := bne_eq_false_iff_eq.mpr c94
                        clear c94
                        replace H := Option.bind_eq_some_iff.mp H
                        obtain ⟨t334, A950, H⟩ := H
                        replace H : (some t334) = some r := H
                        have A95 := Aside0.mk A950
                        clear A950
                        obtain rfl := Option.some.inj H
                        try go_wp2
                        have n0_ := Aside0.mk (Kd.R_drew HO_6.out)
                        have n1_ := Aside0.mk (Kd.R_drew HO_9.out)
                        have n2_ := Aside0.mk (Kd.V_drew HO_265002.out)
                        have n3_ := Aside0.mk (Kd.V_drew HO_280002.out)
                        have n4_ := Aside0.mk (Kd.V_drew HO_287002.out)
                        have n5_ := Aside0.mk (Kd.V_drew HO_299002.out)
                        have n6_ := Aside0.mk (Kd.R_drew HO_306002.out)
                        have n7_ := Aside0.mk (blk_drew BK253.out)
                        have n8_ := Aside0.mk (blk_drew BK264.out)
                        have n9_ := Aside0.mk (blk_drew BK279.out)
                        have n10_ := Aside0.mk (blk_drew BK286.out)
                        have n11_ := Aside0.mk (blk_drew BK298.out)
                        have n12_ := Aside0.mk (blk_drew BK305.out)
                        have n13_ := Aside0.mk (below_drew1 HB.out)
                        clear HO_6
                        clear HO_9
                        clear HO_265002
                        clear HO_280002
                        clear HO_287002
                        clear HO_299002
                        clear HO_306002
                        clear BK253
                        clear BK264
                        clear BK279
                        clear BK286
                        clear BK298
                        clear BK305
                        clear HB
                        have HO_6 := n0_
                        have HO_9 := n1_
                        have HO_265002 := n2_
                        have HO_280002 := n3_
                        have HO_287002 := n4_
                        have HO_299002 := n5_
                        have HO_306002 := n6_
                        have BK253 := n7_
                        have BK264 := n8_
                        have BK279 := n9_
                        have BK286 := n10_
                        have BK298 := n11_
                        have BK305 := n12_
                        have HB := n13_
                        clear n0_ n1_ n2_ n3_ n4_ n5_ n6_ n7_ n8_ n9_ n10_ n11_ n12_ n13_
                        refine start_ (n := 47) (S := fun w' => w'.cell? ⟨gb253, 0, none⟩ = some (.int .i64 a0_0) ∧ w'.cell? ⟨gb253, 1, none⟩ = some (.int .i64 a0_1) ∧ w'.cell? ⟨gb253, 2, none⟩ = some (.slice A0_2 l0_2.length c0_2) ∧ w'.cell? ⟨gb264, 0, none⟩ = some (.int .i64 t255) ∧ w'.cell? ⟨gb264, 1, none⟩ = some (.int .i64 t256) ∧ w'.cell? ⟨gb264, 2, none⟩ = some (.slice Ao23 t257.length co23) ∧ w'.cell? ⟨gb279, 0, none⟩ = some (.int .i64 t270) ∧ w'.cell? ⟨gb279, 1, none⟩ = some (.int .i64 t271) ∧ w'.cell? ⟨gb279, 2, none⟩ = some (.slice Ao33 t272.length co33) ∧ w'.cell? ⟨gb286, 0, none⟩ = some (.int .i64 t280) ∧ w'.cell? ⟨gb286, 1, none⟩ = some (.int .i64 t281) ∧ w'.cell? ⟨gb286, 2, none⟩ = some (.slice Ao42 t282.length co42) ∧ w'.cell? ⟨gb298, 0, none⟩ = some (.int .i64 t292) ∧ w'.cell? ⟨gb298, 1, none⟩ = some (.int .i64 t293) ∧ w'.cell? ⟨gb298, 2, none⟩ = some (.slice Ao54 t294.length co54)) (ds := []) #[false, false, false, false, false, false, false, false, false, false, false, false, false, false, false, false, false, false, false, false, false, false, false, false, false, false, false, false, false, false, false, false, false, false, false, false, false, false, false, false, false, false, false, false, false, false, false] (by kernel_rfl) rfl rfl ⟨(blk_cell BK253.out 0).trans rfl, (blk_cell BK253.out 1).trans rfl, (blk_cell BK253.out 2).trans rfl, (blk_cell BK264.out 0).trans rfl, (blk_cell BK264.out 1).trans rfl, (blk_cell BK264.out 2).trans rfl, (blk_cell BK279.out 0).trans rfl, (blk_cell BK279.out 1).trans rfl, (blk_cell BK279.out 2).trans rfl, (blk_cell BK286.out 0).trans rfl, (blk_cell BK286.out 1).trans rfl, (blk_cell BK286.out 2).trans rfl, (blk_cell BK298.out 0).trans rfl, (blk_cell BK298.out 1).trans rfl, (blk_cell BK298.out 2).trans rfl⟩ (fun hHeld => ?_); refine with_tabW handshakerlaw19_GateTells.tab11 handshakerlaw19_GateTells.bits11 (fun HT_ HW_ => ?_)
                        generalize wc.drew = w96 at HO_6 HO_9 HO_265002 HO_280002 HO_287002 HO_299002 HO_306002 BK253 BK264 BK279 BK286 BK298 BK305 HB hHeld ⊢
                        refine take_ (i := 0) (N := some 90) (v := ?_) (a' := ?_) #[true, false, false, false, false, false, false, false, false, false, false, false, false, false, false, false, false, false, false, false, false, false, false, false, false, false, false, false, false, false, false, false, false, false, false, false, false, false, false, false, false, false, false, false, false, false, false] rfl rfl (take_ofW HT_.out HW_.out (by kernel_rfl)) (fun _ _ _ h => h) (Or.inl ⟨by rfl, ?_⟩) hHeld ?_ ?_
                        rotate_left
                        · rintro w' ⟨s0, s1, s2, s3, s4, s5, s6, s7, s8, s9, s10, s11, s12, s13, s14⟩
                          go_simp
                          with_reducible rfl
                        rotate_left
                        · simp only [Act.put, List.setIfInBounds_toArray, List.set_cons_zero, List.set_cons_succ, i64_w, i32_w]
                          rfl
                        refine take_ (i := 2) (N := some 92) (v := ?_) (a' := ?_) #[true, false, true, false, false, false, false, false, false, false, false, false, false, false, false, false, false, false, false, false, false, false, false, false, false, false, false, false, false, false, false, false, false, false, false, false, false, false, false, false, false, false, false, false, false, false, false] rfl rfl (take_ofW HT_.out HW_.out (by kernel_rfl)) (fun _ _ _ h => h) (Or.inl ⟨by rfl, ?_⟩) hHeld ?_ ?_
                        rotate_left
                        · rintro w' ⟨s0, s1, s2, s3, s4, s5, s6, s7, s8, s9, s10, s11, s12, s13, s14⟩
                          go_simp
                          with_reducible rfl
                        rotate_left
                        · simp only [Act.put, List.setIfInBounds_toArray, List.set_cons_zero, List.set_cons_succ, i64_w, i32_w]
                          rfl
                        refine one_ (i := 1) (N := some 91) #[true, true, true, false, false, false, false, false, false, false, false, false, false, false, false, false, false, false, false, false, false, false, false, false, false, false, false, false, false, false, false, false, false, false, false, false, false, false, false, false, false, false, false, false, false, false, false] rfl rfl (one_of HT_.out (by kernel_rfl)) (by decide) (fun K hK => ?_)
                        refine goes_ Try.func16 (by kernel_rfl) rfl #[.agg #[.int .i64 a0_0, .int .i64 a0_1, .slice A0_2 l0_2.length c0_2]] (by rfl) rfl rfl (by (try simp only [List.map_toArray, List.map_cons, List.map_nil]); first | done | rfl | (simp only [List.length_drop, List.length_take]; rfl)) ?_
                        with_reducible refine (gate_Right.calls kj15 a0_0 a0_1 _ _ l0_2 t307 _ ?side1 ?side2 A77.out).mono ?_
                        (case side1 => repeat (first | exact (Kd.C_below HR0_2.out HB.out) | (with_reducible refine Kd.C_alloc ?_ _) | (with_reducible refine Kd.C_drewN ?_ _) | (with_reducible refine Kd.C_drew ?_)))
                        (case side2 => exact HC0_2.out)
                        rintro e w97 ⟨rfl, hb⟩
                        refine ⟨_, rfl, ?_⟩
                        have n0_ := Aside0.mk (Kd.R_below (by (with_reducible repeat (first | apply Kd.R_alloc | apply Kd.R_drewN | apply Kd.R_drew)); exact HO_6.out) hb)
                        have n1_ := Aside0.mk (Kd.R_below (by (with_reducible repeat (first | apply Kd.R_alloc | apply Kd.R_drewN | apply Kd.R_drew)); exact HO_9.out) hb)
                        have n2_ := Aside0.mk (Kd.V_below (by (with_reducible repeat (first | apply Kd.V_alloc | apply Kd.V_drewN | apply Kd.V_drew)); exact HO_265002.out) hb)
                        have n3_ := Aside0.mk (Kd.V_below (by (with_reducible repeat (first | apply Kd.V_alloc | apply Kd.V_drewN | apply Kd.V_drew)); exact HO_280002.out) hb)
                        have n4_ := Aside0.mk (Kd.V_below (by (with_reducible repeat (first | apply Kd.V_alloc | apply Kd.V_drewN | apply Kd.V_drew)); exact HO_287002.out) hb)
                        have n5_ := Aside0.mk (Kd.V_below (by (with_reducible repeat (first | apply Kd.V_alloc | apply Kd.V_drewN | apply Kd.V_drew)); exact HO_299002.out) hb)
                        have n6_ := Aside0.mk (Kd.R_below (by (with_reducible repeat (first | apply Kd.R_alloc | apply Kd.R_drewN | apply Kd.R_drew)); exact HO_306002.out) hb)
                        have n7_ := Aside0.mk (blk_below (g := gb253) (o := .cells #[.int .i64 a0_0, .int .i64 a0_1, .slice A0_2 l0_2.length c0_2] 24 (0, 0)) (by (with_reducible repeat (first | refine blk_drewN ?_ _ | refine blk_drew ?_ | refine blk_alloc ?_ _)); exact BK253.out) hb)
                        have n8_ := Aside0.mk (blk_below (g := gb264) (o := .cells #[.int .i64 t255, .int .i64 t256, .slice Ao23 t257.length co23] 24 (0, 0)) (by (with_reducible repeat (first | refine blk_drewN ?_ _ | refine blk_drew ?_ | refine blk_alloc ?_ _)); exact BK264.out) hb)
                        have n9_ := Aside0.mk (blk_below (g := gb279) (o := .cells #[.int .i64 t270, .int .i64 t271, .slice Ao33 t272.length co33] 29 (0, 0)) (by (with_reducible repeat (first | refine blk_drewN ?_ _ | refine blk_drew ?_ | refine blk_alloc ?_ _)); exact BK279.out) hb)
                        have n10_ := Aside0.mk (blk_below (g := gb286) (o := .cells #[.int .i64 t280, .int .i64 t281, .slice Ao42 t282.length co42] 24 (0, 0)) (by (with_reducible repeat (first | refine blk_drewN ?_ _ | refine blk_drew ?_ | refine blk_alloc ?_ _)); exact BK286.out) hb)
                        have n11_ := Aside0.mk (blk_below (g := gb298) (o := .cells #[.int .i64 t292, .int .i64 t293, .slice Ao54 t294.length co54] 29 (0, 0)) (by (with_reducible repeat (first | refine blk_drewN ?_ _ | refine blk_drew ?_ | refine blk_alloc ?_ _)); exact BK298.out) hb)
                        have n12_ := Aside0.mk (blk_below (g := gb305) (o := .cells #[.int .i64 t299, .int .i64 t300, .slice Ao63 t301.length co63] 24 (0, 0)) (by (with_reducible repeat (first | refine blk_drewN ?_ _ | refine blk_drew ?_ | refine blk_alloc ?_ _)); exact BK305.out) hb)
                        have n13_ := Aside0.mk (below_step (by repeat (first | (with_reducible first | exact HB.out | apply below_alloc | apply pw_below_drewN | apply below_drew1 | refine below_set ?_ GE253.out | refine below_set ?_ GE264.out | refine below_set ?_ GE279.out | refine below_set ?_ GE286.out | refine below_set ?_ GE298.out | refine below_set ?_ GE305.out) | exact HB.out)) hb)
                        clear HO_6
                        clear HO_9
                        clear HO_265002
                        clear HO_280002
                        clear HO_287002
                        clear HO_299002
                        clear HO_306002
                        clear BK253
                        clear BK264
                        clear BK279
                        clear BK286
                        clear BK298
                        clear BK305
                        clear HB
                        have HO_6 := n0_
                        have HO_9 := n1_
                        have HO_265002 := n2_
                        have HO_280002 := n3_
                        have HO_287002 := n4_
                        have HO_299002 := n5_
                        have HO_306002 := n6_
                        have BK253 := n7_
                        have BK264 := n8_
                        have BK279 := n9_
                        have BK286 := n10_
                        have BK298 := n11_
                        have BK305 := n12_
                        have HB := n13_
                        clear n0_ n1_ n2_ n3_ n4_ n5_ n6_ n7_ n8_ n9_ n10_ n11_ n12_ n13_
                        (try clear hb)
                        (try clear hb2)
                        (try clear hk)
                        (try clear hi)
                        refine hK.out _ _ ⟨(blk_cell BK253.out 0).trans rfl, (blk_cell BK253.out 1).trans rfl, (blk_cell BK253.out 2).trans rfl, (blk_cell BK264.out 0).trans rfl, (blk_cell BK264.out 1).trans rfl, (blk_cell BK264.out 2).trans rfl, (blk_cell BK279.out 0).trans rfl, (blk_cell BK279.out 1).trans rfl, (blk_cell BK279.out 2).trans rfl, (blk_cell BK286.out 0).trans rfl, (blk_cell BK286.out 1).trans rfl, (blk_cell BK286.out 2).trans rfl, (blk_cell BK298.out 0).trans rfl, (blk_cell BK298.out 1).trans rfl, (blk_cell BK298.out 2).trans rfl⟩ (fun hHeld => ?_)
                        clear hK K
                        refine norm_ (a' := ?_) ?_ ?_
                        rotate_left
                        · show Act.put _ (some 91) _ = _
                          simp only [Act.put, List.setIfInBounds_toArray, List.set_cons_zero, List.set_cons_succ, i64_w, i32_w]
                          rfl
                        refine one_ (i := 3) (N := some 93) #[true, true, true, true, false, false, false, false, false, false, false, false, false, false, false, false, false, false, false, false, false, false, false, false, false, false, false, false, false, false, false, false, false, false, false, false, false, false, false, false, false, false, false, false, false, false, false] rfl rfl (one_of HT_.out (by kernel_rfl)) (by decide) (fun K hK => ?_)
                        refine goes_ Try.func11 (by kernel_rfl) rfl #[.agg #[.int .i64 a0_0, .int .i64 a0_1, .slice A0_2 l0_2.length c0_2]] (by rfl) rfl rfl (by (try simp only [List.map_toArray, List.map_cons, List.map_nil]); first | done | rfl | (simp only [List.length_drop, List.length_take]; rfl)) ?_
                        with_reducible refine (handshakerlaw19_ref.calls a0_0 a0_1 (fun k_ => k_ < w.heap.size) _ _ l0_2 t308 t309 t310 _ ?side1 A78.out).mono ?_
                        (case side1 => exact Kd.V_mk HC0_2.out (Kd.F_below (Kd.C_F (Kd.heap_int .i64) HR0_2.out) (by repeat (first | (with_reducible first | exact HB.out | apply below_alloc | apply pw_below_drewN | apply below_drew1 | refine below_set ?_ GE253.out | refine below_set ?_ GE264.out | refine below_set ?_ GE279.out | refine below_set ?_ GE286.out | refine below_set ?_ GE298.out | refine below_set ?_ GE305.out) | exact HB.out))))
                        rintro e w98 ⟨v311, rfl, ho0, hb⟩
                        refine ⟨_, rfl, ?_⟩
                        have n0_ := Aside0.mk (Kd.R_below (by (with_reducible repeat (first | apply Kd.R_alloc | apply Kd.R_drewN | apply Kd.R_drew)); exact HO_6.out) hb)
                        have n1_ := Aside0.mk (Kd.R_below (by (with_reducible repeat (first | apply Kd.R_alloc | apply Kd.R_drewN | apply Kd.R_drew)); exact HO_9.out) hb)
                        have n2_ := Aside0.mk (Kd.V_below (by (with_reducible repeat (first | apply Kd.V_alloc | apply Kd.V_drewN | apply Kd.V_drew)); exact HO_265002.out) hb)
                        have n3_ := Aside0.mk (Kd.V_below (by (with_reducible repeat (first | apply Kd.V_alloc | apply Kd.V_drewN | apply Kd.V_drew)); exact HO_280002.out) hb)
                        have n4_ := Aside0.mk (Kd.V_below (by (with_reducible repeat (first | apply Kd.V_alloc | apply Kd.V_drewN | apply Kd.V_drew)); exact HO_287002.out) hb)
                        have n5_ := Aside0.mk (Kd.V_below (by (with_reducible repeat (first | apply Kd.V_alloc | apply Kd.V_drewN | apply Kd.V_drew)); exact HO_299002.out) hb)
                        have n6_ := Aside0.mk (Kd.R_below (by (with_reducible repeat (first | apply Kd.R_alloc | apply Kd.R_drewN | apply Kd.R_drew)); exact HO_306002.out) hb)
                        have n7_ := Aside0.mk (Kd.V_lower (Kd.V_mono (ok' := fun k_ => some k_ ≠ (v261 : Value).ownBlock ∧ some k_ ≠ (v276 : Value).ownBlock ∧ some k_ ≠ (.slice Ao63 t301.length co63 : Value).ownBlock ∧ k_ ≠ gb253 ∧ k_ ≠ gb264 ∧ k_ ≠ gb279 ∧ k_ ≠ gb286 ∧ k_ ≠ gb298 ∧ k_ ≠ gb305) ho0 (fun k_ hk_ => ⟨Or.elim hk_ (fun hs_ => fun e_ => Nat.not_le.2 hs_ (Kd.R_base HO_6.out k_ e_.symm)) (fun hn_ => (Kd.fresh' (Kd.R_lt (by (with_reducible repeat (first | apply Kd.R_alloc | apply Kd.R_drewN | apply Kd.R_drew)); exact HO_6.out)) k_ hn_)), Or.elim hk_ (fun hs_ => fun e_ => Nat.not_le.2 hs_ (Kd.R_base HO_9.out k_ e_.symm)) (fun hn_ => (Kd.fresh' (Kd.R_lt (by (with_reducible repeat (first | apply Kd.R_alloc | apply Kd.R_drewN | apply Kd.R_drew)); exact HO_9.out)) k_ hn_)), Or.elim hk_ (fun hs_ => fun e_ => Nat.not_le.2 hs_ (Kd.R_base HO_306002.out k_ e_.symm)) (fun hn_ => (Kd.fresh' (Kd.R_lt (by (with_reducible repeat (first | apply Kd.R_alloc | apply Kd.R_drewN | apply Kd.R_drew)); exact HO_306002.out)) k_ hn_)), Or.elim hk_ (fun hs_ => fun e_ => Nat.not_le.2 hs_ (by rw [e_]; exact GW253.out)) (fun hn_ => (Kd.freshB (g := gb253) (o := .cells #[.int .i64 a0_0, .int .i64 a0_1, .slice A0_2 l0_2.length c0_2] 24 (0, 0)) (by (with_reducible repeat (first | refine blk_drewN ?_ _ | refine blk_drew ?_ | refine blk_alloc ?_ _)); exact BK253.out) k_ hn_)), Or.elim hk_ (fun hs_ => fun e_ => Nat.not_le.2 hs_ (by rw [e_]; exact GW264.out)) (fun hn_ => (Kd.freshB (g := gb264) (o := .cells #[.int .i64 t255, .int .i64 t256, .slice Ao23 t257.length co23] 24 (0, 0)) (by (with_reducible repeat (first | refine blk_drewN ?_ _ | refine blk_drew ?_ | refine blk_alloc ?_ _)); exact BK264.out) k_ hn_)), Or.elim hk_ (fun hs_ => fun e_ => Nat.not_le.2 hs_ (by rw [e_]; exact GW279.out)) (fun hn_ => (Kd.freshB (g := gb279) (o := .cells #[.int .i64 t270, .int .i64 t271, .slice Ao33 t272.length co33] 29 (0, 0)) (by (with_reducible repeat (first | refine blk_drewN ?_ _ | refine blk_drew ?_ | refine blk_alloc ?_ _)); exact BK279.out) k_ hn_)), Or.elim hk_ (fun hs_ => fun e_ => Nat.not_le.2 hs_ (by rw [e_]; exact GW286.out)) (fun hn_ => (Kd.freshB (g := gb286) (o := .cells #[.int .i64 t280, .int .i64 t281, .slice Ao42 t282.length co42] 24 (0, 0)) (by (with_reducible repeat (first | refine blk_drewN ?_ _ | refine blk_drew ?_ | refine blk_alloc ?_ _)); exact BK286.out) k_ hn_)), Or.elim hk_ (fun hs_ => fun e_ => Nat.not_le.2 hs_ (by rw [e_]; exact GW298.out)) (fun hn_ => (Kd.freshB (g := gb298) (o := .cells #[.int .i64 t292, .int .i64 t293, .slice Ao54 t294.length co54] 29 (0, 0)) (by (with_reducible repeat (first | refine blk_drewN ?_ _ | refine blk_drew ?_ | refine blk_alloc ?_ _)); exact BK298.out) k_ hn_)), Or.elim hk_ (fun hs_ => fun e_ => Nat.not_le.2 hs_ (by rw [e_]; exact GW305.out)) (fun hn_ => (Kd.freshB (g := gb305) (o := .cells #[.int .i64 t299, .int .i64 t300, .slice Ao63 t301.length co63] 24 (0, 0)) (by (with_reducible repeat (first | refine blk_drewN ?_ _ | refine blk_drew ?_ | refine blk_alloc ?_ _)); exact BK305.out) k_ hn_))⟩)) (below_size (by repeat (first | (with_reducible first | exact HB.out | apply below_alloc | apply pw_below_drewN | apply below_drew1 | refine below_set ?_ GE253.out | refine below_set ?_ GE264.out | refine below_set ?_ GE279.out | refine below_set ?_ GE286.out | refine below_set ?_ GE298.out | refine below_set ?_ GE305.out) | exact HB.out))))
                        have n8_ := Aside0.mk (blk_below (g := gb253) (o := .cells #[.int .i64 a0_0, .int .i64 a0_1, .slice A0_2 l0_2.length c0_2] 24 (0, 0)) (by (with_reducible repeat (first | refine blk_drewN ?_ _ | refine blk_drew ?_ | refine blk_alloc ?_ _)); exact BK253.out) hb)
                        have n9_ := Aside0.mk (blk_below (g := gb264) (o := .cells #[.int .i64 t255, .int .i64 t256, .slice Ao23 t257.length co23] 24 (0, 0)) (by (with_reducible repeat (first | refine blk_drewN ?_ _ | refine blk_drew ?_ | refine blk_alloc ?_ _)); exact BK264.out) hb)
                        have n10_ := Aside0.mk (blk_below (g := gb279) (o := .cells #[.int .i64 t270, .int .i64 t271, .slice Ao33 t272.length co33] 29 (0, 0)) (by (with_reducible repeat (first | refine blk_drewN ?_ _ | refine blk_drew ?_ | refine blk_alloc ?_ _)); exact BK279.out) hb)
                        have n11_ := Aside0.mk (blk_below (g := gb286) (o := .cells #[.int .i64 t280, .int .i64 t281, .slice Ao42 t282.length co42] 24 (0, 0)) (by (with_reducible repeat (first | refine blk_drewN ?_ _ | refine blk_drew ?_ | refine blk_alloc ?_ _)); exact BK286.out) hb)
                        have n12_ := Aside0.mk (blk_below (g := gb298) (o := .cells #[.int .i64 t292, .int .i64 t293, .slice Ao54 t294.length co54] 29 (0, 0)) (by (with_reducible repeat (first | refine blk_drewN ?_ _ | refine blk_drew ?_ | refine blk_alloc ?_ _)); exact BK298.out) hb)
                        have n13_ := Aside0.mk (blk_below (g := gb305) (o := .cells #[.int .i64 t299, .int .i64 t300, .slice Ao63 t301.length co63] 24 (0, 0)) (by (with_reducible repeat (first | refine blk_drewN ?_ _ | refine blk_drew ?_ | refine blk_alloc ?_ _)); exact BK305.out) hb)
                        have n14_ := Aside0.mk (below_step (by repeat (first | (with_reducible first | exact HB.out | apply below_alloc | apply pw_below_drewN | apply below_drew1 | refine below_set ?_ GE253.out | refine below_set ?_ GE264.out | refine below_set ?_ GE279.out | refine below_set ?_ GE286.out | refine below_set ?_ GE298.out | refine below_set ?_ GE305.out) | exact HB.out)) hb)
                        clear HO_6
                        clear HO_9
                        clear HO_265002
                        clear HO_280002
                        clear HO_287002
                        clear HO_299002
                        clear HO_306002
                        clear BK253
                        clear BK264
                        clear BK279
                        clear BK286
                        clear BK298
                        clear BK305
                        clear HB
                        have HO_6 := n0_
                        have HO_9 := n1_
                        have HO_265002 := n2_
                        have HO_280002 := n3_
                        have HO_287002 := n4_
                        have HO_299002 := n5_
                        have HO_306002 := n6_
                        have HO312 := n7_
                        have BK253 := n8_
                        have BK264 := n9_
                        have BK279 := n10_
                        have BK286 := n11_
                        have BK298 := n12_
                        have BK305 := n13_
                        have HB := n14_
                        clear n0_ n1_ n2_ n3_ n4_ n5_ n6_ n7_ n8_ n9_ n10_ n11_ n12_ n13_ n14_
                        (try clear hb)
                        (try clear hb2)
                        (try clear hk)
                        (try clear hi)
                        (try clear ho0)
                        obtain ⟨Ao99, co99, eo99⟩ := Kd.V_slice HO312.out
                        (first | subst eo99 | (injection eo99 with f1_ f2_ f3_; have f4_ := f1_.symm; have f5_ := f3_.symm; clear f1_ f2_ f3_; subst f4_; subst f5_))
                        refine hK.out _ _ ⟨(blk_cell BK253.out 0).trans rfl, (blk_cell BK253.out 1).trans rfl, (blk_cell BK253.out 2).trans rfl, (blk_cell BK264.out 0).trans rfl, (blk_cell BK264.out 1).trans rfl, (blk_cell BK264.out 2).trans rfl, (blk_cell BK279.out 0).trans rfl, (blk_cell BK279.out 1).trans rfl, (blk_cell BK279.out 2).trans rfl, (blk_cell BK286.out 0).trans rfl, (blk_cell BK286.out 1).trans rfl, (blk_cell BK286.out 2).trans rfl, (blk_cell BK298.out 0).trans rfl, (blk_cell BK298.out 1).trans rfl, (blk_cell BK298.out 2).trans rfl⟩ (fun hHeld => ?_)
                        clear hK K
                        refine norm_ (a' := ?_) ?_ ?_
                        rotate_left
                        · show Act.put _ (some 93) _ = _
                          simp only [Act.put, List.setIfInBounds_toArray, List.set_cons_zero, List.set_cons_succ, i64_w, i32_w]
                          rfl
                        refine one_ (i := 4) (N := some 94) #[true, true, true, true, true, false, false, false, false, false, false, false, false, false, false, false, false, false, false, false, false, false, false, false, false, false, false, false, false, false, false, false, false, false, false, false, false, false, false, false, false, false, false, false, false, false, false] rfl rfl (one_of HT_.out (by kernel_rfl)) (by decide) (fun K hK => ?_)
                        refine goes_ Try.func17 (by kernel_rfl) rfl #[.agg #[.int .i64 t308, .int .i64 t309, .slice Ao99 t310.length co99]] (by rfl) rfl rfl (by (try simp only [List.map_toArray, List.map_cons, List.map_nil]); first | done | rfl | (simp only [List.length_drop, List.length_take]; rfl)) ?_
                        with_reducible refine (handshakerref19_Right.calls kj15 t308 t309 _ _ t310 t313 _ ?side1 ?side2 A79.out).mono ?_
                        (case side1 => repeat (first | exact (Kd.V_reads' HO312.out).2.2 | (with_reducible refine Kd.C_alloc ?_ _) | (with_reducible refine Kd.C_drewN ?_ _) | (with_reducible refine Kd.C_drew ?_)))
                        (case side2 => exact (Kd.V_reads' HO312.out).2.1)
                        rintro e w100 ⟨rfl, hb⟩
                        refine ⟨_, rfl, ?_⟩
                        have n0_ := Aside0.mk (Kd.R_below (by (with_reducible repeat (first | apply Kd.R_alloc | apply Kd.R_drewN | apply Kd.R_drew)); exact HO_6.out) hb)
                        have n1_ := Aside0.mk (Kd.R_below (by (with_reducible repeat (first | apply Kd.R_alloc | apply Kd.R_drewN | apply Kd.R_drew)); exact HO_9.out) hb)
                        have n2_ := Aside0.mk (Kd.V_below (by (with_reducible repeat (first | apply Kd.V_alloc | apply Kd.V_drewN | apply Kd.V_drew)); exact HO_265002.out) hb)
                        have n3_ := Aside0.mk (Kd.V_below (by (with_reducible repeat (first | apply Kd.V_alloc | apply Kd.V_drewN | apply Kd.V_drew)); exact HO_280002.out) hb)
                        have n4_ := Aside0.mk (Kd.V_below (by (with_reducible repeat (first | apply Kd.V_alloc | apply Kd.V_drewN | apply Kd.V_drew)); exact HO_287002.out) hb)
                        have n5_ := Aside0.mk (Kd.V_below (by (with_reducible repeat (first | apply Kd.V_alloc | apply Kd.V_drewN | apply Kd.V_drew)); exact HO_299002.out) hb)
                        have n6_ := Aside0.mk (Kd.R_below (by (with_reducible repeat (first | apply Kd.R_alloc | apply Kd.R_drewN | apply Kd.R_drew)); exact HO_306002.out) hb)
                        have n7_ := Aside0.mk (Kd.V_below (by (with_reducible repeat (first | apply Kd.V_alloc | apply Kd.V_drewN | apply Kd.V_drew)); exact HO312.out) hb)
                        have n8_ := Aside0.mk (blk_below (g := gb253) (o := .cells #[.int .i64 a0_0, .int .i64 a0_1, .slice A0_2 l0_2.length c0_2] 24 (0, 0)) (by (with_reducible repeat (first | refine blk_drewN ?_ _ | refine blk_drew ?_ | refine blk_alloc ?_ _)); exact BK253.out) hb)
                        have n9_ := Aside0.mk (blk_below (g := gb264) (o := .cells #[.int .i64 t255, .int .i64 t256, .slice Ao23 t257.length co23] 24 (0, 0)) (by (with_reducible repeat (first | refine blk_drewN ?_ _ | refine blk_drew ?_ | refine blk_alloc ?_ _)); exact BK264.out) hb)
                        have n10_ := Aside0.mk (blk_below (g := gb279) (o := .cells #[.int .i64 t270, .int .i64 t271, .slice Ao33 t272.length co33] 29 (0, 0)) (by (with_reducible repeat (first | refine blk_drewN ?_ _ | refine blk_drew ?_ | refine blk_alloc ?_ _)); exact BK279.out) hb)
                        have n11_ := Aside0.mk (blk_below (g := gb286) (o := .cells #[.int .i64 t280, .int .i64 t281, .slice Ao42 t282.length co42] 24 (0, 0)) (by (with_reducible repeat (first | refine blk_drewN ?_ _ | refine blk_drew ?_ | refine blk_alloc ?_ _)); exact BK286.out) hb)
                        have n12_ := Aside0.mk (blk_below (g := gb298) (o := .cells #[.int .i64 t292, .int .i64 t293, .slice Ao54 t294.length co54] 29 (0, 0)) (by (with_reducible repeat (first | refine blk_drewN ?_ _ | refine blk_drew ?_ | refine blk_alloc ?_ _)); exact BK298.out) hb)
                        have n13_ := Aside0.mk (blk_below (g := gb305) (o := .cells #[.int .i64 t299, .int .i64 t300, .slice Ao63 t301.length co63] 24 (0, 0)) (by (with_reducible repeat (first | refine blk_drewN ?_ _ | refine blk_drew ?_ | refine blk_alloc ?_ _)); exact BK305.out) hb)
                        have n14_ := Aside0.mk (below_step (by repeat (first | (with_reducible first | exact HB.out | apply below_alloc | apply pw_below_drewN | apply below_drew1 | refine below_set ?_ GE253.out | refine below_set ?_ GE264.out | refine below_set ?_ GE279.out | refine below_set ?_ GE286.out | refine below_set ?_ GE298.out | refine below_set ?_ GE305.out) | exact HB.out)) hb)
                        clear HO_6
                        clear HO_9
                        clear HO_265002
                        clear HO_280002
                        clear HO_287002
                        clear HO_299002
                        clear HO_306002
                        clear HO312
                        clear BK253
                        clear BK264
                        clear BK279
                        clear BK286
                        clear BK298
                        clear BK305
                        clear HB
                        have HO_6 := n0_
                        have HO_9 := n1_
                        have HO_265002 := n2_
                        have HO_280002 := n3_
                        have HO_287002 := n4_
                        have HO_299002 := n5_
                        have HO_306002 := n6_
                        have HO312 := n7_
                        have BK253 := n8_
                        have BK264 := n9_
                        have BK279 := n10_
                        have BK286 := n11_
                        have BK298 := n12_
                        have BK305 := n13_
                        have HB := n14_
                        clear n0_ n1_ n2_ n3_ n4_ n5_ n6_ n7_ n8_ n9_ n10_ n11_ n12_ n13_ n14_
                        (try clear hb)
                        (try clear hb2)
                        (try clear hk)
                        (try clear hi)
                        refine hK.out _ _ ⟨(blk_cell BK253.out 0).trans rfl, (blk_cell BK253.out 1).trans rfl, (blk_cell BK253.out 2).trans rfl, (blk_cell BK264.out 0).trans rfl, (blk_cell BK264.out 1).trans rfl, (blk_cell BK264.out 2).trans rfl, (blk_cell BK279.out 0).trans rfl, (blk_cell BK279.out 1).trans rfl, (blk_cell BK279.out 2).trans rfl, (blk_cell BK286.out 0).trans rfl, (blk_cell BK286.out 1).trans rfl, (blk_cell BK286.out 2).trans rfl, (blk_cell BK298.out 0).trans rfl, (blk_cell BK298.out 1).trans rfl, (blk_cell BK298.out 2).trans rfl⟩ (fun hHeld => ?_)
                        clear hK K
                        refine norm_ (a' := ?_) ?_ ?_
                        rotate_left
                        · show Act.put _ (some 94) _ = _
                          simp only [Act.put, List.setIfInBounds_toArray, List.set_cons_zero, List.set_cons_succ, i64_w, i32_w]
                          rfl
                        refine pure_ (i := 5) (N := some 95) (v := ?_) (a' := ?_) #[true, true, true, true, true, true, false, false, false, false, false, false, false, false, false, false, false, false, false, false, false, false, false, false, false, false, false, false, false, false, false, false, false, false, false, false, false, false, false, false, false, false, false, false, false, false, false] rfl rfl (any_of HT_.out (by kernel_rfl)) (fun _ _ _ h => h) (Or.inl ⟨by rfl, ?_⟩) ?_ ?_
                        rotate_left
                        · intro w'
                          go_simp
                          with_reducible rfl
                        rotate_left
                        · simp only [Act.put, List.setIfInBounds_toArray, List.set_cons_zero, List.set_cons_succ, i64_w, i32_w]
                          rfl
                        refine pure_ (i := 6) (N := some 96) (v := ?_) (a' := ?_) #[true, true, true, true, true, true, true, false, false, false, false, false, false, false, false, false, false, false, false, false, false, false, false, false, false, false, false, false, false, false, false, false, false, false, false, false, false, false, false, false, false, false, false, false, false, false, false] rfl rfl (any_of HT_.out (by kernel_rfl)) (fun _ _ _ h => h) (Or.inl ⟨by rfl, ?_⟩) ?_ ?_
                        rotate_left
                        · intro w'
                          go_simp
                          with_reducible rfl
                        rotate_left
                        · simp only [Act.put, List.setIfInBounds_toArray, List.set_cons_zero, List.set_cons_succ, i64_w, i32_w]
                          rfl
                        refine take_ (i := 7) (N := some 97) (v := ?_) (a' := ?_) #[true, true, true, true, true, true, true, true, false, false, false, false, false, false, false, false, false, false, false, false, false, false, false, false, false, false, false, false, false, false, false, false, false, false, false, false, false, false, false, false, false, false, false, false, false, false, false] rfl rfl (take_ofW HT_.out HW_.out (by kernel_rfl)) (fun _ _ _ h => h) (Or.inl ⟨by rfl, ?_⟩) hHeld ?_ ?_
                        rotate_left
                        · rintro w' ⟨s0, s1, s2, s3, s4, s5, s6, s7, s8, s9, s10, s11, s12, s13, s14⟩
                          go_simp
                          with_reducible rfl
                        rotate_left
                        · simp only [Act.put, List.setIfInBounds_toArray, List.set_cons_zero, List.set_cons_succ, i64_w, i32_w]
                          rfl
                        refine take_ (i := 9) (N := some 99) (v := ?_) (a' := ?_) #[true, true, true, true, true, true, true, true, false, true, false, false, false, false, false, false, false, false, false, false, false, false, false, false, false, false, false, false, false, false, false, false, false, false, false, false, false, false, false, false, false, false, false, false, false, false, false] rfl rfl (take_ofW HT_.out HW_.out (by kernel_rfl)) (fun _ _ _ h => h) (Or.inl ⟨by rfl, ?_⟩) hHeld ?_ ?_
                        rotate_left
                        · rintro w' ⟨s0, s1, s2, s3, s4, s5, s6, s7, s8, s9, s10, s11, s12, s13, s14⟩
                          go_simp
                          with_reducible rfl
                        rotate_left
                        · simp only [Act.put, List.setIfInBounds_toArray, List.set_cons_zero, List.set_cons_succ, i64_w, i32_w]
                          rfl
                        refine one_ (i := 8) (N := some 98) #[true, true, true, true, true, true, true, true, true, true, false, false, false, false, false, false, false, false, false, false, false, false, false, false, false, false, false, false, false, false, false, false, false, false, false, false, false, false, false, false, false, false, false, false, false, false, false] rfl rfl (one_of HT_.out (by kernel_rfl)) (by decide) (fun K hK => ?_)
                        refine goes_ Try.func11 (by kernel_rfl) rfl #[.agg #[.int .i64 t255, .int .i64 t256, .slice Ao23 t257.length co23]] (by rfl) rfl rfl (by (try simp only [List.map_toArray, List.map_cons, List.map_nil]); first | done | rfl | (simp only [List.length_drop, List.length_take]; rfl)) ?_
                        with_reducible refine (handshakerlaw19_ref.calls t255 t256 (fun k_ => (some k_ ≠ (v261 : Value).ownBlock ∧ (some k_ ≠ (v276 : Value).ownBlock ∧ (some k_ ≠ (.slice Ao63 t301.length co63 : Value).ownBlock ∧ (k_ ≠ gb253 ∧ (k_ ≠ gb264 ∧ (k_ ≠ gb279 ∧ (k_ ≠ gb286 ∧ (k_ ≠ gb298 ∧ k_ ≠ gb305))))))))) _ _ t257 t314 t315 t316 _ ?side1 A81.out).mono ?_
                        (case side1 => exact HO_265002.out)
                        rintro e w101 ⟨v317, rfl, ho0, hb⟩
                        refine ⟨_, rfl, ?_⟩
                        have n0_ := Aside0.mk (Kd.R_below (by (with_reducible repeat (first | apply Kd.R_alloc | apply Kd.R_drewN | apply Kd.R_drew)); exact HO_6.out) hb)
                        have n1_ := Aside0.mk (Kd.R_below (by (with_reducible repeat (first | apply Kd.R_alloc | apply Kd.R_drewN | apply Kd.R_drew)); exact HO_9.out) hb)
                        have n2_ := Aside0.mk (Kd.V_below (by (with_reducible repeat (first | apply Kd.V_alloc | apply Kd.V_drewN | apply Kd.V_drew)); exact HO_265002.out) hb)
                        have n3_ := Aside0.mk (Kd.V_below (by (with_reducible repeat (first | apply Kd.V_alloc | apply Kd.V_drewN | apply Kd.V_drew)); exact HO_280002.out) hb)
                        have n4_ := Aside0.mk (Kd.V_below (by (with_reducible repeat (first | apply Kd.V_alloc | apply Kd.V_drewN | apply Kd.V_drew)); exact HO_287002.out) hb)
                        have n5_ := Aside0.mk (Kd.V_below (by (with_reducible repeat (first | apply Kd.V_alloc | apply Kd.V_drewN | apply Kd.V_drew)); exact HO_299002.out) hb)
                        have n6_ := Aside0.mk (Kd.R_below (by (with_reducible repeat (first | apply Kd.R_alloc | apply Kd.R_drewN | apply Kd.R_drew)); exact HO_306002.out) hb)
                        have n7_ := Aside0.mk (Kd.V_below (by (with_reducible repeat (first | apply Kd.V_alloc | apply Kd.V_drewN | apply Kd.V_drew)); exact HO312.out) hb)
                        have n8_ := Aside0.mk (Kd.V_lower (Kd.V_mono (ok' := fun k_ => some k_ ≠ (v261 : Value).ownBlock ∧ some k_ ≠ (v276 : Value).ownBlock ∧ some k_ ≠ (.slice Ao63 t301.length co63 : Value).ownBlock ∧ k_ ≠ gb253 ∧ k_ ≠ gb264 ∧ k_ ≠ gb279 ∧ k_ ≠ gb286 ∧ k_ ≠ gb298 ∧ k_ ≠ gb305) ho0 (fun k_ hk_ => ⟨Or.elim hk_ (fun hs_ => hs_.1) (fun hn_ => (Kd.fresh' (Kd.R_lt (by (with_reducible repeat (first | apply Kd.R_alloc | apply Kd.R_drewN | apply Kd.R_drew)); exact HO_6.out)) k_ hn_)), Or.elim hk_ (fun hs_ => hs_.2.1) (fun hn_ => (Kd.fresh' (Kd.R_lt (by (with_reducible repeat (first | apply Kd.R_alloc | apply Kd.R_drewN | apply Kd.R_drew)); exact HO_9.out)) k_ hn_)), Or.elim hk_ (fun hs_ => hs_.2.2.1) (fun hn_ => (Kd.fresh' (Kd.R_lt (by (with_reducible repeat (first | apply Kd.R_alloc | apply Kd.R_drewN | apply Kd.R_drew)); exact HO_306002.out)) k_ hn_)), Or.elim hk_ (fun hs_ => hs_.2.2.2.1) (fun hn_ => (Kd.freshB (g := gb253) (o := .cells #[.int .i64 a0_0, .int .i64 a0_1, .slice A0_2 l0_2.length c0_2] 24 (0, 0)) (by (with_reducible repeat (first | refine blk_drewN ?_ _ | refine blk_drew ?_ | refine blk_alloc ?_ _)); exact BK253.out) k_ hn_)), Or.elim hk_ (fun hs_ => hs_.2.2.2.2.1) (fun hn_ => (Kd.freshB (g := gb264) (o := .cells #[.int .i64 t255, .int .i64 t256, .slice Ao23 t257.length co23] 24 (0, 0)) (by (with_reducible repeat (first | refine blk_drewN ?_ _ | refine blk_drew ?_ | refine blk_alloc ?_ _)); exact BK264.out) k_ hn_)), Or.elim hk_ (fun hs_ => hs_.2.2.2.2.2.1) (fun hn_ => (Kd.freshB (g := gb279) (o := .cells #[.int .i64 t270, .int .i64 t271, .slice Ao33 t272.length co33] 29 (0, 0)) (by (with_reducible repeat (first | refine blk_drewN ?_ _ | refine blk_drew ?_ | refine blk_alloc ?_ _)); exact BK279.out) k_ hn_)), Or.elim hk_ (fun hs_ => hs_.2.2.2.2.2.2.1) (fun hn_ => (Kd.freshB (g := gb286) (o := .cells #[.int .i64 t280, .int .i64 t281, .slice Ao42 t282.length co42] 24 (0, 0)) (by (with_reducible repeat (first | refine blk_drewN ?_ _ | refine blk_drew ?_ | refine blk_alloc ?_ _)); exact BK286.out) k_ hn_)), Or.elim hk_ (fun hs_ => hs_.2.2.2.2.2.2.2.1) (fun hn_ => (Kd.freshB (g := gb298) (o := .cells #[.int .i64 t292, .int .i64 t293, .slice Ao54 t294.length co54] 29 (0, 0)) (by (with_reducible repeat (first | refine blk_drewN ?_ _ | refine blk_drew ?_ | refine blk_alloc ?_ _)); exact BK298.out) k_ hn_)), Or.elim hk_ (fun hs_ => hs_.2.2.2.2.2.2.2.2) (fun hn_ => (Kd.freshB (g := gb305) (o := .cells #[.int .i64 t299, .int .i64 t300, .slice Ao63 t301.length co63] 24 (0, 0)) (by (with_reducible repeat (first | refine blk_drewN ?_ _ | refine blk_drew ?_ | refine blk_alloc ?_ _)); exact BK305.out) k_ hn_))⟩)) (below_size (by repeat (first | (with_reducible first | exact HB.out | apply below_alloc | apply pw_below_drewN | apply below_drew1 | refine below_set ?_ GE253.out | refine below_set ?_ GE264.out | refine below_set ?_ GE279.out | refine below_set ?_ GE286.out | refine below_set ?_ GE298.out | refine below_set ?_ GE305.out) | exact HB.out))))
                        have n9_ := Aside0.mk (blk_below (g := gb253) (o := .cells #[.int .i64 a0_0, .int .i64 a0_1, .slice A0_2 l0_2.length c0_2] 24 (0, 0)) (by (with_reducible repeat (first | refine blk_drewN ?_ _ | refine blk_drew ?_ | refine blk_alloc ?_ _)); exact BK253.out) hb)
                        have n10_ := Aside0.mk (blk_below (g := gb264) (o := .cells #[.int .i64 t255, .int .i64 t256, .slice Ao23 t257.length co23] 24 (0, 0)) (by (with_reducible repeat (first | refine blk_drewN ?_ _ | refine blk_drew ?_ | refine blk_alloc ?_ _)); exact BK264.out) hb)
                        have n11_ := Aside0.mk (blk_below (g := gb279) (o := .cells #[.int .i64 t270, .int .i64 t271, .slice Ao33 t272.length co33] 29 (0, 0)) (by (with_reducible repeat (first | refine blk_drewN ?_ _ | refine blk_drew ?_ | refine blk_alloc ?_ _)); exact BK279.out) hb)
                        have n12_ := Aside0.mk (blk_below (g := gb286) (o := .cells #[.int .i64 t280, .int .i64 t281, .slice Ao42 t282.length co42] 24 (0, 0)) (by (with_reducible repeat (first | refine blk_drewN ?_ _ | refine blk_drew ?_ | refine blk_alloc ?_ _)); exact BK286.out) hb)
                        have n13_ := Aside0.mk (blk_below (g := gb298) (o := .cells #[.int .i64 t292, .int .i64 t293, .slice Ao54 t294.length co54] 29 (0, 0)) (by (with_reducible repeat (first | refine blk_drewN ?_ _ | refine blk_drew ?_ | refine blk_alloc ?_ _)); exact BK298.out) hb)
                        have n14_ := Aside0.mk (blk_below (g := gb305) (o := .cells #[.int .i64 t299, .int .i64 t300, .slice Ao63 t301.length co63] 24 (0, 0)) (by (with_reducible repeat (first | refine blk_drewN ?_ _ | refine blk_drew ?_ | refine blk_alloc ?_ _)); exact BK305.out) hb)
                        have n15_ := Aside0.mk (below_step (by repeat (first | (with_reducible first | exact HB.out | apply below_alloc | apply pw_below_drewN | apply below_drew1 | refine below_set ?_ GE253.out | refine below_set ?_ GE264.out | refine below_set ?_ GE279.out | refine below_set ?_ GE286.out | refine below_set ?_ GE298.out | refine below_set ?_ GE305.out) | exact HB.out)) hb)
                        clear HO_6
                        clear HO_9
                        clear HO_265002
                        clear HO_280002
                        clear HO_287002
                        clear HO_299002
                        clear HO_306002
                        clear HO312
                        clear BK253
                        clear BK264
                        clear BK279
                        clear BK286
                        clear BK298
                        clear BK305
                        clear HB
                        have HO_6 := n0_
                        have HO_9 := n1_
                        have HO_265002 := n2_
                        have HO_280002 := n3_
                        have HO_287002 := n4_
                        have HO_299002 := n5_
                        have HO_306002 := n6_
                        have HO312 := n7_
                        have HO318 := n8_
                        have BK253 := n9_
                        have BK264 := n10_
                        have BK279 := n11_
                        have BK286 := n12_
                        have BK298 := n13_
                        have BK305 := n14_
                        have HB := n15_
                        clear n0_ n1_ n2_ n3_ n4_ n5_ n6_ n7_ n8_ n9_ n10_ n11_ n12_ n13_ n14_ n15_
                        (try clear hb)
                        (try clear hb2)
                        (try clear hk)
                        (try clear hi)
                        (try clear ho0)
                        obtain ⟨Ao102, co102, eo102⟩ := Kd.V_slice HO318.out
                        (first | subst eo102 | (injection eo102 with f1_ f2_ f3_; have f4_ := f1_.symm; have f5_ := f3_.symm; clear f1_ f2_ f3_; subst f4_; subst f5_))
                        refine hK.out _ _ ⟨(blk_cell BK253.out 0).trans rfl, (blk_cell BK253.out 1).trans rfl, (blk_cell BK253.out 2).trans rfl, (blk_cell BK264.out 0).trans rfl, (blk_cell BK264.out 1).trans rfl, (blk_cell BK264.out 2).trans rfl, (blk_cell BK279.out 0).trans rfl, (blk_cell BK279.out 1).trans rfl, (blk_cell BK279.out 2).trans rfl, (blk_cell BK286.out 0).trans rfl, (blk_cell BK286.out 1).trans rfl, (blk_cell BK286.out 2).trans rfl, (blk_cell BK298.out 0).trans rfl, (blk_cell BK298.out 1).trans rfl, (blk_cell BK298.out 2).trans rfl⟩ (fun hHeld => ?_)
                        clear hK K
                        refine norm_ (a' := ?_) ?_ ?_
                        rotate_left
                        · show Act.put _ (some 98) _ = _
                          simp only [Act.put, List.setIfInBounds_toArray, List.set_cons_zero, List.set_cons_succ, i64_w, i32_w]
                          rfl
                        refine one_ (i := 10) (N := some 100) #[true, true, true, true, true, true, true, true, true, true, true, false, false, false, false, false, false, false, false, false, false, false, false, false, false, false, false, false, false, false, false, false, false, false, false, false, false, false, false, false, false, false, false, false, false, false, false] rfl rfl (one_of HT_.out (by kernel_rfl)) (by decide) (fun K hK => ?_)
                        refine goes_ Try.func18 (by kernel_rfl) rfl #[.agg #[.int .i64 t314, .int .i64 t315, .slice Ao102 t316.length co102], .agg #[.int .i64 t270, .int .i64 t271, .slice Ao33 t272.length co33]] (by rfl) rfl rfl (by (try simp only [List.map_toArray, List.map_cons, List.map_nil]); first | done | rfl | (simp only [List.length_drop, List.length_take]; rfl)) ?_
                        with_reducible refine (handshakerref19_Same.calls kj15 t314 t315 _ _ t316 t270 t271 _ _ t272 true _ ?side1 ?side2 ?side3 ?side4 A82.out).mono ?_
                        (case side1 => repeat (first | exact (Kd.V_reads' HO318.out).2.2 | (with_reducible refine Kd.C_alloc ?_ _) | (with_reducible refine Kd.C_drewN ?_ _) | (with_reducible refine Kd.C_drew ?_)))
                        (case side2 => exact (Kd.V_reads' HO318.out).2.1)
                        (case side3 => repeat (first | exact (Kd.V_reads' HO_280002.out).2.2 | (with_reducible refine Kd.C_alloc ?_ _) | (with_reducible refine Kd.C_drewN ?_ _) | (with_reducible refine Kd.C_drew ?_)))
                        (case side4 => exact (Kd.V_reads' HO_280002.out).2.1)
                        rintro e w103 ⟨rfl, hb⟩
                        refine ⟨_, rfl, ?_⟩
                        have n0_ := Aside0.mk (Kd.R_below (by (with_reducible repeat (first | apply Kd.R_alloc | apply Kd.R_drewN | apply Kd.R_drew)); exact HO_6.out) hb)
                        have n1_ := Aside0.mk (Kd.R_below (by (with_reducible repeat (first | apply Kd.R_alloc | apply Kd.R_drewN | apply Kd.R_drew)); exact HO_9.out) hb)
                        have n2_ := Aside0.mk (Kd.V_below (by (with_reducible repeat (first | apply Kd.V_alloc | apply Kd.V_drewN | apply Kd.V_drew)); exact HO_265002.out) hb)
                        have n3_ := Aside0.mk (Kd.V_below (by (with_reducible repeat (first | apply Kd.V_alloc | apply Kd.V_drewN | apply Kd.V_drew)); exact HO_280002.out) hb)
                        have n4_ := Aside0.mk (Kd.V_below (by (with_reducible repeat (first | apply Kd.V_alloc | apply Kd.V_drewN | apply Kd.V_drew)); exact HO_287002.out) hb)
                        have n5_ := Aside0.mk (Kd.V_below (by (with_reducible repeat (first | apply Kd.V_alloc | apply Kd.V_drewN | apply Kd.V_drew)); exact HO_299002.out) hb)
                        have n6_ := Aside0.mk (Kd.R_below (by (with_reducible repeat (first | apply Kd.R_alloc | apply Kd.R_drewN | apply Kd.R_drew)); exact HO_306002.out) hb)
                        have n7_ := Aside0.mk (Kd.V_below (by (with_reducible repeat (first | apply Kd.V_alloc | apply Kd.V_drewN | apply Kd.V_drew)); exact HO312.out) hb)
                        have n8_ := Aside0.mk (Kd.V_below (by (with_reducible repeat (first | apply Kd.V_alloc | apply Kd.V_drewN | apply Kd.V_drew)); exact HO318.out) hb)
                        have n9_ := Aside0.mk (blk_below (g := gb253) (o := .cells #[.int .i64 a0_0, .int .i64 a0_1, .slice A0_2 l0_2.length c0_2] 24 (0, 0)) (by (with_reducible repeat (first | refine blk_drewN ?_ _ | refine blk_drew ?_ | refine blk_alloc ?_ _)); exact BK253.out) hb)
                        have n10_ := Aside0.mk (blk_below (g := gb264) (o := .cells #[.int .i64 t255, .int .i64 t256, .slice Ao23 t257.length co23] 24 (0, 0)) (by (with_reducible repeat (first | refine blk_drewN ?_ _ | refine blk_drew ?_ | refine blk_alloc ?_ _)); exact BK264.out) hb)
                        have n11_ := Aside0.mk (blk_below (g := gb279) (o := .cells #[.int .i64 t270, .int .i64 t271, .slice Ao33 t272.length co33] 29 (0, 0)) (by (with_reducible repeat (first | refine blk_drewN ?_ _ | refine blk_drew ?_ | refine blk_alloc ?_ _)); exact BK279.out) hb)
                        have n12_ := Aside0.mk (blk_below (g := gb286) (o := .cells #[.int .i64 t280, .int .i64 t281, .slice Ao42 t282.length co42] 24 (0, 0)) (by (with_reducible repeat (first | refine blk_drewN ?_ _ | refine blk_drew ?_ | refine blk_alloc ?_ _)); exact BK286.out) hb)
                        have n13_ := Aside0.mk (blk_below (g := gb298) (o := .cells #[.int .i64 t292, .int .i64 t293, .slice Ao54 t294.length co54] 29 (0, 0)) (by (with_reducible repeat (first | refine blk_drewN ?_ _ | refine blk_drew ?_ | refine blk_alloc ?_ _)); exact BK298.out) hb)
                        have n14_ := Aside0.mk (blk_below (g := gb305) (o := .cells #[.int .i64 t299, .int .i64 t300, .slice Ao63 t301.length co63] 24 (0, 0)) (by (with_reducible repeat (first | refine blk_drewN ?_ _ | refine blk_drew ?_ | refine blk_alloc ?_ _)); exact BK305.out) hb)
                        have n15_ := Aside0.mk (below_step (by repeat (first | (with_reducible first | exact HB.out | apply below_alloc | apply pw_below_drewN | apply below_drew1 | refine below_set ?_ GE253.out | refine below_set ?_ GE264.out | refine below_set ?_ GE279.out | refine below_set ?_ GE286.out | refine below_set ?_ GE298.out | refine below_set ?_ GE305.out) | exact HB.out)) hb)
                        clear HO_6
                        clear HO_9
                        clear HO_265002
                        clear HO_280002
                        clear HO_287002
                        clear HO_299002
                        clear HO_306002
                        clear HO312
                        clear HO318
                        clear BK253
                        clear BK264
                        clear BK279
                        clear BK286
                        clear BK298
                        clear BK305
                        clear HB
                        have HO_6 := n0_
                        have HO_9 := n1_
                        have HO_265002 := n2_
                        have HO_280002 := n3_
                        have HO_287002 := n4_
                        have HO_299002 := n5_
                        have HO_306002 := n6_
                        have HO312 := n7_
                        have HO318 := n8_
                        have BK253 := n9_
                        have BK264 := n10_
                        have BK279 := n11_
                        have BK286 := n12_
                        have BK298 := n13_
                        have BK305 := n14_
                        have HB := n15_
                        clear n0_ n1_ n2_ n3_ n4_ n5_ n6_ n7_ n8_ n9_ n10_ n11_ n12_ n13_ n14_ n15_
                        (try clear hb)
                        (try clear hb2)
                        (try clear hk)
                        (try clear hi)
                        obtain ⟨Ao104, co104, eo104⟩ := Kd.R_slice HO_6.out
                        (first | subst eo104 | (injection eo104 with f1_ f2_ f3_; have f4_ := f1_.symm; have f5_ := f3_.symm; clear f1_ f2_ f3_; subst f4_; subst f5_))
                        obtain ⟨Ao105, co105, eo105⟩ := Kd.R_slice HO_9.out
                        (first | subst eo105 | (injection eo105 with f1_ f2_ f3_; have f4_ := f1_.symm; have f5_ := f3_.symm; clear f1_ f2_ f3_; subst f4_; subst f5_))
                        refine hK.out _ _ ⟨(blk_cell BK253.out 0).trans rfl, (blk_cell BK253.out 1).trans rfl, (blk_cell BK253.out 2).trans rfl, (blk_cell BK264.out 0).trans rfl, (blk_cell BK264.out 1).trans rfl, (blk_cell BK264.out 2).trans rfl, (blk_cell BK279.out 0).trans rfl, (blk_cell BK279.out 1).trans rfl, (blk_cell BK279.out 2).trans rfl, (blk_cell BK286.out 0).trans rfl, (blk_cell BK286.out 1).trans rfl, (blk_cell BK286.out 2).trans rfl, (blk_cell BK298.out 0).trans rfl, (blk_cell BK298.out 1).trans rfl, (blk_cell BK298.out 2).trans rfl⟩ (fun hHeld => ?_)
                        clear hK K
                        refine norm_ (a' := ?_) ?_ ?_
                        rotate_left
                        · show Act.put _ (some 100) _ = _
                          simp only [Act.put, List.setIfInBounds_toArray, List.set_cons_zero, List.set_cons_succ, i64_w, i32_w]
                          rfl
                        refine pure_ (i := 11) (N := some 101) (v := ?_) (a' := ?_) #[true, true, true, true, true, true, true, true, true, true, true, true, false, false, false, false, false, false, false, false, false, false, false, false, false, false, false, false, false, false, false, false, false, false, false, false, false, false, false, false, false, false, false, false, false, false, false] rfl rfl (any_of HT_.out (by kernel_rfl)) (fun _ _ _ h => h) (Or.inl ⟨by rfl, ?_⟩) ?_ ?_
                        rotate_left
                        · intro w'
                          go_simp
                          with_reducible rfl
                        rotate_left
                        · simp only [Act.put, List.setIfInBounds_toArray, List.set_cons_zero, List.set_cons_succ, i64_w, i32_w]
                          rfl
                        refine pure_ (i := 12) (N := some 102) (v := ?_) (a' := ?_) #[true, true, true, true, true, true, true, true, true, true, true, true, true, false, false, false, false, false, false, false, false, false, false, false, false, false, false, false, false, false, false, false, false, false, false, false, false, false, false, false, false, false, false, false, false, false, false] rfl rfl (any_of HT_.out (by kernel_rfl)) (fun _ _ _ h => h) (Or.inl ⟨by rfl, ?_⟩) ?_ ?_
                        rotate_left
                        · intro w'
                          go_simp
                          with_reducible rfl
                        rotate_left
                        · simp only [Act.put, List.setIfInBounds_toArray, List.set_cons_zero, List.set_cons_succ, i64_w, i32_w]
                          rfl
                        refine pure_ (i := 13) (N := some 103) (v := ?_) (a' := ?_) #[true, true, true, true, true, true, true, true, true, true, true, true, true, true, false, false, false, false, false, false, false, false, false, false, false, false, false, false, false, false, false, false, false, false, false, false, false, false, false, false, false, false, false, false, false, false, false] rfl rfl (any_of HT_.out (by kernel_rfl)) (fun _ _ _ h => h) (Or.inl ⟨by rfl, ?_⟩) ?_ ?_
                        rotate_left
                        · intro w'
                          go_simp
                          with_reducible rfl
                        rotate_left
                        · simp only [Act.put, List.setIfInBounds_toArray, List.set_cons_zero, List.set_cons_succ, i64_w, i32_w]
                          rfl
                        refine pure_ (i := 14) (N := some 104) (v := ?_) (a' := ?_) #[true, true, true, true, true, true, true, true, true, true, true, true, true, true, true, false, false, false, false, false, false, false, false, false, false, false, false, false, false, false, false, false, false, false, false, false, false, false, false, false, false, false, false, false, false, false, false] rfl rfl (any_of HT_.out (by kernel_rfl)) (fun _ _ _ h => h) (Or.inl ⟨by rfl, ?_⟩) ?_ ?_
                        rotate_left
                        · intro w'
                          go_simp
                          with_reducible rfl
                        rotate_left
                        · simp only [Act.put, List.setIfInBounds_toArray, List.set_cons_zero, List.set_cons_succ, i64_w, i32_w]
                          rfl
                        refine one_ (i := 15) (N := some 105) #[true, true, true, true, true, true, true, true, true, true, true, true, true, true, true, true, false, false, false, false, false, false, false, false, false, false, false, false, false, false, false, false, false, false, false, false, false, false, false, false, false, false, false, false, false, false, false] rfl rfl (one_of HT_.out (by kernel_rfl)) (by decide) (fun K hK => ?_)
                        refine goes_ Try.func19 (by kernel_rfl) rfl #[.slice Ao104 t260.length co104, .slice Ao105 t275.length co105] (by rfl) rfl rfl (by (try simp only [List.map_toArray, List.map_cons, List.map_nil]); first | done | rfl | (simp only [List.length_drop, List.length_take]; rfl)) ?_
                        with_reducible refine (handshakerref03_Numbers.calls kj15 _ _ t260 _ _ t275 true _ ?side1 ?side2 ?side3 ?side4 A84.out).mono ?_
                        (case side1 => repeat (first | exact (Kd.R_reads' HO_6.out).2.2 | (with_reducible refine Kd.C_alloc ?_ _) | (with_reducible refine Kd.C_drewN ?_ _) | (with_reducible refine Kd.C_drew ?_)))
                        (case side2 => exact (Kd.R_reads' HO_6.out).2.1)
                        (case side3 => repeat (first | exact (Kd.R_reads' HO_9.out).2.2 | (with_reducible refine Kd.C_alloc ?_ _) | (with_reducible refine Kd.C_drewN ?_ _) | (with_reducible refine Kd.C_drew ?_)))
                        (case side4 => exact (Kd.R_reads' HO_9.out).2.1)
                        rintro e w' ⟨rfl, ⟨nd, rfl⟩⟩
                        refine ⟨_, rfl, ?_⟩
                        refine hK.out _ _ ⟨(blk_cell BK253.out 0).trans rfl, (blk_cell BK253.out 1).trans rfl, (blk_cell BK253.out 2).trans rfl, (blk_cell BK264.out 0).trans rfl, (blk_cell BK264.out 1).trans rfl, (blk_cell BK264.out 2).trans rfl, (blk_cell BK279.out 0).trans rfl, (blk_cell BK279.out 1).trans rfl, (blk_cell BK279.out 2).trans rfl, (blk_cell BK286.out 0).trans rfl, (blk_cell BK286.out 1).trans rfl, (blk_cell BK286.out 2).trans rfl, (blk_cell BK298.out 0).trans rfl, (blk_cell BK298.out 1).trans rfl, (blk_cell BK298.out 2).trans rfl⟩ (fun hHeld => ?_)
                        clear hK K
                        refine norm_ (a' := ?_) ?_ ?_
                        rotate_left
                        · show Act.put _ (some 105) _ = _
                          simp only [Act.put, List.setIfInBounds_toArray, List.set_cons_zero, List.set_cons_succ, i64_w, i32_w]
                          rfl
                        refine pure_ (i := 16) (N := some 106) (v := ?_) (a' := ?_) #[true, true, true, true, true, true, true, true, true, true, true, true, true, true, true, true, true, false, false, false, false, false, false, false, false, false, false, false, false, false, false, false, false, false, false, false, false, false, false, false, false, false, false, false, false, false, false] rfl rfl (any_of HT_.out (by kernel_rfl)) (fun _ _ _ h => h) (Or.inl ⟨by rfl, ?_⟩) ?_ ?_
                        rotate_left
                        · intro w'
                          go_simp
                          with_reducible rfl
                        rotate_left
                        · simp only [Act.put, List.setIfInBounds_toArray, List.set_cons_zero, List.set_cons_succ, i64_w, i32_w]
                          rfl
                        refine pure_ (i := 17) (N := some 107) (v := ?_) (a' := ?_) #[true, true, true, true, true, true, true, true, true, true, true, true, true, true, true, true, true, true, false, false, false, false, false, false, false, false, false, false, false, false, false, false, false, false, false, false, false, false, false, false, false, false, false, false, false, false, false] rfl rfl (any_of HT_.out (by kernel_rfl)) (fun _ _ _ h => h) (Or.inl ⟨by rfl, ?_⟩) ?_ ?_
                        rotate_left
                        · intro w'
                          go_simp
                          with_reducible rfl
                        rotate_left
                        · simp only [Act.put, List.setIfInBounds_toArray, List.set_cons_zero, List.set_cons_succ, i64_w, i32_w]
                          rfl
                        refine pure_ (i := 18) (N := some 108) (v := ?_) (a' := ?_) #[true, true, true, true, true, true, true, true, true, true, true, true, true, true, true, true, true, true, true, false, false, false, false, false, false, false, false, false, false, false, false, false, false, false, false, false, false, false, false, false, false, false, false, false, false, false, false] rfl rfl (any_of HT_.out (by kernel_rfl)) (fun _ _ _ h => h) (Or.inl ⟨by rfl, ?_⟩) ?_ ?_
                        rotate_left
                        · intro w'
                          go_simp
                          with_reducible rfl
                        rotate_left
                        · simp only [Act.put, List.setIfInBounds_toArray, List.set_cons_zero, List.set_cons_succ, i64_w, i32_w]
                          rfl
                        refine pure_ (i := 19) (N := some 109) (v := ?_) (a' := ?_) #[true, true, true, true, true, true, true, true, true, true, true, true, true, true, true, true, true, true, true, true, false, false, false, false, false, false, false, false, false, false, false, false, false, false, false, false, false, false, false, false, false, false, false, false, false, false, false] rfl rfl (any_of HT_.out (by kernel_rfl)) (fun _ _ _ h => h) (Or.inl ⟨by rfl, ?_⟩) ?_ ?_
                        rotate_left
                        · intro w'
                          go_simp
                          with_reducible rfl
                        rotate_left
                        · simp only [Act.put, List.setIfInBounds_toArray, List.set_cons_zero, List.set_cons_succ, i64_w, i32_w]
                          rfl
                        refine pure_ (i := 20) (N := some 110) (v := ?_) (a' := ?_) #[true, true, true, true, true, true, true, true, true, true, true, true, true, true, true, true, true, true, true, true, true, false, false, false, false, false, false, false, false, false, false, false, false, false, false, false, false, false, false, false, false, false, false, false, false, false, false] rfl rfl (any_of HT_.out (by kernel_rfl)) (fun _ _ _ h => h) (Or.inl ⟨by rfl, ?_⟩) ?_ ?_
                        rotate_left
                        · intro w'
                          go_simp
                          with_reducible rfl
                        rotate_left
                        · simp only [Act.put, List.setIfInBounds_toArray, List.set_cons_zero, List.set_cons_succ, i64_w, i32_w]
                          rfl
                        refine pure_ (i := 21) (N := some 111) (v := ?_) (a' := ?_) #[true, true, true, true, true, true, true, true, true, true, true, true, true, true, true, true, true, true, true, true, true, true, false, false, false, false, false, false, false, false, false, false, false, false, false, false, false, false, false, false, false, false, false, false, false, false, false] rfl rfl (any_of HT_.out (by kernel_rfl)) (fun _ _ _ h => h) (Or.inl ⟨by rfl, ?_⟩) ?_ ?_
                        rotate_left
                        · intro w'
                          go_simp
                          with_reducible rfl
                        rotate_left
                        · simp only [Act.put, List.setIfInBounds_toArray, List.set_cons_zero, List.set_cons_succ, i64_w, i32_w]
                          rfl
                        refine pure_ (i := 22) (N := some 112) (v := ?_) (a' := ?_) #[true, true, true, true, true, true, true, true, true, true, true, true, true, true, true, true, true, true, true, true, true, true, true, false, false, false, false, false, false, false, false, false, false, false, false, false, false, false, false, false, false, false, false, false, false, false, false] rfl rfl (any_of HT_.out (by kernel_rfl)) (fun _ _ _ h => h) (Or.inl ⟨by rfl, ?_⟩) ?_ ?_
                        rotate_left
                        · intro w'
                          go_simp
                          with_reducible rfl
                        rotate_left
                        · simp only [Act.put, List.setIfInBounds_toArray, List.set_cons_zero, List.set_cons_succ, i64_w, i32_w]
                          rfl
                        refine take_ (i := 23) (N := some 113) (v := ?_) (a' := ?_) #[true, true, true, true, true, true, true, true, true, true, true, true, true, true, true, true, true, true, true, true, true, true, true, true, false, false, false, false, false, false, false, false, false, false, false, false, false, false, false, false, false, false, false, false, false, false, false] rfl rfl (take_ofW HT_.out HW_.out (by kernel_rfl)) (fun _ _ _ h => h) (Or.inl ⟨by rfl, ?_⟩) hHeld ?_ ?_
                        rotate_left
                        · rintro w' ⟨s0, s1, s2, s3, s4, s5, s6, s7, s8, s9, s10, s11, s12, s13, s14⟩
                          go_simp
                          with_reducible rfl
                        rotate_left
                        · simp only [Act.put, List.setIfInBounds_toArray, List.set_cons_zero, List.set_cons_succ, i64_w, i32_w]
                          rfl
                        refine take_ (i := 25) (N := some 115) (v := ?_) (a' := ?_) #[true, true, true, true, true, true, true, true, true, true, true, true, true, true, true, true, true, true, true, true, true, true, true, true, false, true, false, false, false, false, false, false, false, false, false, false, false, false, false, false, false, false, false, false, false, false, false] rfl rfl (take_ofW HT_.out HW_.out (by kernel_rfl)) (fun _ _ _ h => h) (Or.inl ⟨by rfl, ?_⟩) hHeld ?_ ?_
                        rotate_left
                        · rintro w' ⟨s0, s1, s2, s3, s4, s5, s6, s7, s8, s9, s10, s11, s12, s13, s14⟩
                          go_simp
                          with_reducible rfl
                        rotate_left
                        · simp only [Act.put, List.setIfInBounds_toArray, List.set_cons_zero, List.set_cons_succ, i64_w, i32_w]
                          rfl
                        refine one_ (i := 24) (N := some 114) #[true, true, true, true, true, true, true, true, true, true, true, true, true, true, true, true, true, true, true, true, true, true, true, true, true, true, false, false, false, false, false, false, false, false, false, false, false, false, false, false, false, false, false, false, false, false, false] rfl rfl (one_of HT_.out (by kernel_rfl)) (by decide) (fun K hK => ?_)
                        refine goes_ Try.func11 (by kernel_rfl) rfl #[.agg #[.int .i64 t280, .int .i64 t281, .slice Ao42 t282.length co42]] (by rfl) rfl rfl (by (try simp only [List.map_toArray, List.map_cons, List.map_nil]); first | done | rfl | (simp only [List.length_drop, List.length_take]; rfl)) ?_
                        with_reducible refine (handshakerlaw19_ref.calls t280 t281 (fun k_ => (some k_ ≠ (.slice Ao104 t260.length co104 : Value).ownBlock ∧ (some k_ ≠ (.slice Ao105 t275.length co105 : Value).ownBlock ∧ (some k_ ≠ (.slice Ao63 t301.length co63 : Value).ownBlock ∧ (k_ ≠ gb253 ∧ (k_ ≠ gb264 ∧ (k_ ≠ gb279 ∧ (k_ ≠ gb286 ∧ (k_ ≠ gb298 ∧ k_ ≠ gb305))))))))) _ _ t282 t321 t322 t323 _ ?side1 A87.out).mono ?_
                        (case side1 => exact HO_287002.out)
                        rintro e w106 ⟨v324, rfl, ho0, hb⟩
                        refine ⟨_, rfl, ?_⟩
                        have n0_ := Aside0.mk (Kd.R_below (by (with_reducible repeat (first | apply Kd.R_alloc | apply Kd.R_drewN | apply Kd.R_drew)); exact HO_6.out) hb)
                        have n1_ := Aside0.mk (Kd.R_below (by (with_reducible repeat (first | apply Kd.R_alloc | apply Kd.R_drewN | apply Kd.R_drew)); exact HO_9.out) hb)
                        have n2_ := Aside0.mk (Kd.V_below (by (with_reducible repeat (first | apply Kd.V_alloc | apply Kd.V_drewN | apply Kd.V_drew)); exact HO_265002.out) hb)
                        have n3_ := Aside0.mk (Kd.V_below (by (with_reducible repeat (first | apply Kd.V_alloc | apply Kd.V_drewN | apply Kd.V_drew)); exact HO_280002.out) hb)
                        have n4_ := Aside0.mk (Kd.V_below (by (with_reducible repeat (first | apply Kd.V_alloc | apply Kd.V_drewN | apply Kd.V_drew)); exact HO_287002.out) hb)
                        have n5_ := Aside0.mk (Kd.V_below (by (with_reducible repeat (first | apply Kd.V_alloc | apply Kd.V_drewN | apply Kd.V_drew)); exact HO_299002.out) hb)
                        have n6_ := Aside0.mk (Kd.R_below (by (with_reducible repeat (first | apply Kd.R_alloc | apply Kd.R_drewN | apply Kd.R_drew)); exact HO_306002.out) hb)
                        have n7_ := Aside0.mk (Kd.V_below (by (with_reducible repeat (first | apply Kd.V_alloc | apply Kd.V_drewN | apply Kd.V_drew)); exact HO312.out) hb)
                        have n8_ := Aside0.mk (Kd.V_below (by (with_reducible repeat (first | apply Kd.V_alloc | apply Kd.V_drewN | apply Kd.V_drew)); exact HO318.out) hb)
                        have n9_ := Aside0.mk (Kd.V_lower (Kd.V_mono (ok' := fun k_ => some k_ ≠ (.slice Ao104 t260.length co104 : Value).ownBlock ∧ some k_ ≠ (.slice Ao105 t275.length co105 : Value).ownBlock ∧ some k_ ≠ (.slice Ao63 t301.length co63 : Value).ownBlock ∧ k_ ≠ gb253 ∧ k_ ≠ gb264 ∧ k_ ≠ gb279 ∧ k_ ≠ gb286 ∧ k_ ≠ gb298 ∧ k_ ≠ gb305) ho0 (fun k_ hk_ => ⟨Or.elim hk_ (fun hs_ => hs_.1) (fun hn_ => (Kd.fresh' (Kd.R_lt (by (with_reducible repeat (first | apply Kd.R_alloc | apply Kd.R_drewN | apply Kd.R_drew)); exact HO_6.out)) k_ hn_)), Or.elim hk_ (fun hs_ => hs_.2.1) (fun hn_ => (Kd.fresh' (Kd.R_lt (by (with_reducible repeat (first | apply Kd.R_alloc | apply Kd.R_drewN | apply Kd.R_drew)); exact HO_9.out)) k_ hn_)), Or.elim hk_ (fun hs_ => hs_.2.2.1) (fun hn_ => (Kd.fresh' (Kd.R_lt (by (with_reducible repeat (first | apply Kd.R_alloc | apply Kd.R_drewN | apply Kd.R_drew)); exact HO_306002.out)) k_ hn_)), Or.elim hk_ (fun hs_ => hs_.2.2.2.1) (fun hn_ => (Kd.freshB (g := gb253) (o := .cells #[.int .i64 a0_0, .int .i64 a0_1, .slice A0_2 l0_2.length c0_2] 24 (0, 0)) (by (with_reducible repeat (first | refine blk_drewN ?_ _ | refine blk_drew ?_ | refine blk_alloc ?_ _)); exact BK253.out) k_ hn_)), Or.elim hk_ (fun hs_ => hs_.2.2.2.2.1) (fun hn_ => (Kd.freshB (g := gb264) (o := .cells #[.int .i64 t255, .int .i64 t256, .slice Ao23 t257.length co23] 24 (0, 0)) (by (with_reducible repeat (first | refine blk_drewN ?_ _ | refine blk_drew ?_ | refine blk_alloc ?_ _)); exact BK264.out) k_ hn_)), Or.elim hk_ (fun hs_ => hs_.2.2.2.2.2.1) (fun hn_ => (Kd.freshB (g := gb279) (o := .cells #[.int .i64 t270, .int .i64 t271, .slice Ao33 t272.length co33] 29 (0, 0)) (by (with_reducible repeat (first | refine blk_drewN ?_ _ | refine blk_drew ?_ | refine blk_alloc ?_ _)); exact BK279.out) k_ hn_)), Or.elim hk_ (fun hs_ => hs_.2.2.2.2.2.2.1) (fun hn_ => (Kd.freshB (g := gb286) (o := .cells #[.int .i64 t280, .int .i64 t281, .slice Ao42 t282.length co42] 24 (0, 0)) (by (with_reducible repeat (first | refine blk_drewN ?_ _ | refine blk_drew ?_ | refine blk_alloc ?_ _)); exact BK286.out) k_ hn_)), Or.elim hk_ (fun hs_ => hs_.2.2.2.2.2.2.2.1) (fun hn_ => (Kd.freshB (g := gb298) (o := .cells #[.int .i64 t292, .int .i64 t293, .slice Ao54 t294.length co54] 29 (0, 0)) (by (with_reducible repeat (first | refine blk_drewN ?_ _ | refine blk_drew ?_ | refine blk_alloc ?_ _)); exact BK298.out) k_ hn_)), Or.elim hk_ (fun hs_ => hs_.2.2.2.2.2.2.2.2) (fun hn_ => (Kd.freshB (g := gb305) (o := .cells #[.int .i64 t299, .int .i64 t300, .slice Ao63 t301.length co63] 24 (0, 0)) (by (with_reducible repeat (first | refine blk_drewN ?_ _ | refine blk_drew ?_ | refine blk_alloc ?_ _)); exact BK305.out) k_ hn_))⟩)) (below_size (by repeat (first | (with_reducible first | exact HB.out | apply below_alloc | apply pw_below_drewN | apply below_drew1 | refine below_set ?_ GE253.out | refine below_set ?_ GE264.out | refine below_set ?_ GE279.out | refine below_set ?_ GE286.out | refine below_set ?_ GE298.out | refine below_set ?_ GE305.out) | exact HB.out))))
                        have n10_ := Aside0.mk (blk_below (g := gb253) (o := .cells #[.int .i64 a0_0, .int .i64 a0_1, .slice A0_2 l0_2.length c0_2] 24 (0, 0)) (by (with_reducible repeat (first | refine blk_drewN ?_ _ | refine blk_drew ?_ | refine blk_alloc ?_ _)); exact BK253.out) hb)
                        have n11_ := Aside0.mk (blk_below (g := gb264) (o := .cells #[.int .i64 t255, .int .i64 t256, .slice Ao23 t257.length co23] 24 (0, 0)) (by (with_reducible repeat (first | refine blk_drewN ?_ _ | refine blk_drew ?_ | refine blk_alloc ?_ _)); exact BK264.out) hb)
                        have n12_ := Aside0.mk (blk_below (g := gb279) (o := .cells #[.int .i64 t270, .int .i64 t271, .slice Ao33 t272.length co33] 29 (0, 0)) (by (with_reducible repeat (first | refine blk_drewN ?_ _ | refine blk_drew ?_ | refine blk_alloc ?_ _)); exact BK279.out) hb)
                        have n13_ := Aside0.mk (blk_below (g := gb286) (o := .cells #[.int .i64 t280, .int .i64 t281, .slice Ao42 t282.length co42] 24 (0, 0)) (by (with_reducible repeat (first | refine blk_drewN ?_ _ | refine blk_drew ?_ | refine blk_alloc ?_ _)); exact BK286.out) hb)
                        have n14_ := Aside0.mk (blk_below (g := gb298) (o := .cells #[.int .i64 t292, .int .i64 t293, .slice Ao54 t294.length co54] 29 (0, 0)) (by (with_reducible repeat (first | refine blk_drewN ?_ _ | refine blk_drew ?_ | refine blk_alloc ?_ _)); exact BK298.out) hb)
                        have n15_ := Aside0.mk (blk_below (g := gb305) (o := .cells #[.int .i64 t299, .int .i64 t300, .slice Ao63 t301.length co63] 24 (0, 0)) (by (with_reducible repeat (first | refine blk_drewN ?_ _ | refine blk_drew ?_ | refine blk_alloc ?_ _)); exact BK305.out) hb)
                        have n16_ := Aside0.mk (below_step (by repeat (first | (with_reducible first | exact HB.out | apply below_alloc | apply pw_below_drewN | apply below_drew1 | refine below_set ?_ GE253.out | refine below_set ?_ GE264.out | refine below_set ?_ GE279.out | refine below_set ?_ GE286.out | refine below_set ?_ GE298.out | refine below_set ?_ GE305.out) | exact HB.out)) hb)
                        clear HO_6
                        clear HO_9
                        clear HO_265002
                        clear HO_280002
                        clear HO_287002
                        clear HO_299002
                        clear HO_306002
                        clear HO312
                        clear HO318
                        clear BK253
                        clear BK264
                        clear BK279
                        clear BK286
                        clear BK298
                        clear BK305
                        clear HB
                        have HO_6 := n0_
                        have HO_9 := n1_
                        have HO_265002 := n2_
                        have HO_280002 := n3_
                        have HO_287002 := n4_
                        have HO_299002 := n5_
                        have HO_306002 := n6_
                        have HO312 := n7_
                        have HO318 := n8_
                        have HO325 := n9_
                        have BK253 := n10_
                        have BK264 := n11_
                        have BK279 := n12_
                        have BK286 := n13_
                        have BK298 := n14_
                        have BK305 := n15_
                        have HB := n16_
                        clear n0_ n1_ n2_ n3_ n4_ n5_ n6_ n7_ n8_ n9_ n10_ n11_ n12_ n13_ n14_ n15_ n16_
                        (try clear hb)
                        (try clear hb2)
                        (try clear hk)
                        (try clear hi)
                        (try clear ho0)
                        obtain ⟨Ao107, co107, eo107⟩ := Kd.V_slice HO325.out
                        (first | subst eo107 | (injection eo107 with f1_ f2_ f3_; have f4_ := f1_.symm; have f5_ := f3_.symm; clear f1_ f2_ f3_; subst f4_; subst f5_))
                        refine hK.out _ _ ⟨(blk_cell BK253.out 0).trans rfl, (blk_cell BK253.out 1).trans rfl, (blk_cell BK253.out 2).trans rfl, (blk_cell BK264.out 0).trans rfl, (blk_cell BK264.out 1).trans rfl, (blk_cell BK264.out 2).trans rfl, (blk_cell BK279.out 0).trans rfl, (blk_cell BK279.out 1).trans rfl, (blk_cell BK279.out 2).trans rfl, (blk_cell BK286.out 0).trans rfl, (blk_cell BK286.out 1).trans rfl, (blk_cell BK286.out 2).trans rfl, (blk_cell BK298.out 0).trans rfl, (blk_cell BK298.out 1).trans rfl, (blk_cell BK298.out 2).trans rfl⟩ (fun hHeld => ?_)
                        clear hK K
                        refine norm_ (a' := ?_) ?_ ?_
                        rotate_left
                        · show Act.put _ (some 114) _ = _
                          simp only [Act.put, List.setIfInBounds_toArray, List.set_cons_zero, List.set_cons_succ, i64_w, i32_w]
                          rfl
                        refine one_ (i := 26) (N := some 116) #[true, true, true, true, true, true, true, true, true, true, true, true, true, true, true, true, true, true, true, true, true, true, true, true, true, true, true, false, false, false, false, false, false, false, false, false, false, false, false, false, false, false, false, false, false, false, false] rfl rfl (one_of HT_.out (by kernel_rfl)) (by decide) (fun K hK => ?_)
                        refine goes_ Try.func18 (by kernel_rfl) rfl #[.agg #[.int .i64 t321, .int .i64 t322, .slice Ao107 t323.length co107], .agg #[.int .i64 t292, .int .i64 t293, .slice Ao54 t294.length co54]] (by rfl) rfl rfl (by (try simp only [List.map_toArray, List.map_cons, List.map_nil]); first | done | rfl | (simp only [List.length_drop, List.length_take]; rfl)) ?_
                        with_reducible refine (handshakerref19_Same.calls kj15 t321 t322 _ _ t323 t292 t293 _ _ t294 true _ ?side1 ?side2 ?side3 ?side4 A88.out).mono ?_
                        (case side1 => repeat (first | exact (Kd.V_reads' HO325.out).2.2 | (with_reducible refine Kd.C_alloc ?_ _) | (with_reducible refine Kd.C_drewN ?_ _) | (with_reducible refine Kd.C_drew ?_)))
                        (case side2 => exact (Kd.V_reads' HO325.out).2.1)
                        (case side3 => repeat (first | exact (Kd.V_reads' HO_299002.out).2.2 | (with_reducible refine Kd.C_alloc ?_ _) | (with_reducible refine Kd.C_drewN ?_ _) | (with_reducible refine Kd.C_drew ?_)))
                        (case side4 => exact (Kd.V_reads' HO_299002.out).2.1)
                        rintro e w108 ⟨rfl, hb⟩
                        refine ⟨_, rfl, ?_⟩
                        have n0_ := Aside0.mk (Kd.R_below (by (with_reducible repeat (first | apply Kd.R_alloc | apply Kd.R_drewN | apply Kd.R_drew)); exact HO_6.out) hb)
                        have n1_ := Aside0.mk (Kd.R_below (by (with_reducible repeat (first | apply Kd.R_alloc | apply Kd.R_drewN | apply Kd.R_drew)); exact HO_9.out) hb)
                        have n2_ := Aside0.mk (Kd.V_below (by (with_reducible repeat (first | apply Kd.V_alloc | apply Kd.V_drewN | apply Kd.V_drew)); exact HO_265002.out) hb)
                        have n3_ := Aside0.mk (Kd.V_below (by (with_reducible repeat (first | apply Kd.V_alloc | apply Kd.V_drewN | apply Kd.V_drew)); exact HO_280002.out) hb)
                        have n4_ := Aside0.mk (Kd.V_below (by (with_reducible repeat (first | apply Kd.V_alloc | apply Kd.V_drewN | apply Kd.V_drew)); exact HO_287002.out) hb)
                        have n5_ := Aside0.mk (Kd.V_below (by (with_reducible repeat (first | apply Kd.V_alloc | apply Kd.V_drewN | apply Kd.V_drew)); exact HO_299002.out) hb)
                        have n6_ := Aside0.mk (Kd.R_below (by (with_reducible repeat (first | apply Kd.R_alloc | apply Kd.R_drewN | apply Kd.R_drew)); exact HO_306002.out) hb)
                        have n7_ := Aside0.mk (Kd.V_below (by (with_reducible repeat (first | apply Kd.V_alloc | apply Kd.V_drewN | apply Kd.V_drew)); exact HO312.out) hb)
                        have n8_ := Aside0.mk (Kd.V_below (by (with_reducible repeat (first | apply Kd.V_alloc | apply Kd.V_drewN | apply Kd.V_drew)); exact HO318.out) hb)
                        have n9_ := Aside0.mk (Kd.V_below (by (with_reducible repeat (first | apply Kd.V_alloc | apply Kd.V_drewN | apply Kd.V_drew)); exact HO325.out) hb)
                        have n10_ := Aside0.mk (blk_below (g := gb253) (o := .cells #[.int .i64 a0_0, .int .i64 a0_1, .slice A0_2 l0_2.length c0_2] 24 (0, 0)) (by (with_reducible repeat (first | refine blk_drewN ?_ _ | refine blk_drew ?_ | refine blk_alloc ?_ _)); exact BK253.out) hb)
                        have n11_ := Aside0.mk (blk_below (g := gb264) (o := .cells #[.int .i64 t255, .int .i64 t256, .slice Ao23 t257.length co23] 24 (0, 0)) (by (with_reducible repeat (first | refine blk_drewN ?_ _ | refine blk_drew ?_ | refine blk_alloc ?_ _)); exact BK264.out) hb)
                        have n12_ := Aside0.mk (blk_below (g := gb279) (o := .cells #[.int .i64 t270, .int .i64 t271, .slice Ao33 t272.length co33] 29 (0, 0)) (by (with_reducible repeat (first | refine blk_drewN ?_ _ | refine blk_drew ?_ | refine blk_alloc ?_ _)); exact BK279.out) hb)
                        have n13_ := Aside0.mk (blk_below (g := gb286) (o := .cells #[.int .i64 t280, .int .i64 t281, .slice Ao42 t282.length co42] 24 (0, 0)) (by (with_reducible repeat (first | refine blk_drewN ?_ _ | refine blk_drew ?_ | refine blk_alloc ?_ _)); exact BK286.out) hb)
                        have n14_ := Aside0.mk (blk_below (g := gb298) (o := .cells #[.int .i64 t292, .int .i64 t293, .slice Ao54 t294.length co54] 29 (0, 0)) (by (with_reducible repeat (first | refine blk_drewN ?_ _ | refine blk_drew ?_ | refine blk_alloc ?_ _)); exact BK298.out) hb)
                        have n15_ := Aside0.mk (blk_below (g := gb305) (o := .cells #[.int .i64 t299, .int .i64 t300, .slice Ao63 t301.length co63] 24 (0, 0)) (by (with_reducible repeat (first | refine blk_drewN ?_ _ | refine blk_drew ?_ | refine blk_alloc ?_ _)); exact BK305.out) hb)
                        have n16_ := Aside0.mk (below_step (by repeat (first | (with_reducible first | exact HB.out | apply below_alloc | apply pw_below_drewN | apply below_drew1 | refine below_set ?_ GE253.out | refine below_set ?_ GE264.out | refine below_set ?_ GE279.out | refine below_set ?_ GE286.out | refine below_set ?_ GE298.out | refine below_set ?_ GE305.out) | exact HB.out)) hb)
                        clear HO_6
                        clear HO_9
                        clear HO_265002
                        clear HO_280002
                        clear HO_287002
                        clear HO_299002
                        clear HO_306002
                        clear HO312
                        clear HO318
                        clear HO325
                        clear BK253
                        clear BK264
                        clear BK279
                        clear BK286
                        clear BK298
                        clear BK305
                        clear HB
                        have HO_6 := n0_
                        have HO_9 := n1_
                        have HO_265002 := n2_
                        have HO_280002 := n3_
                        have HO_287002 := n4_
                        have HO_299002 := n5_
                        have HO_306002 := n6_
                        have HO312 := n7_
                        have HO318 := n8_
                        have HO325 := n9_
                        have BK253 := n10_
                        have BK264 := n11_
                        have BK279 := n12_
                        have BK286 := n13_
                        have BK298 := n14_
                        have BK305 := n15_
                        have HB := n16_
                        clear n0_ n1_ n2_ n3_ n4_ n5_ n6_ n7_ n8_ n9_ n10_ n11_ n12_ n13_ n14_ n15_ n16_
                        (try clear hb)
                        (try clear hb2)
                        (try clear hk)
                        (try clear hi)
                        refine hK.out _ _ ⟨(blk_cell BK253.out 0).trans rfl, (blk_cell BK253.out 1).trans rfl, (blk_cell BK253.out 2).trans rfl, (blk_cell BK264.out 0).trans rfl, (blk_cell BK264.out 1).trans rfl, (blk_cell BK264.out 2).trans rfl, (blk_cell BK279.out 0).trans rfl, (blk_cell BK279.out 1).trans rfl, (blk_cell BK279.out 2).trans rfl, (blk_cell BK286.out 0).trans rfl, (blk_cell BK286.out 1).trans rfl, (blk_cell BK286.out 2).trans rfl, (blk_cell BK298.out 0).trans rfl, (blk_cell BK298.out 1).trans rfl, (blk_cell BK298.out 2).trans rfl⟩ (fun hHeld => ?_)
                        clear hK K
                        refine norm_ (a' := ?_) ?_ ?_
                        rotate_left
                        · show Act.put _ (some 116) _ = _
                          simp only [Act.put, List.setIfInBounds_toArray, List.set_cons_zero, List.set_cons_succ, i64_w, i32_w]
                          rfl
                        refine pure_ (i := 27) (N := some 117) (v := ?_) (a' := ?_) #[true, true, true, true, true, true, true, true, true, true, true, true, true, true, true, true, true, true, true, true, true, true, true, true, true, true, true, true, false, false, false, false, false, false, false, false, false, false, false, false, false, false, false, false, false, false, false] rfl rfl (any_of HT_.out (by kernel_rfl)) (fun _ _ _ h => h) (Or.inl ⟨by rfl, ?_⟩) ?_ ?_
                        rotate_left
                        · intro w'
                          go_simp
                          with_reducible rfl
                        rotate_left
                        · simp only [Act.put, List.setIfInBounds_toArray, List.set_cons_zero, List.set_cons_succ, i64_w, i32_w]
                          rfl
                        refine pure_ (i := 28) (N := some 118) (v := ?_) (a' := ?_) #[true, true, true, true, true, true, true, true, true, true, true, true, true, true, true, true, true, true, true, true, true, true, true, true, true, true, true, true, true, false, false, false, false, false, false, false, false, false, false, false, false, false, false, false, false, false, false] rfl rfl (any_of HT_.out (by kernel_rfl)) (fun _ _ _ h => h) (Or.inl ⟨by rfl, ?_⟩) ?_ ?_
                        rotate_left
                        · intro w'
                          go_simp
                          with_reducible rfl
                        rotate_left
                        · simp only [Act.put, List.setIfInBounds_toArray, List.set_cons_zero, List.set_cons_succ, i64_w, i32_w]
                          rfl
                        refine pure_ (i := 29) (N := some 119) (v := ?_) (a' := ?_) #[true, true, true, true, true, true, true, true, true, true, true, true, true, true, true, true, true, true, true, true, true, true, true, true, true, true, true, true, true, true, false, false, false, false, false, false, false, false, false, false, false, false, false, false, false, false, false] rfl rfl (any_of HT_.out (by kernel_rfl)) (fun _ _ _ h => h) (Or.inl ⟨by rfl, ?_⟩) ?_ ?_
                        rotate_left
                        · intro w'
                          go_simp
                          with_reducible rfl
                        rotate_left
                        · simp only [Act.put, List.setIfInBounds_toArray, List.set_cons_zero, List.set_cons_succ, i64_w, i32_w]
                          rfl
                        refine pure_ (i := 30) (N := some 120) (v := ?_) (a' := ?_) #[true, true, true, true, true, true, true, true, true, true, true, true, true, true, true, true, true, true, true, true, true, true, true, true, true, true, true, true, true, true, true, false, false, false, false, false, false, false, false, false, false, false, false, false, false, false, false] rfl rfl (any_of HT_.out (by kernel_rfl)) (fun _ _ _ h => h) (Or.inl ⟨by rfl, ?_⟩) ?_ ?_
                        rotate_left
                        · intro w'
                          go_simp
                          with_reducible rfl
                        rotate_left
                        · simp only [Act.put, List.setIfInBounds_toArray, List.set_cons_zero, List.set_cons_succ, i64_w, i32_w]
                          rfl
                        refine pure_ (i := 31) (N := some 121) (v := ?_) (a' := ?_) #[true, true, true, true, true, true, true, true, true, true, true, true, true, true, true, true, true, true, true, true, true, true, true, true, true, true, true, true, true, true, true, true, false, false, false, false, false, false, false, false, false, false, false, false, false, false, false] rfl rfl (any_of HT_.out (by kernel_rfl)) (fun _ _ _ h => h) (Or.inl ⟨by rfl, ?_⟩) ?_ ?_
                        rotate_left
                        · intro w'
                          go_simp
                          with_reducible rfl
                        rotate_left
                        · simp only [Act.put, List.setIfInBounds_toArray, List.set_cons_zero, List.set_cons_succ, i64_w, i32_w]
                          rfl
                        refine pure_ (i := 32) (N := some 122) (v := ?_) (a' := ?_) #[true, true, true, true, true, true, true, true, true, true, true, true, true, true, true, true, true, true, true, true, true, true, true, true, true, true, true, true, true, true, true, true, true, false, false, false, false, false, false, false, false, false, false, false, false, false, false] rfl rfl (any_of HT_.out (by kernel_rfl)) (fun _ _ _ h => h) (Or.inl ⟨by rfl, ?_⟩) ?_ ?_
                        rotate_left
                        · intro w'
                          go_simp
                          with_reducible rfl
                        rotate_left
                        · simp only [Act.put, List.setIfInBounds_toArray, List.set_cons_zero, List.set_cons_succ, i64_w, i32_w]
                          rfl
                        refine pure_ (i := 33) (N := some 123) (v := ?_) (a' := ?_) #[true, true, true, true, true, true, true, true, true, true, true, true, true, true, true, true, true, true, true, true, true, true, true, true, true, true, true, true, true, true, true, true, true, true, false, false, false, false, false, false, false, false, false, false, false, false, false] rfl rfl (any_of HT_.out (by kernel_rfl)) (fun _ _ _ h => h) (Or.inl ⟨by rfl, ?_⟩) ?_ ?_
                        rotate_left
                        · intro w'
                          go_simp
                          with_reducible rfl
                        rotate_left
                        · simp only [Act.put, List.setIfInBounds_toArray, List.set_cons_zero, List.set_cons_succ, i64_w, i32_w]
                          rfl
                        refine pure_ (i := 35) (N := some 125) (v := ?_) (a' := ?_) #[true, true, true, true, true, true, true, true, true, true, true, true, true, true, true, true, true, true, true, true, true, true, true, true, true, true, true, true, true, true, true, true, true, true, false, true, false, false, false, false, false, false, false, false, false, false, false] rfl rfl (any_of HT_.out (by kernel_rfl)) (fun _ _ _ h => h) (Or.inl ⟨by rfl, ?_⟩) ?_ ?_
                        rotate_left
                        · intro w'
                          go_simp
                          with_reducible rfl
                        rotate_left
                        · simp only [Act.put, List.setIfInBounds_toArray, List.set_cons_zero, List.set_cons_succ, i64_w, i32_w]
                          rfl
                        refine pure_ (i := 39) (N := some 129) (v := ?_) (a' := ?_) #[true, true, true, true, true, true, true, true, true, true, true, true, true, true, true, true, true, true, true, true, true, true, true, true, true, true, true, true, true, true, true, true, true, true, false, true, false, false, false, true, false, false, false, false, false, false, false] rfl rfl (any_of HT_.out (by kernel_rfl)) (fun _ _ _ h => h) (Or.inl ⟨by rfl, ?_⟩) ?_ ?_
                        rotate_left
                        · intro w'
                          go_simp
                          with_reducible rfl
                        rotate_left
                        · simp only [Act.put, List.setIfInBounds_toArray, List.set_cons_zero, List.set_cons_succ, i64_w, i32_w]
                          rfl
                        refine take_ (i := 34) (N := some 124) (v := ?_) (a' := ?_) #[true, true, true, true, true, true, true, true, true, true, true, true, true, true, true, true, true, true, true, true, true, true, true, true, true, true, true, true, true, true, true, true, true, true, true, true, false, false, false, true, false, false, false, false, false, false, false] rfl rfl (take_ofW HT_.out HW_.out (by kernel_rfl)) (fun _ _ _ h => h) (Or.inl ⟨by rfl, ?_⟩) hHeld ?_ ?_
                        rotate_left
                        · rintro w' ⟨s0, s1, s2, s3, s4, s5, s6, s7, s8, s9, s10, s11, s12, s13, s14⟩
                          go_simp
                          with_reducible rfl
                        rotate_left
                        · simp only [Act.put, List.setIfInBounds_toArray, List.set_cons_zero, List.set_cons_succ, i64_w, i32_w]
                          rfl
                        refine take_ (i := 37) (N := some 127) (v := ?_) (a' := ?_) #[true, true, true, true, true, true, true, true, true, true, true, true, true, true, true, true, true, true, true, true, true, true, true, true, true, true, true, true, true, true, true, true, true, true, true, true, false, true, false, true, false, false, false, false, false, false, false] rfl rfl (take_ofW HT_.out HW_.out (by kernel_rfl)) (fun _ _ _ h => h) (Or.inl ⟨by rfl, ?_⟩) hHeld ?_ ?_
                        rotate_left
                        · rintro w' ⟨s0, s1, s2, s3, s4, s5, s6, s7, s8, s9, s10, s11, s12, s13, s14⟩
                          go_simp
                          with_reducible rfl
                        rotate_left
                        · simp only [Act.put, List.setIfInBounds_toArray, List.set_cons_zero, List.set_cons_succ, i64_w, i32_w]
                          rfl
                        refine one_ (i := 36) (N := some 126) #[true, true, true, true, true, true, true, true, true, true, true, true, true, true, true, true, true, true, true, true, true, true, true, true, true, true, true, true, true, true, true, true, true, true, true, true, true, true, false, true, false, false, false, false, false, false, false] rfl rfl (one_of HT_.out (by kernel_rfl)) (by decide) (fun K hK => ?_)
                        refine goes_ Try.func20 (by kernel_rfl) rfl #[.agg #[.int .i64 a0_0, .int .i64 a0_1, .slice A0_2 l0_2.length c0_2], .int .i64 a1] (by rfl) rfl rfl (by (try simp only [List.map_toArray, List.map_cons, List.map_nil]); first | done | rfl | (simp only [List.length_drop, List.length_take]; rfl)) ?_
                        with_reducible refine (gate_Place.calls kj15 a0_0 a0_1 _ _ l0_2 a1 t327 _ ?side1 ?side2 A91.out).mono ?_
                        (case side1 => repeat (first | exact (Kd.C_below HR0_2.out HB.out) | (with_reducible refine Kd.C_alloc ?_ _) | (with_reducible refine Kd.C_drewN ?_ _) | (with_reducible refine Kd.C_drew ?_)))
                        (case side2 => exact HC0_2.out)
                        rintro e w109 ⟨rfl, hb⟩
                        refine ⟨_, rfl, ?_⟩
                        have n0_ := Aside0.mk (Kd.R_below (by (with_reducible repeat (first | apply Kd.R_alloc | apply Kd.R_drewN | apply Kd.R_drew)); exact HO_6.out) hb)
                        have n1_ := Aside0.mk (Kd.R_below (by (with_reducible repeat (first | apply Kd.R_alloc | apply Kd.R_drewN | apply Kd.R_drew)); exact HO_9.out) hb)
                        have n2_ := Aside0.mk (Kd.V_below (by (with_reducible repeat (first | apply Kd.V_alloc | apply Kd.V_drewN | apply Kd.V_drew)); exact HO_265002.out) hb)
                        have n3_ := Aside0.mk (Kd.V_below (by (with_reducible repeat (first | apply Kd.V_alloc | apply Kd.V_drewN | apply Kd.V_drew)); exact HO_280002.out) hb)
                        have n4_ := Aside0.mk (Kd.V_below (by (with_reducible repeat (first | apply Kd.V_alloc | apply Kd.V_drewN | apply Kd.V_drew)); exact HO_287002.out) hb)
                        have n5_ := Aside0.mk (Kd.V_below (by (with_reducible repeat (first | apply Kd.V_alloc | apply Kd.V_drewN | apply Kd.V_drew)); exact HO_299002.out) hb)
                        have n6_ := Aside0.mk (Kd.R_below (by (with_reducible repeat (first | apply Kd.R_alloc | apply Kd.R_drewN | apply Kd.R_drew)); exact HO_306002.out) hb)
                        have n7_ := Aside0.mk (Kd.V_below (by (with_reducible repeat (first | apply Kd.V_alloc | apply Kd.V_drewN | apply Kd.V_drew)); exact HO312.out) hb)
                        have n8_ := Aside0.mk (Kd.V_below (by (with_reducible repeat (first | apply Kd.V_alloc | apply Kd.V_drewN | apply Kd.V_drew)); exact HO318.out) hb)
                        have n9_ := Aside0.mk (Kd.V_below (by (with_reducible repeat (first | apply Kd.V_alloc | apply Kd.V_drewN | apply Kd.V_drew)); exact HO325.out) hb)
                        have n10_ := Aside0.mk (blk_below (g := gb253) (o := .cells #[.int .i64 a0_0, .int .i64 a0_1, .slice A0_2 l0_2.length c0_2] 24 (0, 0)) (by (with_reducible repeat (first | refine blk_drewN ?_ _ | refine blk_drew ?_ | refine blk_alloc ?_ _)); exact BK253.out) hb)
                        have n11_ := Aside0.mk (blk_below (g := gb264) (o := .cells #[.int .i64 t255, .int .i64 t256, .slice Ao23 t257.length co23] 24 (0, 0)) (by (with_reducible repeat (first | refine blk_drewN ?_ _ | refine blk_drew ?_ | refine blk_alloc ?_ _)); exact BK264.out) hb)
                        have n12_ := Aside0.mk (blk_below (g := gb279) (o := .cells #[.int .i64 t270, .int .i64 t271, .slice Ao33 t272.length co33] 29 (0, 0)) (by (with_reducible repeat (first | refine blk_drewN ?_ _ | refine blk_drew ?_ | refine blk_alloc ?_ _)); exact BK279.out) hb)
                        have n13_ := Aside0.mk (blk_below (g := gb286) (o := .cells #[.int .i64 t280, .int .i64 t281, .slice Ao42 t282.length co42] 24 (0, 0)) (by (with_reducible repeat (first | refine blk_drewN ?_ _ | refine blk_drew ?_ | refine blk_alloc ?_ _)); exact BK286.out) hb)
                        have n14_ := Aside0.mk (blk_below (g := gb298) (o := .cells #[.int .i64 t292, .int .i64 t293, .slice Ao54 t294.length co54] 29 (0, 0)) (by (with_reducible repeat (first | refine blk_drewN ?_ _ | refine blk_drew ?_ | refine blk_alloc ?_ _)); exact BK298.out) hb)
                        have n15_ := Aside0.mk (blk_below (g := gb305) (o := .cells #[.int .i64 t299, .int .i64 t300, .slice Ao63 t301.length co63] 24 (0, 0)) (by (with_reducible repeat (first | refine blk_drewN ?_ _ | refine blk_drew ?_ | refine blk_alloc ?_ _)); exact BK305.out) hb)
                        have n16_ := Aside0.mk (below_step (by repeat (first | (with_reducible first | exact HB.out | apply below_alloc | apply pw_below_drewN | apply below_drew1 | refine below_set ?_ GE253.out | refine below_set ?_ GE264.out | refine below_set ?_ GE279.out | refine below_set ?_ GE286.out | refine below_set ?_ GE298.out | refine below_set ?_ GE305.out) | exact HB.out)) hb)
                        clear HO_6
                        clear HO_9
                        clear HO_265002
                        clear HO_280002
                        clear HO_287002
                        clear HO_299002
                        clear HO_306002
                        clear HO312
                        clear HO318
                        clear HO325
                        clear BK253
                        clear BK264
                        clear BK279
                        clear BK286
                        clear BK298
                        clear BK305
                        clear HB
                        have HO_6 := n0_
                        have HO_9 := n1_
                        have HO_265002 := n2_
                        have HO_280002 := n3_
                        have HO_287002 := n4_
                        have HO_299002 := n5_
                        have HO_306002 := n6_
                        have HO312 := n7_
                        have HO318 := n8_
                        have HO325 := n9_
                        have BK253 := n10_
                        have BK264 := n11_
                        have BK279 := n12_
                        have BK286 := n13_
                        have BK298 := n14_
                        have BK305 := n15_
                        have HB := n16_
                        clear n0_ n1_ n2_ n3_ n4_ n5_ n6_ n7_ n8_ n9_ n10_ n11_ n12_ n13_ n14_ n15_ n16_
                        (try clear hb)
                        (try clear hb2)
                        (try clear hk)
                        (try clear hi)
                        refine hK.out _ _ ⟨(blk_cell BK253.out 0).trans rfl, (blk_cell BK253.out 1).trans rfl, (blk_cell BK253.out 2).trans rfl, (blk_cell BK264.out 0).trans rfl, (blk_cell BK264.out 1).trans rfl, (blk_cell BK264.out 2).trans rfl, (blk_cell BK279.out 0).trans rfl, (blk_cell BK279.out 1).trans rfl, (blk_cell BK279.out 2).trans rfl, (blk_cell BK286.out 0).trans rfl, (blk_cell BK286.out 1).trans rfl, (blk_cell BK286.out 2).trans rfl, (blk_cell BK298.out 0).trans rfl, (blk_cell BK298.out 1).trans rfl, (blk_cell BK298.out 2).trans rfl⟩ (fun hHeld => ?_)
                        clear hK K
                        refine norm_ (a' := ?_) ?_ ?_
                        rotate_left
                        · show Act.put _ (some 126) _ = _
                          simp only [Act.put, List.setIfInBounds_toArray, List.set_cons_zero, List.set_cons_succ, i64_w, i32_w]
                          rfl
                        refine one_ (i := 38) (N := some 128) #[true, true, true, true, true, true, true, true, true, true, true, true, true, true, true, true, true, true, true, true, true, true, true, true, true, true, true, true, true, true, true, true, true, true, true, true, true, true, true, true, false, false, false, false, false, false, false] rfl rfl (one_of HT_.out (by kernel_rfl)) (by decide) (fun K hK => ?_)
                        refine goes_ Try.func11 (by kernel_rfl) rfl #[.agg #[.int .i64 a0_0, .int .i64 a0_1, .slice A0_2 l0_2.length c0_2]] (by rfl) rfl rfl (by (try simp only [List.map_toArray, List.map_cons, List.map_nil]); first | done | rfl | (simp only [List.length_drop, List.length_take]; rfl)) ?_
                        with_reducible refine (handshakerlaw19_ref.calls a0_0 a0_1 (fun k_ => k_ < w.heap.size) _ _ l0_2 t328 t329 t330 _ ?side1 A92.out).mono ?_
                        (case side1 => exact Kd.V_mk HC0_2.out (Kd.F_below (Kd.C_F (Kd.heap_int .i64) HR0_2.out) (by repeat (first | (with_reducible first | exact HB.out | apply below_alloc | apply pw_below_drewN | apply below_drew1 | refine below_set ?_ GE253.out | refine below_set ?_ GE264.out | refine below_set ?_ GE279.out | refine below_set ?_ GE286.out | refine below_set ?_ GE298.out | refine below_set ?_ GE305.out) | exact HB.out))))
                        rintro e w110 ⟨v331, rfl, ho0, hb⟩
                        refine ⟨_, rfl, ?_⟩
                        have n0_ := Aside0.mk (Kd.R_below (by (with_reducible repeat (first | apply Kd.R_alloc | apply Kd.R_drewN | apply Kd.R_drew)); exact HO_6.out) hb)
                        have n1_ := Aside0.mk (Kd.R_below (by (with_reducible repeat (first | apply Kd.R_alloc | apply Kd.R_drewN | apply Kd.R_drew)); exact HO_9.out) hb)
                        have n2_ := Aside0.mk (Kd.V_below (by (with_reducible repeat (first | apply Kd.V_alloc | apply Kd.V_drewN | apply Kd.V_drew)); exact HO_265002.out) hb)
                        have n3_ := Aside0.mk (Kd.V_below (by (with_reducible repeat (first | apply Kd.V_alloc | apply Kd.V_drewN | apply Kd.V_drew)); exact HO_280002.out) hb)
                        have n4_ := Aside0.mk (Kd.V_below (by (with_reducible repeat (first | apply Kd.V_alloc | apply Kd.V_drewN | apply Kd.V_drew)); exact HO_287002.out) hb)
                        have n5_ := Aside0.mk (Kd.V_below (by (with_reducible repeat (first | apply Kd.V_alloc | apply Kd.V_drewN | apply Kd.V_drew)); exact HO_299002.out) hb)
                        have n6_ := Aside0.mk (Kd.R_below (by (with_reducible repeat (first | apply Kd.R_alloc | apply Kd.R_drewN | apply Kd.R_drew)); exact HO_306002.out) hb)
                        have n7_ := Aside0.mk (Kd.V_below (by (with_reducible repeat (first | apply Kd.V_alloc | apply Kd.V_drewN | apply Kd.V_drew)); exact HO312.out) hb)
                        have n8_ := Aside0.mk (Kd.V_below (by (with_reducible repeat (first | apply Kd.V_alloc | apply Kd.V_drewN | apply Kd.V_drew)); exact HO318.out) hb)
                        have n9_ := Aside0.mk (Kd.V_below (by (with_reducible repeat (first | apply Kd.V_alloc | apply Kd.V_drewN | apply Kd.V_drew)); exact HO325.out) hb)
                        have n10_ := Aside0.mk (Kd.V_lower (Kd.V_mono (ok' := fun k_ => some k_ ≠ (.slice Ao104 t260.length co104 : Value).ownBlock ∧ some k_ ≠ (.slice Ao105 t275.length co105 : Value).ownBlock ∧ some k_ ≠ (.slice Ao63 t301.length co63 : Value).ownBlock ∧ k_ ≠ gb253 ∧ k_ ≠ gb264 ∧ k_ ≠ gb279 ∧ k_ ≠ gb286 ∧ k_ ≠ gb298 ∧ k_ ≠ gb305) ho0 (fun k_ hk_ => ⟨Or.elim hk_ (fun hs_ => fun e_ => Nat.not_le.2 hs_ (Kd.R_base HO_6.out k_ e_.symm)) (fun hn_ => (Kd.fresh' (Kd.R_lt (by (with_reducible repeat (first | apply Kd.R_alloc | apply Kd.R_drewN | apply Kd.R_drew)); exact HO_6.out)) k_ hn_)), Or.elim hk_ (fun hs_ => fun e_ => Nat.not_le.2 hs_ (Kd.R_base HO_9.out k_ e_.symm)) (fun hn_ => (Kd.fresh' (Kd.R_lt (by (with_reducible repeat (first | apply Kd.R_alloc | apply Kd.R_drewN | apply Kd.R_drew)); exact HO_9.out)) k_ hn_)), Or.elim hk_ (fun hs_ => fun e_ => Nat.not_le.2 hs_ (Kd.R_base HO_306002.out k_ e_.symm)) (fun hn_ => (Kd.fresh' (Kd.R_lt (by (with_reducible repeat (first | apply Kd.R_alloc | apply Kd.R_drewN | apply Kd.R_drew)); exact HO_306002.out)) k_ hn_)), Or.elim hk_ (fun hs_ => fun e_ => Nat.not_le.2 hs_ (by rw [e_]; exact GW253.out)) (fun hn_ => (Kd.freshB (g := gb253) (o := .cells #[.int .i64 a0_0, .int .i64 a0_1, .slice A0_2 l0_2.length c0_2] 24 (0, 0)) (by (with_reducible repeat (first | refine blk_drewN ?_ _ | refine blk_drew ?_ | refine blk_alloc ?_ _)); exact BK253.out) k_ hn_)), Or.elim hk_ (fun hs_ => fun e_ => Nat.not_le.2 hs_ (by rw [e_]; exact GW264.out)) (fun hn_ => (Kd.freshB (g := gb264) (o := .cells #[.int .i64 t255, .int .i64 t256, .slice Ao23 t257.length co23] 24 (0, 0)) (by (with_reducible repeat (first | refine blk_drewN ?_ _ | refine blk_drew ?_ | refine blk_alloc ?_ _)); exact BK264.out) k_ hn_)), Or.elim hk_ (fun hs_ => fun e_ => Nat.not_le.2 hs_ (by rw [e_]; exact GW279.out)) (fun hn_ => (Kd.freshB (g := gb279) (o := .cells #[.int .i64 t270, .int .i64 t271, .slice Ao33 t272.length co33] 29 (0, 0)) (by (with_reducible repeat (first | refine blk_drewN ?_ _ | refine blk_drew ?_ | refine blk_alloc ?_ _)); exact BK279.out) k_ hn_)), Or.elim hk_ (fun hs_ => fun e_ => Nat.not_le.2 hs_ (by rw [e_]; exact GW286.out)) (fun hn_ => (Kd.freshB (g := gb286) (o := .cells #[.int .i64 t280, .int .i64 t281, .slice Ao42 t282.length co42] 24 (0, 0)) (by (with_reducible repeat (first | refine blk_drewN ?_ _ | refine blk_drew ?_ | refine blk_alloc ?_ _)); exact BK286.out) k_ hn_)), Or.elim hk_ (fun hs_ => fun e_ => Nat.not_le.2 hs_ (by rw [e_]; exact GW298.out)) (fun hn_ => (Kd.freshB (g := gb298) (o := .cells #[.int .i64 t292, .int .i64 t293, .slice Ao54 t294.length co54] 29 (0, 0)) (by (with_reducible repeat (first | refine blk_drewN ?_ _ | refine blk_drew ?_ | refine blk_alloc ?_ _)); exact BK298.out) k_ hn_)), Or.elim hk_ (fun hs_ => fun e_ => Nat.not_le.2 hs_ (by rw [e_]; exact GW305.out)) (fun hn_ => (Kd.freshB (g := gb305) (o := .cells #[.int .i64 t299, .int .i64 t300, .slice Ao63 t301.length co63] 24 (0, 0)) (by (with_reducible repeat (first | refine blk_drewN ?_ _ | refine blk_drew ?_ | refine blk_alloc ?_ _)); exact BK305.out) k_ hn_))⟩)) (below_size (by repeat (first | (with_reducible first | exact HB.out | apply below_alloc | apply pw_below_drewN | apply below_drew1 | refine below_set ?_ GE253.out | refine below_set ?_ GE264.out | refine below_set ?_ GE279.out | refine below_set ?_ GE286.out | refine below_set ?_ GE298.out | refine below_set ?_ GE305.out) | exact HB.out))))
                        have n11_ := Aside0.mk (blk_below (g := gb253) (o := .cells #[.int .i64 a0_0, .int .i64 a0_1, .slice A0_2 l0_2.length c0_2] 24 (0, 0)) (by (with_reducible repeat (first | refine blk_drewN ?_ _ | refine blk_drew ?_ | refine blk_alloc ?_ _)); exact BK253.out) hb)
                        have n12_ := Aside0.mk (blk_below (g := gb264) (o := .cells #[.int .i64 t255, .int .i64 t256, .slice Ao23 t257.length co23] 24 (0, 0)) (by (with_reducible repeat (first | refine blk_drewN ?_ _ | refine blk_drew ?_ | refine blk_alloc ?_ _)); exact BK264.out) hb)
                        have n13_ := Aside0.mk (blk_below (g := gb279) (o := .cells #[.int .i64 t270, .int .i64 t271, .slice Ao33 t272.length co33] 29 (0, 0)) (by (with_reducible repeat (first | refine blk_drewN ?_ _ | refine blk_drew ?_ | refine blk_alloc ?_ _)); exact BK279.out) hb)
                        have n14_ := Aside0.mk (blk_below (g := gb286) (o := .cells #[.int .i64 t280, .int .i64 t281, .slice Ao42 t282.length co42] 24 (0, 0)) (by (with_reducible repeat (first | refine blk_drewN ?_ _ | refine blk_drew ?_ | refine blk_alloc ?_ _)); exact BK286.out) hb)
                        have n15_ := Aside0.mk (blk_below (g := gb298) (o := .cells #[.int .i64 t292, .int .i64 t293, .slice Ao54 t294.length co54] 29 (0, 0)) (by (with_reducible repeat (first | refine blk_drewN ?_ _ | refine blk_drew ?_ | refine blk_alloc ?_ _)); exact BK298.out) hb)
                        have n16_ := Aside0.mk (blk_below (g := gb305) (o := .cells #[.int .i64 t299, .int .i64 t300, .slice Ao63 t301.length co63] 24 (0, 0)) (by (with_reducible repeat (first | refine blk_drewN ?_ _ | refine blk_drew ?_ | refine blk_alloc ?_ _)); exact BK305.out) hb)
                        have n17_ := Aside0.mk (below_step (by repeat (first | (with_reducible first | exact HB.out | apply below_alloc | apply pw_below_drewN | apply below_drew1 | refine below_set ?_ GE253.out | refine below_set ?_ GE264.out | refine below_set ?_ GE279.out | refine below_set ?_ GE286.out | refine below_set ?_ GE298.out | refine below_set ?_ GE305.out) | exact HB.out)) hb)
                        clear HO_6
                        clear HO_9
                        clear HO_265002
                        clear HO_280002
                        clear HO_287002
                        clear HO_299002
                        clear HO_306002
                        clear HO312
                        clear HO318
                        clear HO325
                        clear BK253
                        clear BK264
                        clear BK279
                        clear BK286
                        clear BK298
                        clear BK305
                        clear HB
                        have HO_6 := n0_
                        have HO_9 := n1_
                        have HO_265002 := n2_
                        have HO_280002 := n3_
                        have HO_287002 := n4_
                        have HO_299002 := n5_
                        have HO_306002 := n6_
                        have HO312 := n7_
                        have HO318 := n8_
                        have HO325 := n9_
                        have HO332 := n10_
                        have BK253 := n11_
                        have BK264 := n12_
                        have BK279 := n13_
                        have BK286 := n14_
                        have BK298 := n15_
                        have BK305 := n16_
                        have HB := n17_
                        clear n0_ n1_ n2_ n3_ n4_ n5_ n6_ n7_ n8_ n9_ n10_ n11_ n12_ n13_ n14_ n15_ n16_ n17_
                        (try clear hb)
                        (try clear hb2)
                        (try clear hk)
                        (try clear hi)
                        (try clear ho0)
                        obtain ⟨Ao111, co111, eo111⟩ := Kd.V_slice HO332.out
                        (first | subst eo111 | (injection eo111 with f1_ f2_ f3_; have f4_ := f1_.symm; have f5_ := f3_.symm; clear f1_ f2_ f3_; subst f4_; subst f5_))
                        refine hK.out _ _ ⟨(blk_cell BK253.out 0).trans rfl, (blk_cell BK253.out 1).trans rfl, (blk_cell BK253.out 2).trans rfl, (blk_cell BK264.out 0).trans rfl, (blk_cell BK264.out 1).trans rfl, (blk_cell BK264.out 2).trans rfl, (blk_cell BK279.out 0).trans rfl, (blk_cell BK279.out 1).trans rfl, (blk_cell BK279.out 2).trans rfl, (blk_cell BK286.out 0).trans rfl, (blk_cell BK286.out 1).trans rfl, (blk_cell BK286.out 2).trans rfl, (blk_cell BK298.out 0).trans rfl, (blk_cell BK298.out 1).trans rfl, (blk_cell BK298.out 2).trans rfl⟩ (fun hHeld => ?_)
                        clear hK K
                        refine norm_ (a' := ?_) ?_ ?_
                        rotate_left
                        · show Act.put _ (some 128) _ = _
                          simp only [Act.put, List.setIfInBounds_toArray, List.set_cons_zero, List.set_cons_succ, i64_w, i32_w]
                          rfl
                        refine one_ (i := 40) (N := some 130) #[true, true, true, true, true, true, true, true, true, true, true, true, true, true, true, true, true, true, true, true, true, true, true, true, true, true, true, true, true, true, true, true, true, true, true, true, true, true, true, true, true, false, false, false, false, false, false] rfl rfl (one_of HT_.out (by kernel_rfl)) (by decide) (fun K hK => ?_)
                        refine goes_ Try.func21 (by kernel_rfl) rfl #[.agg #[.int .i64 t328, .int .i64 t329, .slice Ao111 t330.length co111], .int .i64 a1] (by rfl) rfl rfl (by (try simp only [List.map_toArray, List.map_cons, List.map_nil]); first | done | rfl | (simp only [List.length_drop, List.length_take]; rfl)) ?_
                        with_reducible refine (handshakerref19_Place.calls kj15 t328 t329 _ _ t330 a1 t333 _ ?side1 ?side2 A93.out).mono ?_
                        (case side1 => repeat (first | exact (Kd.V_reads' HO332.out).2.2 | (with_reducible refine Kd.C_alloc ?_ _) | (with_reducible refine Kd.C_drewN ?_ _) | (with_reducible refine Kd.C_drew ?_)))
                        (case side2 => exact (Kd.V_reads' HO332.out).2.1)
                        rintro e w112 ⟨rfl, hb⟩
                        refine ⟨_, rfl, ?_⟩
                        have n0_ := Aside0.mk (Kd.R_below (by (with_reducible repeat (first | apply Kd.R_alloc | apply Kd.R_drewN | apply Kd.R_drew)); exact HO_6.out) hb)
                        have n1_ := Aside0.mk (Kd.R_below (by (with_reducible repeat (first | apply Kd.R_alloc | apply Kd.R_drewN | apply Kd.R_drew)); exact HO_9.out) hb)
                        have n2_ := Aside0.mk (Kd.V_below (by (with_reducible repeat (first | apply Kd.V_alloc | apply Kd.V_drewN | apply Kd.V_drew)); exact HO_265002.out) hb)
                        have n3_ := Aside0.mk (Kd.V_below (by (with_reducible repeat (first | apply Kd.V_alloc | apply Kd.V_drewN | apply Kd.V_drew)); exact HO_280002.out) hb)
                        have n4_ := Aside0.mk (Kd.V_below (by (with_reducible repeat (first | apply Kd.V_alloc | apply Kd.V_drewN | apply Kd.V_drew)); exact HO_287002.out) hb)
                        have n5_ := Aside0.mk (Kd.V_below (by (with_reducible repeat (first | apply Kd.V_alloc | apply Kd.V_drewN | apply Kd.V_drew)); exact HO_299002.out) hb)
                        have n6_ := Aside0.mk (Kd.R_below (by (with_reducible repeat (first | apply Kd.R_alloc | apply Kd.R_drewN | apply Kd.R_drew)); exact HO_306002.out) hb)
                        have n7_ := Aside0.mk (Kd.V_below (by (with_reducible repeat (first | apply Kd.V_alloc | apply Kd.V_drewN | apply Kd.V_drew)); exact HO312.out) hb)
                        have n8_ := Aside0.mk (Kd.V_below (by (with_reducible repeat (first | apply Kd.V_alloc | apply Kd.V_drewN | apply Kd.V_drew)); exact HO318.out) hb)
                        have n9_ := Aside0.mk (Kd.V_below (by (with_reducible repeat (first | apply Kd.V_alloc | apply Kd.V_drewN | apply Kd.V_drew)); exact HO325.out) hb)
                        have n10_ := Aside0.mk (Kd.V_below (by (with_reducible repeat (first | apply Kd.V_alloc | apply Kd.V_drewN | apply Kd.V_drew)); exact HO332.out) hb)
                        have n11_ := Aside0.mk (blk_below (g := gb253) (o := .cells #[.int .i64 a0_0, .int .i64 a0_1, .slice A0_2 l0_2.length c0_2] 24 (0, 0)) (by (with_reducible repeat (first | refine blk_drewN ?_ _ | refine blk_drew ?_ | refine blk_alloc ?_ _)); exact BK253.out) hb)
                        have n12_ := Aside0.mk (blk_below (g := gb264) (o := .cells #[.int .i64 t255, .int .i64 t256, .slice Ao23 t257.length co23] 24 (0, 0)) (by (with_reducible repeat (first | refine blk_drewN ?_ _ | refine blk_drew ?_ | refine blk_alloc ?_ _)); exact BK264.out) hb)
                        have n13_ := Aside0.mk (blk_below (g := gb279) (o := .cells #[.int .i64 t270, .int .i64 t271, .slice Ao33 t272.length co33] 29 (0, 0)) (by (with_reducible repeat (first | refine blk_drewN ?_ _ | refine blk_drew ?_ | refine blk_alloc ?_ _)); exact BK279.out) hb)
                        have n14_ := Aside0.mk (blk_below (g := gb286) (o := .cells #[.int .i64 t280, .int .i64 t281, .slice Ao42 t282.length co42] 24 (0, 0)) (by (with_reducible repeat (first | refine blk_drewN ?_ _ | refine blk_drew ?_ | refine blk_alloc ?_ _)); exact BK286.out) hb)
                        have n15_ := Aside0.mk (blk_below (g := gb298) (o := .cells #[.int .i64 t292, .int .i64 t293, .slice Ao54 t294.length co54] 29 (0, 0)) (by (with_reducible repeat (first | refine blk_drewN ?_ _ | refine blk_drew ?_ | refine blk_alloc ?_ _)); exact BK298.out) hb)
                        have n16_ := Aside0.mk (blk_below (g := gb305) (o := .cells #[.int .i64 t299, .int .i64 t300, .slice Ao63 t301.length co63] 24 (0, 0)) (by (with_reducible repeat (first | refine blk_drewN ?_ _ | refine blk_drew ?_ | refine blk_alloc ?_ _)); exact BK305.out) hb)
                        have n17_ := Aside0.mk (below_step (by repeat (first | (with_reducible first | exact HB.out | apply below_alloc | apply pw_below_drewN | apply below_drew1 | refine below_set ?_ GE253.out | refine below_set ?_ GE264.out | refine below_set ?_ GE279.out | refine below_set ?_ GE286.out | refine below_set ?_ GE298.out | refine below_set ?_ GE305.out) | exact HB.out)) hb)
                        clear HO_6
                        clear HO_9
                        clear HO_265002
                        clear HO_280002
                        clear HO_287002
                        clear HO_299002
                        clear HO_306002
                        clear HO312
                        clear HO318
                        clear HO325
                        clear HO332
                        clear BK253
                        clear BK264
                        clear BK279
                        clear BK286
                        clear BK298
                        clear BK305
                        clear HB
                        have HO_6 := n0_
                        have HO_9 := n1_
                        have HO_265002 := n2_
                        have HO_280002 := n3_
                        have HO_287002 := n4_
                        have HO_299002 := n5_
                        have HO_306002 := n6_
                        have HO312 := n7_
                        have HO318 := n8_
                        have HO325 := n9_
                        have HO332 := n10_
                        have BK253 := n11_
                        have BK264 := n12_
                        have BK279 := n13_
                        have BK286 := n14_
                        have BK298 := n15_
                        have BK305 := n16_
                        have HB := n17_
                        clear n0_ n1_ n2_ n3_ n4_ n5_ n6_ n7_ n8_ n9_ n10_ n11_ n12_ n13_ n14_ n15_ n16_ n17_
                        (try clear hb)
                        (try clear hb2)
                        (try clear hk)
                        (try clear hi)
                        refine hK.out _ _ ⟨(blk_cell BK253.out 0).trans rfl, (blk_cell BK253.out 1).trans rfl, (blk_cell BK253.out 2).trans rfl, (blk_cell BK264.out 0).trans rfl, (blk_cell BK264.out 1).trans rfl, (blk_cell BK264.out 2).trans rfl, (blk_cell BK279.out 0).trans rfl, (blk_cell BK279.out 1).trans rfl, (blk_cell BK279.out 2).trans rfl, (blk_cell BK286.out 0).trans rfl, (blk_cell BK286.out 1).trans rfl, (blk_cell BK286.out 2).trans rfl, (blk_cell BK298.out 0).trans rfl, (blk_cell BK298.out 1).trans rfl, (blk_cell BK298.out 2).trans rfl⟩ (fun hHeld => ?_)
                        clear hK K
                        refine norm_ (a' := ?_) ?_ ?_
                        rotate_left
                        · show Act.put _ (some 130) _ = _
                          simp only [Act.put, List.setIfInBounds_toArray, List.set_cons_zero, List.set_cons_succ, i64_w, i32_w]
                          rfl
                        refine pure_ (i := 41) (N := some 131) (v := ?_) (a' := ?_) #[true, true, true, true, true, true, true, true, true, true, true, true, true, true, true, true, true, true, true, true, true, true, true, true, true, true, true, true, true, true, true, true, true, true, true, true, true, true, true, true, true, true, false, false, false, false, false] rfl rfl (any_of HT_.out (by kernel_rfl)) (fun _ _ _ h => h) (Or.inl ⟨by rfl, ?_⟩) ?_ ?_
                        rotate_left
                        · intro w'
                          go_simp
                          with_reducible rfl
                        rotate_left
                        · simp only [Act.put, List.setIfInBounds_toArray, List.set_cons_zero, List.set_cons_succ, i64_w, i32_w]
                          rfl
                        refine pure_ (i := 42) (N := some 132) (v := ?_) (a' := ?_) #[true, true, true, true, true, true, true, true, true, true, true, true, true, true, true, true, true, true, true, true, true, true, true, true, true, true, true, true, true, true, true, true, true, true, true, true, true, true, true, true, true, true, true, false, false, false, false] rfl rfl (any_of HT_.out (by kernel_rfl)) (fun _ _ _ h => h) (Or.inl ⟨by rfl, ?_⟩) ?_ ?_
                        rotate_left
                        · intro w'
                          go_simp
                          with_reducible rfl
                        rotate_left
                        · simp only [Act.put, List.setIfInBounds_toArray, List.set_cons_zero, List.set_cons_succ, i64_w, i32_w]
                          rfl
                        refine pure_ (i := 43) (N := some 133) (v := ?_) (a' := ?_) #[true, true, true, true, true, true, true, true, true, true, true, true, true, true, true, true, true, true, true, true, true, true, true, true, true, true, true, true, true, true, true, true, true, true, true, true, true, true, true, true, true, true, true, true, false, false, false] rfl rfl (any_of HT_.out (by kernel_rfl)) (fun _ _ _ h => h) (Or.inl ⟨by rfl, ?_⟩) ?_ ?_
                        rotate_left
                        · intro w'
                          go_simp
                          with_reducible rfl
                        rotate_left
                        · simp only [Act.put, List.setIfInBounds_toArray, List.set_cons_zero, List.set_cons_succ, i64_w, i32_w]
                          rfl
                        refine one_ (i := 44) (N := some 134) #[true, true, true, true, true, true, true, true, true, true, true, true, true, true, true, true, true, true, true, true, true, true, true, true, true, true, true, true, true, true, true, true, true, true, true, true, true, true, true, true, true, true, true, true, true, false, false] rfl rfl (one_of HT_.out (by kernel_rfl)) (by decide) (fun K hK => ?_)
                        refine goes_ Try.func8 (by kernel_rfl) rfl #[] (by rfl) rfl rfl (by (try simp only [List.map_toArray, List.map_cons, List.map_nil]); first | done | rfl | (simp only [List.length_drop, List.length_take]; rfl)) ?_
                        with_reducible refine (handshakerlaw19_awake.calls kj15  t334 _ A95.out).mono ?_
                        rintro e w113 ⟨rfl, hb⟩
                        refine ⟨_, rfl, ?_⟩
                        have n0_ := Aside0.mk (Kd.R_below (by (with_reducible repeat (first | apply Kd.R_alloc | apply Kd.R_drewN | apply Kd.R_drew)); exact HO_6.out) hb)
                        have n1_ := Aside0.mk (Kd.R_below (by (with_reducible repeat (first | apply Kd.R_alloc | apply Kd.R_drewN | apply Kd.R_drew)); exact HO_9.out) hb)
                        have n2_ := Aside0.mk (Kd.V_below (by (with_reducible repeat (first | apply Kd.V_alloc | apply Kd.V_drewN | apply Kd.V_drew)); exact HO_265002.out) hb)
                        have n3_ := Aside0.mk (Kd.V_below (by (with_reducible repeat (first | apply Kd.V_alloc | apply Kd.V_drewN | apply Kd.V_drew)); exact HO_280002.out) hb)
                        have n4_ := Aside0.mk (Kd.V_below (by (with_reducible repeat (first | apply Kd.V_alloc | apply Kd.V_drewN | apply Kd.V_drew)); exact HO_287002.out) hb)
                        have n5_ := Aside0.mk (Kd.V_below (by (with_reducible repeat (first | apply Kd.V_alloc | apply Kd.V_drewN | apply Kd.V_drew)); exact HO_299002.out) hb)
                        have n6_ := Aside0.mk (Kd.R_below (by (with_reducible repeat (first | apply Kd.R_alloc | apply Kd.R_drewN | apply Kd.R_drew)); exact HO_306002.out) hb)
                        have n7_ := Aside0.mk (Kd.V_below (by (with_reducible repeat (first | apply Kd.V_alloc | apply Kd.V_drewN | apply Kd.V_drew)); exact HO312.out) hb)
                        have n8_ := Aside0.mk (Kd.V_below (by (with_reducible repeat (first | apply Kd.V_alloc | apply Kd.V_drewN | apply Kd.V_drew)); exact HO318.out) hb)
                        have n9_ := Aside0.mk (Kd.V_below (by (with_reducible repeat (first | apply Kd.V_alloc | apply Kd.V_drewN | apply Kd.V_drew)); exact HO325.out) hb)
                        have n10_ := Aside0.mk (Kd.V_below (by (with_reducible repeat (first | apply Kd.V_alloc | apply Kd.V_drewN | apply Kd.V_drew)); exact HO332.out) hb)
                        have n11_ := Aside0.mk (blk_below (g := gb253) (o := .cells #[.int .i64 a0_0, .int .i64 a0_1, .slice A0_2 l0_2.length c0_2] 24 (0, 0)) (by (with_reducible repeat (first | refine blk_drewN ?_ _ | refine blk_drew ?_ | refine blk_alloc ?_ _)); exact BK253.out) hb)
                        have n12_ := Aside0.mk (blk_below (g := gb264) (o := .cells #[.int .i64 t255, .int .i64 t256, .slice Ao23 t257.length co23] 24 (0, 0)) (by (with_reducible repeat (first | refine blk_drewN ?_ _ | refine blk_drew ?_ | refine blk_alloc ?_ _)); exact BK264.out) hb)
                        have n13_ := Aside0.mk (blk_below (g := gb279) (o := .cells #[.int .i64 t270, .int .i64 t271, .slice Ao33 t272.length co33] 29 (0, 0)) (by (with_reducible repeat (first | refine blk_drewN ?_ _ | refine blk_drew ?_ | refine blk_alloc ?_ _)); exact BK279.out) hb)
                        have n14_ := Aside0.mk (blk_below (g := gb286) (o := .cells #[.int .i64 t280, .int .i64 t281, .slice Ao42 t282.length co42] 24 (0, 0)) (by (with_reducible repeat (first | refine blk_drewN ?_ _ | refine blk_drew ?_ | refine blk_alloc ?_ _)); exact BK286.out) hb)
                        have n15_ := Aside0.mk (blk_below (g := gb298) (o := .cells #[.int .i64 t292, .int .i64 t293, .slice Ao54 t294.length co54] 29 (0, 0)) (by (with_reducible repeat (first | refine blk_drewN ?_ _ | refine blk_drew ?_ | refine blk_alloc ?_ _)); exact BK298.out) hb)
                        have n16_ := Aside0.mk (blk_below (g := gb305) (o := .cells #[.int .i64 t299, .int .i64 t300, .slice Ao63 t301.length co63] 24 (0, 0)) (by (with_reducible repeat (first | refine blk_drewN ?_ _ | refine blk_drew ?_ | refine blk_alloc ?_ _)); exact BK305.out) hb)
                        have n17_ := Aside0.mk (below_step (by repeat (first | (with_reducible first | exact HB.out | apply below_alloc | apply pw_below_drewN | apply below_drew1 | refine below_set ?_ GE253.out | refine below_set ?_ GE264.out | refine below_set ?_ GE279.out | refine below_set ?_ GE286.out | refine below_set ?_ GE298.out | refine below_set ?_ GE305.out) | exact HB.out)) hb)
                        clear HO_6
                        clear HO_9
                        clear HO_265002
                        clear HO_280002
                        clear HO_287002
                        clear HO_299002
                        clear HO_306002
                        clear HO312
                        clear HO318
                        clear HO325
                        clear HO332
                        clear BK253
                        clear BK264
                        clear BK279
                        clear BK286
                        clear BK298
                        clear BK305
                        clear HB
                        have HO_6 := n0_
                        have HO_9 := n1_
                        have HO_265002 := n2_
                        have HO_280002 := n3_
                        have HO_287002 := n4_
                        have HO_299002 := n5_
                        have HO_306002 := n6_
                        have HO312 := n7_
                        have HO318 := n8_
                        have HO325 := n9_
                        have HO332 := n10_
                        have BK253 := n11_
                        have BK264 := n12_
                        have BK279 := n13_
                        have BK286 := n14_
                        have BK298 := n15_
                        have BK305 := n16_
                        have HB := n17_
                        clear n0_ n1_ n2_ n3_ n4_ n5_ n6_ n7_ n8_ n9_ n10_ n11_ n12_ n13_ n14_ n15_ n16_ n17_
                        (try clear hb)
                        (try clear hb2)
                        (try clear hk)
                        (try clear hi)
                        refine hK.out _ _ ⟨(blk_cell BK253.out 0).trans rfl, (blk_cell BK253.out 1).trans rfl, (blk_cell BK253.out 2).trans rfl, (blk_cell BK264.out 0).trans rfl, (blk_cell BK264.out 1).trans rfl, (blk_cell BK264.out 2).trans rfl, (blk_cell BK279.out 0).trans rfl, (blk_cell BK279.out 1).trans rfl, (blk_cell BK279.out 2).trans rfl, (blk_cell BK286.out 0).trans rfl, (blk_cell BK286.out 1).trans rfl, (blk_cell BK286.out 2).trans rfl, (blk_cell BK298.out 0).trans rfl, (blk_cell BK298.out 1).trans rfl, (blk_cell BK298.out 2).trans rfl⟩ (fun hHeld => ?_)
                        clear hK K
                        refine norm_ (a' := ?_) ?_ ?_
                        rotate_left
                        · show Act.put _ (some 134) _ = _
                          simp only [Act.put, List.setIfInBounds_toArray, List.set_cons_zero, List.set_cons_succ, i64_w, i32_w]
                          rfl
                        refine pure_ (i := 45) (N := some 135) (v := ?_) (a' := ?_) #[true, true, true, true, true, true, true, true, true, true, true, true, true, true, true, true, true, true, true, true, true, true, true, true, true, true, true, true, true, true, true, true, true, true, true, true, true, true, true, true, true, true, true, true, true, true, false] rfl rfl (any_of HT_.out (by kernel_rfl)) (fun _ _ _ h => h) (Or.inl ⟨by rfl, ?_⟩) ?_ ?_
                        rotate_left
                        · intro w'
                          go_simp
                          with_reducible rfl
                        rotate_left
                        · simp only [Act.put, List.setIfInBounds_toArray, List.set_cons_zero, List.set_cons_succ, i64_w, i32_w]
                          rfl
                        refine pure_ (i := 46) (N := some 4) (v := ?_) (a' := ?_) #[true, true, true, true, true, true, true, true, true, true, true, true, true, true, true, true, true, true, true, true, true, true, true, true, true, true, true, true, true, true, true, true, true, true, true, true, true, true, true, true, true, true, true, true, true, true, true] rfl rfl (any_of HT_.out (by kernel_rfl)) (fun _ _ _ h => h) (Or.inl ⟨by rfl, ?_⟩) ?_ ?_
                        rotate_left
                        · intro w'
                          go_simp
                          with_reducible rfl
                        rotate_left
                        · simp only [Act.put, List.setIfInBounds_toArray, List.set_cons_zero, List.set_cons_succ, i64_w, i32_w]
                          rfl
                        refine done_ (done_of HT_.out (by kernel_rfl)) ?_
                        try go_wp2
                        go_ret
                        exact ⟨by first | rfl | (simp [errW_none, errW_some] <;> rfl) | (simp [*, errW_none, errW_some] <;> rfl), by repeat (first | (with_reducible first | exact HB.out | apply below_alloc | apply pw_below_drewN | apply below_drew1 | refine below_set ?_ GE253.out | refine below_set ?_ GE264.out | refine below_set ?_ GE279.out | refine below_set ?_ GE286.out | refine below_set ?_ GE298.out | refine below_set ?_ GE305.out) | exact HB.out)⟩
                      · rw [if_neg c94] at H
                        exact absurd H (by simp)
                    · rw [if_neg c90] at H
                      exact absurd H (by simp)
                  · replace c89 := Bool.eq_false_iff.mpr c89
                    subst c89
                    have H1 : (none) = some r := by rw [if_neg (show ¬ (false = true) by decide)] at H; exact H
                    clear H
                    have H := H1
                    clear H1
                    exact absurd H (by simp)
                · rw [if_neg c86] at H
                  exact absurd H (by simp)
              · replace c85 := Bool.eq_false_iff.mpr c85
                subst c85
                have H1 : (none) = some r := by rw [if_neg (show ¬ (false = true) by decide)] at H; exact H
                clear H
                have H := H1
                clear H1
                exact absurd H (by simp)
            · replace c83 := Bool.eq_false_iff.mpr c83
              subst c83
              have H1 : (none) = some r := by rw [if_neg (show ¬ (false = true) by decide)] at H; exact H
              clear H
              have H := H1
              clear H1
              exact absurd H (by simp)
          · rw [if_neg c80] at H
            exact absurd H (by simp)

end Go.Proofs.Ytablikjahajkkaa.PGateTells
