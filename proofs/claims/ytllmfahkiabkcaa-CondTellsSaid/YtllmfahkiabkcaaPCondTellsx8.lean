/- Lean functions that say what functions of the given program compute, and proofs by walking the code that each call does just that; no condition but those that each statement names. -/
import Derived.Test.YtllmfahkiabkcaaPCondTellsx0
import Derived.Test.YtllmfahkiabkcaaPCondTellsx4
import Derived.Test.YtllmfahkiabkcaaPCondTellsx6
namespace Go.Proofs.Ytllmfahkiabkcaa.PCondTells
open Go.RowKit Go.Proofs.YtllmfahkiabkcaaW.PrintWords Go.Proofs.YtllmfahkiabkcaaW.PrintLast Go.Proofs.YtllmfahkiabkcaaW.PrintMore
attribute [local go_sem] max2_int min2_int max_two min_two max_three min_three max_four min_four   -- for this text's walks alone
set_option linter.unusedVariables false
set_option linter.unusedSimpArgs false

/-! ### handshakerref20_Leave: function 18 -/
mutual
def handshakerref20_Leave.j0 : Nat → Int → Bool → Bool → List Int → List Int → Option (List Int × List Int × Bool × Int)
 | 0, _, _, _, _, _ => none
 | k + 1, x1, x8, x30, x305000, x305001 => if x30 = true then (some (x305000, x305001, false, 3)) else (if x8 = true then (handshakerref20_Leave.j1 k x1 true x305000 x305001) else (handshakerref20_Leave.j1 k x1 ((x305000.length : Int) == 0) x305000 x305001))
def handshakerref20_Leave.j1 : Nat → Int → Bool → List Int → List Int → Option (List Int × List Int × Bool × Int)
 | 0, _, _, _, _ => none
 | k + 1, x1, x38, x305000, x305001 => if x38 = true then ((handshakerref20_less.f k x305000 x1).bind fun t309 => ((handshakerref20_less.f k x305001 x1).bind fun t312 => (some (t309, t312, false, 0)))) else (handshakerref20_Leave.l0 k x1 ([] : List Int) 0 x305000 x305001)
def handshakerref20_Leave.l0 : Nat → Int → List Int → Int → List Int → List Int → Option (List Int × List Int × Bool × Int)
 | 0, _, _, _, _, _ => none
 | k + 1, x1, x10, x11, x305000, x305001 => if x11 < (x305001.length : Int) then (if 0 ≤ x11 then (if (rd x305001 x11) = x1 then (if 0 < (x305000.length : Int) then (if x10.length < 17592186044416 then (handshakerref20_Leave.l0 k x1 (x10 ++ [rd x305000 0]) (wrap64 (x11 + 1)) x305000 x305001) else (none)) else (none)) else (if x10.length < 17592186044416 then (handshakerref20_Leave.l0 k x1 (x10 ++ [rd x305001 x11]) (wrap64 (x11 + 1)) x305000 x305001) else (none))) else (none)) else (if 1 ≤ (x305000.length : Int) then (some ((x305000.drop 1), x10, true, 0)) else (none))
end
def handshakerref20_Leave.f (k : Nat) (l0_0 : List Int) (l0_1 : List Int) (a1 : Int) : Option (List Int × List Int × Bool × Int) := (handshakerref20_Right.f l0_0 l0_1).bind fun t306 => ((handshakerref20_in.f k l0_0 a1).bind fun t307 => ((handshakerref20_in.f k l0_1 a1).bind fun t308 => (if t306 = true then (if t307 = true then (handshakerref20_Leave.j0 k a1 t307 false l0_0 l0_1) else (handshakerref20_Leave.j0 k a1 t307 (!t308) l0_0 l0_1)) else (some (l0_0, l0_1, false, 1)))))
theorem handshakerref20_Leave.mono_l : ∀ k, (∀ y0 y1 y2 y3 y4, LeO (handshakerref20_Leave.j0 k y0 y1 y2 y3 y4) (handshakerref20_Leave.j0 (k + 1) y0 y1 y2 y3 y4)) ∧ (∀ y0 y1 y2 y3, LeO (handshakerref20_Leave.j1 k y0 y1 y2 y3) (handshakerref20_Leave.j1 (k + 1) y0 y1 y2 y3)) ∧ (∀ y0 y1 y2 y3 y4, LeO (handshakerref20_Leave.l0 k y0 y1 y2 y3 y4) (handshakerref20_Leave.l0 (k + 1) y0 y1 y2 y3 y4))
 | 0 => ⟨fun _ _ _ _ _ r h => by simp [handshakerref20_Leave.j0] at h, fun _ _ _ _ r h => by simp [handshakerref20_Leave.j1] at h, fun _ _ _ _ _ r h => by simp [handshakerref20_Leave.l0] at h⟩
 | k + 1 => by
  obtain ⟨ih0, ih1, ih2⟩ := handshakerref20_Leave.mono_l k
  refine ⟨?_, ?_, ?_⟩
  ·intro y0 y1 y2 y3 y4
   unfold handshakerref20_Leave.j0
   repeat' first
   | (with_reducible exact ih0 _ _ _ _ _)
   | (with_reducible exact ih1 _ _ _ _)
   | (with_reducible exact ih2 _ _ _ _ _)
   | (with_reducible exact handshakerref20_in.mono _ _ _)
   | (with_reducible exact handshakerref20_less.mono _ _ _)
   | (with_reducible exact LeO.refl _)
   | (with_reducible exact LeO.none _)
   | (with_reducible refine LeO.ite ?_ ?_)
   | (with_reducible refine LeO.bind ?_ (fun _ => ?_))
   | exact ih0 _ _ _ _ _
   | exact ih1 _ _ _ _
   | exact ih2 _ _ _ _ _
   | exact handshakerref20_in.mono _ _ _
   | exact handshakerref20_less.mono _ _ _
   | exact LeO.none _
   | refine LeO.ite ?_ ?_
   | refine LeO.bind ?_ (fun _ => ?_)
  ·intro y0 y1 y2 y3
   unfold handshakerref20_Leave.j1
   repeat' first
   | (with_reducible exact ih0 _ _ _ _ _)
   | (with_reducible exact ih1 _ _ _ _)
   | (with_reducible exact ih2 _ _ _ _ _)
   | (with_reducible exact handshakerref20_in.mono _ _ _)
   | (with_reducible exact handshakerref20_less.mono _ _ _)
   | (with_reducible exact LeO.refl _)
   | (with_reducible exact LeO.none _)
   | (with_reducible refine LeO.ite ?_ ?_)
   | (with_reducible refine LeO.bind ?_ (fun _ => ?_))
   | exact ih0 _ _ _ _ _
   | exact ih1 _ _ _ _
   | exact ih2 _ _ _ _ _
   | exact handshakerref20_in.mono _ _ _
   | exact handshakerref20_less.mono _ _ _
   | exact LeO.none _
   | refine LeO.ite ?_ ?_
   | refine LeO.bind ?_ (fun _ => ?_)
  ·intro y0 y1 y2 y3 y4
   unfold handshakerref20_Leave.l0
   repeat' first
   | (with_reducible exact ih0 _ _ _ _ _)
   | (with_reducible exact ih1 _ _ _ _)
   | (with_reducible exact ih2 _ _ _ _ _)
   | (with_reducible exact handshakerref20_in.mono _ _ _)
   | (with_reducible exact handshakerref20_less.mono _ _ _)
   | (with_reducible exact LeO.refl _)
   | (with_reducible exact LeO.none _)
   | (with_reducible refine LeO.ite ?_ ?_)
   | (with_reducible refine LeO.bind ?_ (fun _ => ?_))
   | exact ih0 _ _ _ _ _
   | exact ih1 _ _ _ _
   | exact ih2 _ _ _ _ _
   | exact handshakerref20_in.mono _ _ _
   | exact handshakerref20_less.mono _ _ _
   | exact LeO.none _
   | refine LeO.ite ?_ ?_
   | refine LeO.bind ?_ (fun _ => ?_)
theorem handshakerref20_Leave.mono : ∀ a0 a1 a2 k, LeO (handshakerref20_Leave.f k a0 a1 a2) (handshakerref20_Leave.f (k + 1) a0 a1 a2) := by
 intro a0 a1 a2 k
 obtain ⟨ih0, ih1, ih2⟩ := handshakerref20_Leave.mono_l k
 unfold handshakerref20_Leave.f
 repeat' first
   | (with_reducible exact ih0 _ _ _ _ _)
   | (with_reducible exact ih1 _ _ _ _)
   | (with_reducible exact ih2 _ _ _ _ _)
   | (with_reducible exact handshakerref20_in.mono _ _ _)
   | (with_reducible exact handshakerref20_less.mono _ _ _)
   | (with_reducible exact LeO.refl _)
   | (with_reducible exact LeO.none _)
   | (with_reducible refine LeO.ite ?_ ?_)
   | (with_reducible refine LeO.bind ?_ (fun _ => ?_))
   | exact ih0 _ _ _ _ _
   | exact ih1 _ _ _ _
   | exact ih2 _ _ _ _ _
   | exact handshakerref20_in.mono _ _ _
   | exact handshakerref20_less.mono _ _ _
   | exact LeO.none _
   | refine LeO.ite ?_ ?_
   | refine LeO.bind ?_ (fun _ => ?_)
def handshakerref20_Leave.T1 : Bool × List (List Nat × List Nat) := (true, [([], []), ([0], [0]), ([], []), ([2], [2]), ([], []), ([3, 4, 1], [3, 4]), ([], []), ([6], [6]), ([], []), ([7, 8, 5], [7, 8]), ([1, 9, 0, 1], [1]), ([5, 10, 0, 1, 2, 3, 4, 5, 10], [5]), ([9, 11, 0, 1, 2, 3, 4, 5, 6, 7, 8, 9, 10, 11], [9])])
def handshakerref20_Leave.B1 : List Nat := [0, 1, 0, 4, 0, 31, 0, 64, 0, 511, 1023, 2047, 4095]
theorem handshakerref20_Leave.tab1 : rtab .any (opsOf Try.f18 1) = handshakerref20_Leave.T1 := by kernel_rfl
theorem handshakerref20_Leave.bits1 : waitsOk handshakerref20_Leave.T1.2 handshakerref20_Leave.B1 = true := by kernel_rfl
def handshakerref20_Leave.T7 : Bool × List (List Nat × List Nat) := (true, [([], []), ([0], [0]), ([], []), ([1, 2], [1, 2]), ([], []), ([4], [4]), ([], []), ([5, 6, 3], [5, 6]), ([3, 7], [3, 7]), ([8, 7, 0, 1, 2, 3, 4, 5, 6, 7, 8], [8]), ([9, 0, 1, 2, 3, 4, 5, 6, 7, 8, 9], []), ([10, 0, 1, 2, 3, 4, 5, 6, 7, 8, 9, 10], [])])
def handshakerref20_Leave.B7 : List Nat := [0, 1, 0, 7, 0, 16, 0, 127, 255, 511, 1023, 2047]
theorem handshakerref20_Leave.tab7 : rtab .any (opsOf Try.f18 7) = handshakerref20_Leave.T7 := by kernel_rfl
theorem handshakerref20_Leave.bits7 : waitsOk handshakerref20_Leave.T7.2 handshakerref20_Leave.B7 = true := by kernel_rfl
set_option maxHeartbeats 8000000 in
set_option maxRecDepth 100000 in
theorem handshakerref20_Leave.calls (k : Nat) (P0_0_ : Nat → Prop) (A0_0 : Option Addr) (c0_0 : Nat) (l0_0 : List Int) (P0_1_ : Nat → Prop) (A0_1 : Option Addr) (c0_1 : Nat) (l0_1 : List Int) (a1 : Int) (r1 : List Int) (r2 : List Int) (r3 : Bool) (r4 : Int) (w : World) (hs0_0 : Kd.V (Kd.int .i64) 3 w w.heap.size (fun k_ => P0_0_ k_) (.slice A0_0 l0_0.length c0_0) l0_0) (hs0_1 : Kd.V (Kd.int .i64) 3 w w.heap.size (fun k_ => P0_1_ k_) (.slice A0_1 l0_1.length c0_1) l0_1) (h : handshakerref20_Leave.f k l0_0 l0_1 a1 = some (r1, r2, r3, r4)) :
  Calls Try.prog 18 #[.agg #[.slice A0_0 l0_0.length c0_0, .slice A0_1 l0_1.length c0_1], .int .i64 a1] w fun e w' => ∃ v0_ v1_ : Value, e = .returned (.tuple #[.agg #[v0_, v1_], .bool r3, .int .i64 r4]) ∧ Kd.V (Kd.int .i64) 3 w' w.heap.size (fun k_ => ((P0_0_ k_ ∨ P0_1_ k_) ∨ w.heap.size ≤ k_)) v0_ r1 ∧ Kd.V (Kd.int .i64) 3 w' w.heap.size (fun k_ => ((P0_0_ k_ ∨ P0_1_ k_) ∨ w.heap.size ≤ k_)) v1_ r2 ∧ Below w.heap.size w w' := by
 have hu30 := Try.underlying30
 have HO0_0 := am (show Kd.V (Kd.int .i64) 3 w w.heap.size (fun k_ => ((P0_0_ k_ ∨ P0_1_ k_) ∨ w.heap.size ≤ k_)) (.slice A0_0 l0_0.length c0_0) l0_0 from Kd.V_mono hs0_0 (fun k_ hk => .inl (.inl hk)))
 have HO0_1 := am (show Kd.V (Kd.int .i64) 3 w w.heap.size (fun k_ => ((P0_0_ k_ ∨ P0_1_ k_) ∨ w.heap.size ≤ k_)) (.slice A0_1 l0_1.length c0_1) l0_1 from Kd.V_mono hs0_1 (fun k_ hk => .inl (.inr hk)))
 have HB := am (Below.refl w.heap.size w)
 have H : ((handshakerref20_Right.f l0_0 l0_1).bind fun t306 => ((handshakerref20_in.f k l0_0 a1).bind fun t307 => ((handshakerref20_in.f k l0_1 a1).bind fun t308 => (if t306 = true then (if t307 = true then (handshakerref20_Leave.j0 k a1 t307 false l0_0 l0_1) else (handshakerref20_Leave.j0 k a1 t307 (!t308) l0_0 l0_1)) else (some (l0_0, l0_1, false, 1)))))) = some (r1, r2, r3, r4) := h
 clear h
 replace H := Option.bind_eq_some_iff.mp H
 obtain ⟨t306, A30, H⟩ := H
 try dsimp only at H
 have A3 := am A30
 clear A30
 replace H := Option.bind_eq_some_iff.mp H
 obtain ⟨t307, A40, H⟩ := H
 try dsimp only at H
 have A4 := am A40
 clear A40
 replace H := Option.bind_eq_some_iff.mp H
 obtain ⟨t308, A50, H⟩ := H
 try dsimp only at H
 have A5 := am A50
 clear A50
 by_cases c6 : t306 = true
 ·subst c6
  have H1 : (if t307 = true then (handshakerref20_Leave.j0 k a1 t307 false l0_0 l0_1) else (handshakerref20_Leave.j0 k a1 t307 (!t308) l0_0 l0_1)) = some (r1, r2, r3, r4) := by rw [if_pos rfl] at H; exact H
  clear H
  have H := H1
  clear H1
  have HC7 := am H
  clear H
  go_enter Try.func18, Try.ntmps18
  try go_wp2_with (first | ((with_reducible refine gate_dst (N := 2) rfl ?_); (try (refine gate_guard (by rfl) ?_; dsimp only)); refine box_event ?hg (N := 2) ?hd (cs := #[.slice A0_0 l0_0.length c0_0, .slice A0_1 l0_1.length c0_1]) (t := 30) ?hr ?_; (case hd => rfl); (case hg => rfl); (case hr => first | (go_simp; done) | (go_simp; rfl)); intro gb304 hg w8 hbox hb; replace HO0_0 := zVe HO0_0 hg hb; replace HO0_1 := zVe HO0_1 hg hb; have BK304 := am (hbox); have GW304 := zsz hg (zc0 HB); have GE304 := zsz hg (zc0 HB); replace HB := am (below_step (zc0 HB) hb); clear hb hbox hg) | ((with_reducible refine gate_dst (N := 4) rfl ?_); (try (refine gate_guard (by rfl) ?_; dsimp only)); refine box_event ?hg (N := 4) ?hd (cs := #[.slice none 0 0, .slice none 0 0]) (t := 30) ?hr ?_; (case hd => rfl); (case hg => rfl); (case hr => first | (go_simp; done) | (go_simp; rfl)); intro gb305 hg w9 hbox hb; replace HO0_0 := zVe HO0_0 hg hb; replace HO0_1 := zVe HO0_1 hg hb; have BK305 := am (hbox); have GW305 := zsz hg (zc1 HB GE304); have GE305 := zsz hg (zc1 HB GE304); replace HB := am (below_step (zc1 HB GE304) hb); have NB304_305 := znt BK304 hg; have NB305_304 := zng BK304 hg; replace BK304 := zbb BK304 hb; clear hb hbox hg))
  replace HO0_0 := am (Kd.V_drew HO0_0.out)
  replace HO0_1 := am (Kd.V_drew HO0_1.out)
  replace BK304 := am (blk_drew BK304.out)
  replace BK305 := am (blk_drew BK305.out)
  replace HB := am (below_drew1 HB.out)
  refine start_ (n := 13) (S := fun w' => w'.cell? ⟨gb304, 0, none⟩ = some (.slice A0_0 l0_0.length c0_0) ∧ w'.cell? ⟨gb304, 1, none⟩ = some (.slice A0_1 l0_1.length c0_1)) (ds := []) #[false, false, false, false, false, false, false, false, false, false, false, false, false] (by kernel_rfl) rfl rfl ⟨(blk_cell BK304.out 0).trans rfl, (blk_cell BK304.out 1).trans rfl⟩ (fun hHeld => ?_); refine with_tabW handshakerref20_Leave.tab1 handshakerref20_Leave.bits1 (fun HT_ HW_ => ?_)
  generalize w9.drew = w10 at HO0_0 HO0_1 BK304 BK305 HB hHeld ⊢
  refine pure_ (i := 2) (N := some 14) (v := ?_) (a' := ?_) #[false, false, true, false, false, false, false, false, false, false, false, false, false] rfl rfl (any_of HT_.out (by kernel_rfl)) (fun _ _ _ h => h) (Or.inl ⟨by rfl, ?_⟩) ?_ ?_
  rotate_left
  ·intro w'
   go_simp
   with_reducible rfl
  rotate_left
  ·simp only [Act.put, List.setIfInBounds_toArray, List.set_cons_zero, List.set_cons_succ, i64_w, i32_w]
   rfl
  refine pure_ (i := 4) (N := some 16) (v := ?_) (a' := ?_) #[false, false, true, false, true, false, false, false, false, false, false, false, false] rfl rfl (any_of HT_.out (by kernel_rfl)) (fun _ _ _ h => h) (Or.inl ⟨by rfl, ?_⟩) ?_ ?_
  rotate_left
  ·intro w'
   go_simp
   with_reducible rfl
  rotate_left
  ·simp only [Act.put, List.setIfInBounds_toArray, List.set_cons_zero, List.set_cons_succ, i64_w, i32_w]
   rfl
  refine pure_ (i := 6) (N := some 18) (v := ?_) (a' := ?_) #[false, false, true, false, true, false, true, false, false, false, false, false, false] rfl rfl (any_of HT_.out (by kernel_rfl)) (fun _ _ _ h => h) (Or.inl ⟨by rfl, ?_⟩) ?_ ?_
  rotate_left
  ·intro w'
   go_simp
   with_reducible rfl
  rotate_left
  ·simp only [Act.put, List.setIfInBounds_toArray, List.set_cons_zero, List.set_cons_succ, i64_w, i32_w]
   rfl
  refine pure_ (i := 8) (N := some 20) (v := ?_) (a' := ?_) #[false, false, true, false, true, false, true, false, true, false, false, false, false] rfl rfl (any_of HT_.out (by kernel_rfl)) (fun _ _ _ h => h) (Or.inl ⟨by rfl, ?_⟩) ?_ ?_
  rotate_left
  ·intro w'
   go_simp
   with_reducible rfl
  rotate_left
  ·simp only [Act.put, List.setIfInBounds_toArray, List.set_cons_zero, List.set_cons_succ, i64_w, i32_w]
   rfl
  refine take_ (i := 0) (N := some 12) (v := ?_) (a' := ?_) #[true, false, true, false, true, false, true, false, true, false, false, false, false] rfl rfl (take_ofW HT_.out HW_.out (by kernel_rfl)) (fun _ _ _ h => h) (Or.inl ⟨by rfl, ?_⟩) hHeld ?_ ?_
  rotate_left
  ·rintro w' ⟨s0, s1⟩
   go_simp
   with_reducible rfl
  rotate_left
  ·simp only [Act.put, List.setIfInBounds_toArray, List.set_cons_zero, List.set_cons_succ, i64_w, i32_w]
   rfl
  refine take_ (i := 3) (N := some 15) (v := ?_) (a' := ?_) #[true, false, true, true, true, false, true, false, true, false, false, false, false] rfl rfl (take_ofW HT_.out HW_.out (by kernel_rfl)) (fun _ _ _ h => h) (Or.inl ⟨by rfl, ?_⟩) hHeld ?_ ?_
  rotate_left
  ·rintro w' ⟨s0, s1⟩
   go_simp
   with_reducible rfl
  rotate_left
  ·simp only [Act.put, List.setIfInBounds_toArray, List.set_cons_zero, List.set_cons_succ, i64_w, i32_w]
   rfl
  refine take_ (i := 7) (N := some 19) (v := ?_) (a' := ?_) #[true, false, true, true, true, false, true, true, true, false, false, false, false] rfl rfl (take_ofW HT_.out HW_.out (by kernel_rfl)) (fun _ _ _ h => h) (Or.inl ⟨by rfl, ?_⟩) hHeld ?_ ?_
  rotate_left
  ·rintro w' ⟨s0, s1⟩
   go_simp
   with_reducible rfl
  rotate_left
  ·simp only [Act.put, List.setIfInBounds_toArray, List.set_cons_zero, List.set_cons_succ, i64_w, i32_w]
   rfl
  refine one_ (i := 1) (N := some 13) #[true, true, true, true, true, false, true, true, true, false, false, false, false] rfl rfl (one_of HT_.out (by kernel_rfl)) (by decide) (fun K hK => ?_)
  refine goes_ Try.func20 (by kernel_rfl) rfl #[.agg #[.slice A0_0 l0_0.length c0_0, .slice A0_1 l0_1.length c0_1]] (by rfl) rfl rfl zm ?_
  with_reducible refine (handshakerref20_Right.calls _ _ l0_0 _ _ l0_1 true _ ?side1 ?side2 ?side3 ?side4 A3.out).mono ?_
  (case side1 => repeat (first | exact (Kd.V_reads' HO0_0.out).2.2 | (with_reducible refine Kd.C_alloc ?_ _) | (with_reducible refine Kd.C_drewN ?_ _) | (with_reducible refine Kd.C_drew ?_)))
  (case side2 => exact (Kd.V_reads' HO0_0.out).2.1)
  (case side3 => repeat (first | exact (Kd.V_reads' HO0_1.out).2.2 | (with_reducible refine Kd.C_alloc ?_ _) | (with_reducible refine Kd.C_drewN ?_ _) | (with_reducible refine Kd.C_drew ?_)))
  (case side4 => exact (Kd.V_reads' HO0_1.out).2.1)
  rintro e w11 ⟨rfl, hb⟩
  refine ⟨_, rfl, ?_⟩
  replace HO0_0 := zVb HO0_0 hb
  replace HO0_1 := zVb HO0_1 hb
  replace BK304 := zbb BK304 hb
  replace BK305 := zbb BK305 hb
  replace HB := am (below_step (zc2 HB GE304 GE305) hb)
  (try clear hb)
  (try clear hb2)
  (try clear hk)
  (try clear hi)
  refine hK.out _ _ ⟨(blk_cell BK304.out 0).trans rfl, (blk_cell BK304.out 1).trans rfl⟩ (fun hHeld => ?_)
  clear hK K
  refine norm_ (a' := ?_) ?_ ?_
  rotate_left
  ·show Act.put _ (some 13) _ = _
   simp only [Act.put, List.setIfInBounds_toArray, List.set_cons_zero, List.set_cons_succ, i64_w, i32_w]
   rfl
  refine one_ (i := 5) (N := some 17) #[true, true, true, true, true, true, true, true, true, false, false, false, false] rfl rfl (one_of HT_.out (by kernel_rfl)) (by decide) (fun K hK => ?_)
  refine goes_ Try.func27 (by kernel_rfl) rfl #[.slice A0_0 l0_0.length c0_0, .int .i64 a1] (by rfl) rfl rfl zm ?_
  with_reducible refine (handshakerref20_in.calls k _ _ l0_0 a1 t307 _ ?side1 ?side2 A4.out).mono ?_
  (case side1 => repeat (first | exact (Kd.V_reads' HO0_0.out).2.2 | (with_reducible refine Kd.C_alloc ?_ _) | (with_reducible refine Kd.C_drewN ?_ _) | (with_reducible refine Kd.C_drew ?_)))
  (case side2 => exact (Kd.V_reads' HO0_0.out).2.1)
  rintro e w' ⟨rfl, ⟨nd, rfl⟩⟩
  refine ⟨_, rfl, ?_⟩
  refine hK.out _ _ ⟨(blk_cell BK304.out 0).trans rfl, (blk_cell BK304.out 1).trans rfl⟩ (fun hHeld => ?_)
  clear hK K
  refine norm_ (a' := ?_) ?_ ?_
  rotate_left
  ·show Act.put _ (some 17) _ = _
   simp only [Act.put, List.setIfInBounds_toArray, List.set_cons_zero, List.set_cons_succ, i64_w, i32_w]
   rfl
  refine one_ (i := 9) (N := some 21) #[true, true, true, true, true, true, true, true, true, true, false, false, false] rfl rfl (one_of HT_.out (by kernel_rfl)) (by decide) (fun K hK => ?_)
  refine goes_ Try.func27 (by kernel_rfl) rfl #[.slice A0_1 l0_1.length c0_1, .int .i64 a1] (by rfl) rfl rfl zm ?_
  with_reducible refine (handshakerref20_in.calls k _ _ l0_1 a1 t308 _ ?side1 ?side2 A5.out).mono ?_
  (case side1 => repeat (first | exact (Kd.V_reads' HO0_1.out).2.2 | (with_reducible refine Kd.C_alloc ?_ _) | (with_reducible refine Kd.C_drewN ?_ _) | (with_reducible refine Kd.C_drew ?_)))
  (case side2 => exact (Kd.V_reads' HO0_1.out).2.1)
  rintro e w' ⟨rfl, ⟨nd, rfl⟩⟩
  refine ⟨_, rfl, ?_⟩
  refine hK.out _ _ ⟨(blk_cell BK304.out 0).trans rfl, (blk_cell BK304.out 1).trans rfl⟩ (fun hHeld => ?_)
  clear hK K
  refine norm_ (a' := ?_) ?_ ?_
  rotate_left
  ·show Act.put _ (some 21) _ = _
   simp only [Act.put, List.setIfInBounds_toArray, List.set_cons_zero, List.set_cons_succ, i64_w, i32_w]
   rfl
  refine pure_ (i := 10) (N := some 7) (v := ?_) (a' := ?_) #[true, true, true, true, true, true, true, true, true, true, true, false, false] rfl rfl (any_of HT_.out (by kernel_rfl)) (fun _ _ _ h => h) (Or.inl ⟨by rfl, ?_⟩) ?_ ?_
  rotate_left
  ·intro w'
   go_simp
   with_reducible rfl
  rotate_left
  ·simp only [Act.put, List.setIfInBounds_toArray, List.set_cons_zero, List.set_cons_succ, i64_w, i32_w]
   rfl
  refine pure_ (i := 11) (N := some 8) (v := ?_) (a' := ?_) #[true, true, true, true, true, true, true, true, true, true, true, true, false] rfl rfl (any_of HT_.out (by kernel_rfl)) (fun _ _ _ h => h) (Or.inl ⟨by rfl, ?_⟩) ?_ ?_
  rotate_left
  ·intro w'
   go_simp
   with_reducible rfl
  rotate_left
  ·simp only [Act.put, List.setIfInBounds_toArray, List.set_cons_zero, List.set_cons_succ, i64_w, i32_w]
   rfl
  refine pure_ (i := 12) (N := some 9) (v := ?_) (a' := ?_) #[true, true, true, true, true, true, true, true, true, true, true, true, true] rfl rfl (any_of HT_.out (by kernel_rfl)) (fun _ _ _ h => h) (Or.inl ⟨by rfl, ?_⟩) ?_ ?_
  rotate_left
  ·intro w'
   go_simp
   with_reducible rfl
  rotate_left
  ·simp only [Act.put, List.setIfInBounds_toArray, List.set_cons_zero, List.set_cons_succ, i64_w, i32_w]
   rfl
  refine done_ (done_of HT_.out (by kernel_rfl)) ?_
  go_upto_region 4 with (fail)
  go_cut [30] (fun v30 wc => ∃ (kq : Nat) (x30_6 : Bool), v30 = .bool x30_6 ∧ Aside0 (handshakerref20_Leave.j0 kq a1 t307 x30_6 l0_0 l0_1 = some (r1, r2, r3, r4)) ∧ Aside0 (kq ≤ k) ∧ Aside0 (Kd.V (Kd.int .i64) 3 wc w.heap.size (fun k_ => ((P0_0_ k_ ∨ P0_1_ k_) ∨ w.heap.size ≤ k_) ∧ k_ ≠ gb304 ∧ k_ ≠ gb305) (.slice A0_0 l0_0.length c0_0) l0_0) ∧ Aside0 (Kd.V (Kd.int .i64) 3 wc w.heap.size (fun k_ => ((P0_0_ k_ ∨ P0_1_ k_) ∨ w.heap.size ≤ k_) ∧ k_ ≠ gb304 ∧ k_ ≠ gb305) (.slice A0_1 l0_1.length c0_1) l0_1) ∧ Aside0 (wc.heap[gb304]? = some (.cells #[(.slice A0_0 l0_0.length c0_0), (.slice A0_1 l0_1.length c0_1)] 30 (0, 0))) ∧ Aside0 (wc.heap[gb305]? = some (.cells #[(.slice none 0 0), (.slice none 0 0)] 30 (0, 0))) ∧ Aside0 (Below w.heap.size w wc))
  case first =>
   have H := HC7.out
   clear HC7
   by_cases c12 : t307 = true
   ·subst c12
    have H1 : (handshakerref20_Leave.j0 k a1 true false l0_0 l0_1) = some (r1, r2, r3, r4) := by rw [if_pos rfl] at H; exact H
    clear H
    have H := H1
    clear H1
    have H' := am H
    clear H
    go_wp2
    go_meet
    case rel => exact ⟨_, (false), (by first | rfl | (simp; done) | (simp [*]; done)), H', ⟨by first | omega | exact Nat.le_refl _⟩, ⟨by (with_reducible repeat (first | apply Kd.V_alloc | apply Kd.V_drewN | apply Kd.V_drew)); exact Kd.V_mono HO0_0.out (fun _ hk => ⟨hk.1.1, ⟨hk.1.2, hk.2⟩⟩)⟩, ⟨by (with_reducible repeat (first | apply Kd.V_alloc | apply Kd.V_drewN | apply Kd.V_drew)); exact Kd.V_mono HO0_1.out (fun _ hk => ⟨hk.1.1, ⟨hk.1.2, hk.2⟩⟩)⟩, ⟨by (with_reducible repeat (first | refine blk_drewN ?_ _ | refine blk_drew ?_ | refine blk_alloc ?_ _)); exact BK304.out⟩, ⟨by (with_reducible repeat (first | refine blk_drewN ?_ _ | refine blk_drew ?_ | refine blk_alloc ?_ _)); exact BK305.out⟩, ⟨by repeat (first | (with_reducible first | exact HB.out | apply below_alloc | apply pw_below_drewN | apply below_drew1 | refine below_set ?_ GE304.out | refine below_set ?_ GE305.out) | exact HB.out)⟩⟩
   ·replace c12 := Bool.eq_false_iff.mpr c12
    subst c12
    have H1 : (handshakerref20_Leave.j0 k a1 false (!t308) l0_0 l0_1) = some (r1, r2, r3, r4) := by rw [if_neg (show ¬ (false = true) by decide)] at H; exact H
    clear H
    have H := H1
    clear H1
    have H' := am H
    clear H
    go_wp2
    go_meet
    case rel => exact ⟨_, (!t308), (by first | rfl | (simp; done) | (simp [*]; done)), H', ⟨by first | omega | exact Nat.le_refl _⟩, ⟨by (with_reducible repeat (first | apply Kd.V_alloc | apply Kd.V_drewN | apply Kd.V_drew)); exact Kd.V_mono HO0_0.out (fun _ hk => ⟨hk.1.1, ⟨hk.1.2, hk.2⟩⟩)⟩, ⟨by (with_reducible repeat (first | apply Kd.V_alloc | apply Kd.V_drewN | apply Kd.V_drew)); exact Kd.V_mono HO0_1.out (fun _ hk => ⟨hk.1.1, ⟨hk.1.2, hk.2⟩⟩)⟩, ⟨by (with_reducible repeat (first | refine blk_drewN ?_ _ | refine blk_drew ?_ | refine blk_alloc ?_ _)); exact BK304.out⟩, ⟨by (with_reducible repeat (first | refine blk_drewN ?_ _ | refine blk_drew ?_ | refine blk_alloc ?_ _)); exact BK305.out⟩, ⟨by repeat (first | (with_reducible first | exact HB.out | apply below_alloc | apply pw_below_drewN | apply below_drew1 | refine below_set ?_ GE304.out | refine below_set ?_ GE305.out) | exact HB.out)⟩⟩
  case rest =>
   clear HC7
   try clear c1
   try clear c2
   try clear p2
   try clear c6
   try clear c12
   obtain ⟨kq, x30_6, rfl, HA, HJ6, HO_305000, HO_305001, BK304, BK305, HB⟩ := hcut
   cases kq with
   | zero => exact absurd HA.out (by simp [handshakerref20_Leave.j0])
   | succ kj6 =>
    have H := HA.out
    clear HA
    simp only [handshakerref20_Leave.j0] at H
    by_cases c13 : x30_6 = true
    ·subst c13
     have H1 : (some (l0_0, l0_1, false, 3)) = some (r1, r2, r3, r4) := by rw [if_pos rfl] at H; exact H
     clear H
     have H := H1
     clear H1
     simp only [Option.some.injEq, Prod.mk.injEq] at H
     obtain ⟨rfl, rfl, rfl, rfl⟩ := H
     have hnb14 := NB304_305.out
     have hnc14 := NB305_304.out
     have hcz15_0 : wc.cell? ⟨gb304, 0, none⟩ = some (.slice A0_0 l0_0.length c0_0) := (blk_cell BK304.out 0).trans rfl
     have hcz15_1 : wc.cell? ⟨gb304, 1, none⟩ = some (.slice A0_1 l0_1.length c0_1) := (blk_cell BK304.out 1).trans rfl
     have hfz15_0 := blk_frozen BK304.out 0
     have hfz15_1 := blk_frozen BK304.out 1
     have hcz16_0 : wc.cell? ⟨gb305, 0, none⟩ = some (.slice none 0 0) := (blk_cell BK305.out 0).trans rfl
     have hcz16_1 : wc.cell? ⟨gb305, 1, none⟩ = some (.slice none 0 0) := (blk_cell BK305.out 1).trans rfl
     have hfz16_0 := blk_frozen BK305.out 0
     have hfz16_1 := blk_frozen BK305.out 1
     go_wp2
     refine bodyPost_ret (results_ctt rfl _ _ gb305 30 #[.slice A0_0 l0_0.length c0_0, .slice A0_1 l0_1.length c0_1] (0, 0) _ rfl (by (with_reducible repeat (first | refine blk_drewN ?_ _ | refine blk_drew ?_ | refine blk_alloc ?_ _)); refine blk_put (cs := #[.slice A0_0 l0_0.length c0_0, .slice none 0 0]) ?_ 1 _ rfl; (with_reducible repeat (first | refine blk_drewN ?_ _ | refine blk_drew ?_ | refine blk_alloc ?_ _)); refine blk_put (cs := #[.slice none 0 0, .slice none 0 0]) ?_ 0 _ rfl; (with_reducible repeat (first | refine blk_drewN ?_ _ | refine blk_drew ?_ | refine blk_alloc ?_ _)); exact BK305.out) Try.underlying30 rfl (by kernel_rfl)) rfl ?_
     exact ⟨_, _, by first | rfl | (simp [errW_none, errW_some] <;> rfl) | (simp [*, errW_none, errW_some] <;> rfl), by (with_reducible repeat (first | apply Kd.V_alloc | apply Kd.V_drewN | apply Kd.V_drew)); exact Kd.V_mono (Kd.V_far (p := ⟨gb305, 1, none⟩) (Kd.V_far (p := ⟨gb305, 0, none⟩) (Kd.V_mono HO_305000.out (fun k_ hk => (⟨hk, hk.2.2⟩ : _ ∧ k_ ≠ gb305))) (fun _ hk => hk.2) (.slice A0_0 l0_0.length c0_0)) (fun _ hk => hk.2) (.slice A0_1 l0_1.length c0_1)) (fun _ hk => hk.1.1), by (with_reducible repeat (first | apply Kd.V_alloc | apply Kd.V_drewN | apply Kd.V_drew)); exact Kd.V_mono (Kd.V_far (p := ⟨gb305, 1, none⟩) (Kd.V_far (p := ⟨gb305, 0, none⟩) (Kd.V_mono HO_305001.out (fun k_ hk => (⟨hk, hk.2.2⟩ : _ ∧ k_ ≠ gb305))) (fun _ hk => hk.2) (.slice A0_0 l0_0.length c0_0)) (fun _ hk => hk.2) (.slice A0_1 l0_1.length c0_1)) (fun _ hk => hk.1.1), by repeat (first | (with_reducible first | exact HB.out | apply below_alloc | apply pw_below_drewN | apply below_drew1 | refine below_set ?_ GE304.out | refine below_set ?_ GE305.out) | exact HB.out)⟩
    ·replace c13 := Bool.eq_false_iff.mpr c13
     subst c13
     have H1 : (if t307 = true then (handshakerref20_Leave.j1 kj6 a1 true l0_0 l0_1) else (handshakerref20_Leave.j1 kj6 a1 ((l0_0.length : Int) == 0) l0_0 l0_1)) = some (r1, r2, r3, r4) := by rw [if_neg (show ¬ (false = true) by decide)] at H; exact H
     clear H
     have H := H1
     clear H1
     have HC17 := am H
     clear H
     go_upto_region 6 with (fail)
     go_cut [38] (fun v38 wc => ∃ (kq : Nat) (x38_16 : Bool), v38 = .bool x38_16 ∧ Aside0 (handshakerref20_Leave.j1 kq a1 x38_16 l0_0 l0_1 = some (r1, r2, r3, r4)) ∧ Aside0 (kq ≤ kj6) ∧ Aside0 (Kd.V (Kd.int .i64) 3 wc w.heap.size (fun k_ => ((P0_0_ k_ ∨ P0_1_ k_) ∨ w.heap.size ≤ k_) ∧ k_ ≠ gb304 ∧ k_ ≠ gb305) (.slice A0_0 l0_0.length c0_0) l0_0) ∧ Aside0 (Kd.V (Kd.int .i64) 3 wc w.heap.size (fun k_ => ((P0_0_ k_ ∨ P0_1_ k_) ∨ w.heap.size ≤ k_) ∧ k_ ≠ gb304 ∧ k_ ≠ gb305) (.slice A0_1 l0_1.length c0_1) l0_1) ∧ Aside0 (wc.heap[gb304]? = some (.cells #[(.slice A0_0 l0_0.length c0_0), (.slice A0_1 l0_1.length c0_1)] 30 (0, 0))) ∧ Aside0 (wc.heap[gb305]? = some (.cells #[(.slice none 0 0), (.slice none 0 0)] 30 (0, 0))) ∧ Aside0 (Below w.heap.size w wc))
     case first =>
      have H := HC17.out
      clear HC17
      by_cases c18 : t307 = true
      ·subst c18
       have H1 : (handshakerref20_Leave.j1 kj6 a1 true l0_0 l0_1) = some (r1, r2, r3, r4) := by rw [if_pos rfl] at H; exact H
       clear H
       have H := H1
       clear H1
       have H' := am H
       clear H
       go_wp2
       go_meet
       case rel => exact ⟨_, (true), (by first | rfl | (simp; done) | (simp [*]; done)), H', ⟨by have := HJ6.out; first | omega | exact Nat.le_refl _⟩, ⟨by (with_reducible repeat (first | apply Kd.V_alloc | apply Kd.V_drewN | apply Kd.V_drew)); exact HO_305000.out⟩, ⟨by (with_reducible repeat (first | apply Kd.V_alloc | apply Kd.V_drewN | apply Kd.V_drew)); exact HO_305001.out⟩, ⟨by (with_reducible repeat (first | refine blk_drewN ?_ _ | refine blk_drew ?_ | refine blk_alloc ?_ _)); exact BK304.out⟩, ⟨by (with_reducible repeat (first | refine blk_drewN ?_ _ | refine blk_drew ?_ | refine blk_alloc ?_ _)); exact BK305.out⟩, ⟨by repeat (first | (with_reducible first | exact HB.out | apply below_alloc | apply pw_below_drewN | apply below_drew1 | refine below_set ?_ GE304.out | refine below_set ?_ GE305.out) | exact HB.out)⟩⟩
      ·replace c18 := Bool.eq_false_iff.mpr c18
       subst c18
       have H1 : (handshakerref20_Leave.j1 kj6 a1 ((l0_0.length : Int) == 0) l0_0 l0_1) = some (r1, r2, r3, r4) := by rw [if_neg (show ¬ (false = true) by decide)] at H; exact H
       clear H
       have H := H1
       clear H1
       have H' := am H
       clear H
       have hnb19 := NB304_305.out
       have hnc19 := NB305_304.out
       have hcz20_0 : wc.cell? ⟨gb304, 0, none⟩ = some (.slice A0_0 l0_0.length c0_0) := (blk_cell BK304.out 0).trans rfl
       have hcz20_1 : wc.cell? ⟨gb304, 1, none⟩ = some (.slice A0_1 l0_1.length c0_1) := (blk_cell BK304.out 1).trans rfl
       have hfz20_0 := blk_frozen BK304.out 0
       have hfz20_1 := blk_frozen BK304.out 1
       go_wp2
       go_meet
       case rel => exact ⟨_, (((l0_0.length : Int) == 0)), (by first | rfl | (simp; done) | (simp [*]; done)), H', ⟨by have := HJ6.out; first | omega | exact Nat.le_refl _⟩, ⟨by (with_reducible repeat (first | apply Kd.V_alloc | apply Kd.V_drewN | apply Kd.V_drew)); exact HO_305000.out⟩, ⟨by (with_reducible repeat (first | apply Kd.V_alloc | apply Kd.V_drewN | apply Kd.V_drew)); exact HO_305001.out⟩, ⟨by (with_reducible repeat (first | refine blk_drewN ?_ _ | refine blk_drew ?_ | refine blk_alloc ?_ _)); exact BK304.out⟩, ⟨by (with_reducible repeat (first | refine blk_drewN ?_ _ | refine blk_drew ?_ | refine blk_alloc ?_ _)); exact BK305.out⟩, ⟨by repeat (first | (with_reducible first | exact HB.out | apply below_alloc | apply pw_below_drewN | apply below_drew1 | refine below_set ?_ GE304.out | refine below_set ?_ GE305.out) | exact HB.out)⟩⟩
     case rest =>
      clear HC17
      try clear c1
      try clear c2
      try clear p2
      try clear c6
      try clear c12
      try clear c13
      try clear c14
      try clear c18
      try clear c19
      try clear c20
      try clear hcz15_0
      try clear hcz15_1
      try clear hcz16_0
      try clear hcz16_1
      try clear hcz20_0
      try clear hcz20_1
      try clear hfz15_0
      try clear hfz15_1
      try clear hfz16_0
      try clear hfz16_1
      try clear hfz20_0
      try clear hfz20_1
      try clear p2
      obtain ⟨kq, x38_16, rfl, HA, HJ16, HO_305000, HO_305001, BK304, BK305, HB⟩ := hcut
      cases kq with
      | zero => exact absurd HA.out (by simp [handshakerref20_Leave.j1])
      | succ kj16 =>
       have H := HA.out
       clear HA
       simp only [handshakerref20_Leave.j1] at H
       by_cases c21 : x38_16 = true
       ·subst c21
        have H1 : ((handshakerref20_less.f kj16 l0_0 a1).bind fun t309 => ((handshakerref20_less.f kj16 l0_1 a1).bind fun t312 => (some (t309, t312, false, 0)))) = some (r1, r2, r3, r4) := by rw [if_pos rfl] at H; exact H
        clear H
        have H := H1
        clear H1
        replace H := Option.bind_eq_some_iff.mp H
        obtain ⟨t309, A220, H⟩ := H
        try dsimp only at H
        have A22 := am A220
        clear A220
        replace H := Option.bind_eq_some_iff.mp H
        obtain ⟨t312, A230, H⟩ := H
        try dsimp only at H
        have A23 := am A230
        clear A230
        simp only [Option.some.injEq, Prod.mk.injEq] at H
        obtain ⟨rfl, rfl, rfl, rfl⟩ := H
        try go_wp2
        replace HO_305000 := am (Kd.V_drew HO_305000.out)
        replace HO_305001 := am (Kd.V_drew HO_305001.out)
        replace BK304 := am (blk_drew BK304.out)
        replace BK305 := am (blk_drew BK305.out)
        replace HB := am (below_drew1 HB.out)
        refine start_ (n := 12) (S := fun w' => w'.cell? ⟨gb304, 0, none⟩ = some (.slice A0_0 l0_0.length c0_0) ∧ w'.cell? ⟨gb304, 1, none⟩ = some (.slice A0_1 l0_1.length c0_1)) (ds := []) #[false, false, false, false, false, false, false, false, false, false, false, false] (by kernel_rfl) rfl rfl ⟨(blk_cell BK304.out 0).trans rfl, (blk_cell BK304.out 1).trans rfl⟩ (fun hHeld => ?_); refine with_tabW handshakerref20_Leave.tab7 handshakerref20_Leave.bits7 (fun HT_ HW_ => ?_)
        generalize wc.drew = w24 at HO_305000 HO_305001 BK304 BK305 HB hHeld ⊢
        refine pure_ (i := 0) (N := some 39) (v := ?_) (a' := ?_) #[true, false, false, false, false, false, false, false, false, false, false, false] rfl rfl (any_of HT_.out (by kernel_rfl)) (fun _ _ _ h => h) (Or.inl ⟨by rfl, ?_⟩) ?_ ?_
        rotate_left
        ·intro w'
         go_simp
         with_reducible rfl
        rotate_left
        ·simp only [Act.put, List.setIfInBounds_toArray, List.set_cons_zero, List.set_cons_succ, i64_w, i32_w]
         rfl
        refine pure_ (i := 2) (N := some 41) (v := ?_) (a' := ?_) #[true, false, true, false, false, false, false, false, false, false, false, false] rfl rfl (any_of HT_.out (by kernel_rfl)) (fun _ _ _ h => h) (Or.inl ⟨by rfl, ?_⟩) ?_ ?_
        rotate_left
        ·intro w'
         go_simp
         with_reducible rfl
        rotate_left
        ·simp only [Act.put, List.setIfInBounds_toArray, List.set_cons_zero, List.set_cons_succ, i64_w, i32_w]
         rfl
        refine pure_ (i := 4) (N := some 43) (v := ?_) (a' := ?_) #[true, false, true, false, true, false, false, false, false, false, false, false] rfl rfl (any_of HT_.out (by kernel_rfl)) (fun _ _ _ h => h) (Or.inl ⟨by rfl, ?_⟩) ?_ ?_
        rotate_left
        ·intro w'
         go_simp
         with_reducible rfl
        rotate_left
        ·simp only [Act.put, List.setIfInBounds_toArray, List.set_cons_zero, List.set_cons_succ, i64_w, i32_w]
         rfl
        refine pure_ (i := 6) (N := some 45) (v := ?_) (a' := ?_) #[true, false, true, false, true, false, true, false, false, false, false, false] rfl rfl (any_of HT_.out (by kernel_rfl)) (fun _ _ _ h => h) (Or.inl ⟨by rfl, ?_⟩) ?_ ?_
        rotate_left
        ·intro w'
         go_simp
         with_reducible rfl
        rotate_left
        ·simp only [Act.put, List.setIfInBounds_toArray, List.set_cons_zero, List.set_cons_succ, i64_w, i32_w]
         rfl
        refine take_ (i := 1) (N := some 40) (v := ?_) (a' := ?_) #[true, true, true, false, true, false, true, false, false, false, false, false] rfl rfl (take_ofW HT_.out HW_.out (by kernel_rfl)) (fun _ _ _ h => h) (Or.inl ⟨by rfl, ?_⟩) hHeld ?_ ?_
        rotate_left
        ·rintro w' ⟨s0, s1⟩
         go_simp
         with_reducible rfl
        rotate_left
        ·simp only [Act.put, List.setIfInBounds_toArray, List.set_cons_zero, List.set_cons_succ, i64_w, i32_w]
         rfl
        refine take_ (i := 5) (N := some 44) (v := ?_) (a' := ?_) #[true, true, true, false, true, true, true, false, false, false, false, false] rfl rfl (take_ofW HT_.out HW_.out (by kernel_rfl)) (fun _ _ _ h => h) (Or.inl ⟨by rfl, ?_⟩) hHeld ?_ ?_
        rotate_left
        ·rintro w' ⟨s0, s1⟩
         go_simp
         with_reducible rfl
        rotate_left
        ·simp only [Act.put, List.setIfInBounds_toArray, List.set_cons_zero, List.set_cons_succ, i64_w, i32_w]
         rfl
        refine one_ (i := 3) (N := some 42) #[true, true, true, true, true, true, true, false, false, false, false, false] rfl rfl (one_of HT_.out (by kernel_rfl)) (by decide) (fun K hK => ?_)
        refine goes_ Try.func30 (by kernel_rfl) rfl #[.slice A0_0 l0_0.length c0_0, .int .i64 a1] (by rfl) rfl rfl zm ?_
        with_reducible refine (handshakerref20_less.calls kj16 _ _ l0_0 a1 t309 _ ?side1 ?side2 A22.out).mono ?_
        (case side1 => repeat (first | exact (Kd.V_reads' HO_305000.out).2.2 | (with_reducible refine Kd.C_alloc ?_ _) | (with_reducible refine Kd.C_drewN ?_ _) | (with_reducible refine Kd.C_drew ?_)))
        (case side2 => exact (Kd.V_reads' HO_305000.out).2.1)
        rintro e w25 ⟨v310, rfl, ho0, hb⟩
        refine ⟨_, rfl, ?_⟩
        replace HO_305000 := am (Kd.V_elder' (zV HO_305000) (Kd.R_base ho0) hb)
        replace HO_305001 := am (Kd.V_elder' (zV HO_305001) (Kd.R_base ho0) hb)
        have HO311 := am (Kd.R_lower (Kd.R_newM (M := fun k_ => (w.heap.size ≤ k_)) ho0 (below_size (zc2 HB GE304 GE305)) (fun k_ h_ => h_)) (below_size (zc2 HB GE304 GE305)))
        replace BK304 := zbb BK304 hb
        replace BK305 := zbb BK305 hb
        replace HB := am (below_step (zc2 HB GE304 GE305) hb)
        (try clear hb)
        (try clear hb2)
        (try clear hk)
        (try clear hi)
        (try clear ho0)
        refine hK.out _ _ ⟨(blk_cell BK304.out 0).trans rfl, (blk_cell BK304.out 1).trans rfl⟩ (fun hHeld => ?_)
        clear hK K
        refine norm_ (a' := ?_) ?_ ?_
        rotate_left
        ·show Act.put _ (some 42) _ = _
         simp only [Act.put, List.setIfInBounds_toArray, List.set_cons_zero, List.set_cons_succ, i64_w, i32_w]
         rfl
        refine one_ (i := 7) (N := some 46) #[true, true, true, true, true, true, true, true, false, false, false, false] rfl rfl (one_of HT_.out (by kernel_rfl)) (by decide) (fun K hK => ?_)
        refine goes_ Try.func30 (by kernel_rfl) rfl #[.slice A0_1 l0_1.length c0_1, .int .i64 a1] (by rfl) rfl rfl zm ?_
        with_reducible refine (handshakerref20_less.calls kj16 _ _ l0_1 a1 t312 _ ?side1 ?side2 A23.out).mono ?_
        (case side1 => repeat (first | exact (Kd.V_reads' HO_305001.out).2.2 | (with_reducible refine Kd.C_alloc ?_ _) | (with_reducible refine Kd.C_drewN ?_ _) | (with_reducible refine Kd.C_drew ?_)))
        (case side2 => exact (Kd.V_reads' HO_305001.out).2.1)
        rintro e w26 ⟨v313, rfl, ho0, hb⟩
        refine ⟨_, rfl, ?_⟩
        replace HO_305000 := am (Kd.V_elder' (zV HO_305000) (Kd.R_base ho0) hb)
        replace HO_305001 := am (Kd.V_elder' (zV HO_305001) (Kd.R_base ho0) hb)
        have HO314 := am (Kd.R_lower (Kd.R_new' (Kd.R_newM (M := fun k_ => (w.heap.size ≤ k_)) ho0 (below_size (zc2 HB GE304 GE305)) (fun k_ h_ => h_)) (Kd.R_lt (zR HO311))) (below_size (zc2 HB GE304 GE305)))
        replace HO311 := am (Kd.R_elder' (zR HO311) (Kd.R_base ho0) hb)
        replace BK304 := zbb BK304 hb
        replace BK305 := zbb BK305 hb
        replace HB := am (below_step (zc2 HB GE304 GE305) hb)
        (try clear hb)
        (try clear hb2)
        (try clear hk)
        (try clear hi)
        (try clear ho0)
        obtain ⟨Ao27, co27, eo27⟩ := Kd.R_slice HO314.out
        (first | subst eo27 | (injection eo27 with f1_ f2_ f3_; have f4_ := f1_.symm; have f5_ := f3_.symm; clear f1_ f2_ f3_; subst f4_; subst f5_))
        obtain ⟨Ao28, co28, eo28⟩ := Kd.R_slice HO311.out
        (first | subst eo28 | (injection eo28 with f1_ f2_ f3_; have f4_ := f1_.symm; have f5_ := f3_.symm; clear f1_ f2_ f3_; subst f4_; subst f5_))
        refine hK.out _ _ ⟨(blk_cell BK304.out 0).trans rfl, (blk_cell BK304.out 1).trans rfl⟩ (fun hHeld => ?_)
        clear hK K
        refine norm_ (a' := ?_) ?_ ?_
        rotate_left
        ·show Act.put _ (some 46) _ = _
         simp only [Act.put, List.setIfInBounds_toArray, List.set_cons_zero, List.set_cons_succ, i64_w, i32_w]
         rfl
        refine pure_ (i := 8) (N := some 47) (v := ?_) (a' := ?_) #[true, true, true, true, true, true, true, true, true, false, false, false] rfl rfl (any_of HT_.out (by kernel_rfl)) (fun _ _ _ h => h) (Or.inl ⟨by rfl, ?_⟩) ?_ ?_
        rotate_left
        ·intro w'
         go_simp
         with_reducible rfl
        rotate_left
        ·simp only [Act.put, List.setIfInBounds_toArray, List.set_cons_zero, List.set_cons_succ, i64_w, i32_w]
         rfl
        refine one_ (i := 9) (N := none) #[true, true, true, true, true, true, true, true, true, true, false, false] rfl rfl (one_of HT_.out (by kernel_rfl)) (by decide) (fun K hK => ?_)
        have hs29 : w26.cell? ⟨gb305, 0, none⟩ = some (.slice none 0 0) := (blk_cell BK305.out 0).trans rfl
        have hfs29 := blk_frozen BK305.out 0
        have hns29_0 := NB304_305.out
        have hms29_0 := NB305_304.out
        have hs30 : w26.cell? ⟨gb305, 1, none⟩ = some (.slice none 0 0) := (blk_cell BK305.out 1).trans rfl
        have hfs30 := blk_frozen BK305.out 1
        have hns30_0 := NB304_305.out
        have hms30_0 := NB305_304.out
        refine skip_ (w1 := ?_) (by rfl) rfl ?_ ?_
        rotate_left
        ·go_simp
         rfl
        refine hK.out _ _ ⟨((cell_far (p := ⟨gb305, _, none⟩) NB304_305.out _).trans (((cell_far (p := ⟨gb305, _, none⟩) NB304_305.out _).trans (hHeld.1)))), ((cell_far (p := ⟨gb305, _, none⟩) NB304_305.out _).trans (((cell_far (p := ⟨gb305, _, none⟩) NB304_305.out _).trans (hHeld.2))))⟩ (fun hHeld => ?_)
        clear hK K
        refine pure_ (i := 10) (N := some 5) (v := ?_) (a' := ?_) #[true, true, true, true, true, true, true, true, true, true, true, false] rfl rfl (any_of HT_.out (by kernel_rfl)) (fun _ _ _ h => h) (Or.inl ⟨by rfl, ?_⟩) ?_ ?_
        rotate_left
        ·intro w'
         go_simp
         with_reducible rfl
        rotate_left
        ·simp only [Act.put, List.setIfInBounds_toArray, List.set_cons_zero, List.set_cons_succ, i64_w, i32_w]
         rfl
        refine pure_ (i := 11) (N := some 6) (v := ?_) (a' := ?_) #[true, true, true, true, true, true, true, true, true, true, true, true] rfl rfl (any_of HT_.out (by kernel_rfl)) (fun _ _ _ h => h) (Or.inl ⟨by rfl, ?_⟩) ?_ ?_
        rotate_left
        ·intro w'
         go_simp
         with_reducible rfl
        rotate_left
        ·simp only [Act.put, List.setIfInBounds_toArray, List.set_cons_zero, List.set_cons_succ, i64_w, i32_w]
         rfl
        refine done_ (done_of HT_.out (by kernel_rfl)) ?_
        try go_wp2
        refine bodyPost_ret (results_ctt rfl _ _ gb305 30 #[.slice Ao28 t309.length co28, .slice Ao27 t312.length co27] (0, 0) _ rfl (by (with_reducible repeat (first | refine blk_drewN ?_ _ | refine blk_drew ?_ | refine blk_alloc ?_ _)); refine blk_put (cs := #[.slice Ao28 t309.length co28, .slice none 0 0]) ?_ 1 _ rfl; (with_reducible repeat (first | refine blk_drewN ?_ _ | refine blk_drew ?_ | refine blk_alloc ?_ _)); refine blk_put (cs := #[.slice none 0 0, .slice none 0 0]) ?_ 0 _ rfl; (with_reducible repeat (first | refine blk_drewN ?_ _ | refine blk_drew ?_ | refine blk_alloc ?_ _)); exact BK305.out) Try.underlying30 rfl (by kernel_rfl)) rfl ?_
        exact ⟨_, _, by first | rfl | (simp [errW_none, errW_some] <;> rfl) | (simp [*, errW_none, errW_some] <;> rfl), Kd.V_mono (Kd.R_V (Kd.R_mono (ok' := fun k_ => (w.heap.size ≤ k_)) (by (with_reducible repeat (first | apply Kd.R_alloc | apply Kd.R_drewN | apply Kd.R_drew)); exact Kd.R_mono (Kd.R_far (p := ⟨gb305, 1, none⟩) (Kd.R_far (p := ⟨gb305, 0, none⟩) (Kd.R_types HO311.out BK305.out (by decide)) (fun _ hk => hk.2) (.slice Ao28 t309.length co28)) (fun _ hk => hk.2) (.slice Ao27 t312.length co27)) (fun _ hk => hk.1.1.1)) (fun _ h_ => h_))) (fun k_ hk => by first | exact ⟨(.inr (hk.1)), hk.2⟩ | exact (.inr (hk))), Kd.V_mono (Kd.R_V (Kd.R_mono (ok' := fun k_ => (w.heap.size ≤ k_)) (by (with_reducible repeat (first | apply Kd.R_alloc | apply Kd.R_drewN | apply Kd.R_drew)); exact Kd.R_mono (Kd.R_far (p := ⟨gb305, 1, none⟩) (Kd.R_far (p := ⟨gb305, 0, none⟩) (Kd.R_types HO314.out BK305.out (by decide)) (fun _ hk => hk.2) (.slice Ao28 t309.length co28)) (fun _ hk => hk.2) (.slice Ao27 t312.length co27)) (fun _ hk => hk.1.1.1)) (fun _ h_ => h_))) (fun k_ hk => by first | exact ⟨(.inr (hk.1)), hk.2⟩ | exact (.inr (hk))), by repeat (first | (with_reducible first | exact HB.out | apply below_alloc | apply pw_below_drewN | apply below_drew1 | refine below_set ?_ GE304.out | refine below_set ?_ GE305.out) | exact HB.out)⟩
       ·replace c21 := Bool.eq_false_iff.mpr c21
        subst c21
        have H1 : (handshakerref20_Leave.l0 kj16 a1 ([] : List Int) 0 l0_0 l0_1) = some (r1, r2, r3, r4) := by rw [if_neg (show ¬ (false = true) by decide)] at H; exact H
        clear H
        have H := H1
        clear H1
        have H' := am H
        clear H
        go_wp2
        go_loopg [10, 11] kj16 (fun kq v10 v11 w' => ∃ (x10_3 : List Int) (x11_3 : Int), v11 = .int .i64 x11_3 ∧ Aside0 (handshakerref20_Leave.l0 kq a1 x10_3 x11_3 l0_0 l0_1 = some (r1, r2, r3, r4)) ∧ Aside0 (kq ≤ kj16) ∧ Aside0 (Kd.R (Kd.int .i64) 3 w' w.heap.size (fun k_ => (w.heap.size ≤ k_)) v10 x10_3) ∧ Aside0 (Kd.V (Kd.int .i64) 3 w' w.heap.size (fun k_ => ((P0_0_ k_ ∨ P0_1_ k_) ∨ w.heap.size ≤ k_) ∧ some k_ ≠ (v10 : Value).ownBlock ∧ k_ ≠ gb304 ∧ k_ ≠ gb305) (.slice A0_0 l0_0.length c0_0) l0_0) ∧ Aside0 (Kd.V (Kd.int .i64) 3 w' w.heap.size (fun k_ => ((P0_0_ k_ ∨ P0_1_ k_) ∨ w.heap.size ≤ k_) ∧ some k_ ≠ (v10 : Value).ownBlock ∧ k_ ≠ gb304 ∧ k_ ≠ gb305) (.slice A0_1 l0_1.length c0_1) l0_1) ∧ Aside0 (w'.heap[gb304]? = some (.cells #[(.slice A0_0 l0_0.length c0_0), (.slice A0_1 l0_1.length c0_1)] 30 (0, 0))) ∧ Aside0 (w'.heap[gb305]? = some (.cells #[(.slice none 0 0), (.slice none 0 0)] 30 (0, 0))) ∧ Aside0 (Below w.heap.size w w'))
        case atStart => exact ⟨(([] : List Int)), (0), (by first | rfl | (simp; done) | (simp [*]; done)), H', ⟨Nat.le_refl _⟩, ⟨by first | exact Kd.R_nil _ _ _ _ _ | exact Kd.N_nil _ _ _ _ _ | exact Kd.V_nil _ _ _ _ _ | exact Kd.Q_nil _ _ _ _ _ | exact Kd.S_nil _ _ _ _ _⟩, ⟨by (with_reducible repeat (first | apply Kd.V_alloc | apply Kd.V_drewN | apply Kd.V_drew)); exact Kd.V_mono HO_305000.out (fun _ hk => ⟨hk.1, ⟨(by simp [Value.ownBlock]), ⟨hk.2.1, hk.2.2⟩⟩⟩)⟩, ⟨by (with_reducible repeat (first | apply Kd.V_alloc | apply Kd.V_drewN | apply Kd.V_drew)); exact Kd.V_mono HO_305001.out (fun _ hk => ⟨hk.1, ⟨(by simp [Value.ownBlock]), ⟨hk.2.1, hk.2.2⟩⟩⟩)⟩, ⟨by (with_reducible repeat (first | refine blk_drewN ?_ _ | refine blk_drew ?_ | refine blk_alloc ?_ _)); exact BK304.out⟩, ⟨by (with_reducible repeat (first | refine blk_drewN ?_ _ | refine blk_drew ?_ | refine blk_alloc ?_ _)); exact BK305.out⟩, ⟨by repeat (first | (with_reducible first | exact HB.out | apply below_alloc | apply pw_below_drewN | apply below_drew1 | refine below_set ?_ GE304.out | refine below_set ?_ GE305.out) | exact HB.out)⟩⟩
        case round =>
         clear H'
         try clear c1
         try clear c2
         try clear p2
         try clear c3
         try clear c6
         try clear c12
         try clear c13
         try clear c14
         try clear c18
         try clear c19
         try clear c20
         try clear c21
         try clear c27
         try clear c30
         try clear hcz15_0
         try clear hcz15_1
         try clear hcz16_0
         try clear hcz16_1
         try clear hcz20_0
         try clear hcz20_1
         try clear hfz15_0
         try clear hfz15_1
         try clear hfz16_0
         try clear hfz16_1
         try clear hfz20_0
         try clear hfz20_1
         try clear p2
         obtain ⟨x10_3, x11_3, rfl, HA, HK3, HO_10, HO_305000, HO_305001, BK304, BK305, HB⟩ := hrel
         cases gk with
         | zero => exact absurd HA.out (by simp [handshakerref20_Leave.l0])
         | succ k3 =>
          have H := HA.out
          clear HA
          simp only [handshakerref20_Leave.l0] at H
          by_cases c31 : x11_3 < (l0_1.length : Int)
          ·rw [if_pos c31] at H
           have c31b0 : decide (x11_3 < (l0_1.length : Int)) = true := decide_eq_true c31
           clear c31
           by_cases c32 : 0 ≤ x11_3
           ·rw [if_pos c32] at H
            have c32b0 : decide (0 ≤ x11_3) = true := decide_eq_true c32
            clear c32
            by_cases c33 : (rd l0_1 x11_3) = a1
            ·rw [if_pos c33] at H
             have c33b0 : ((rd l0_1 x11_3) == a1) = true := beq_iff_eq.mpr c33
             have c33b1 : ((rd l0_1 x11_3) != a1) = false := bne_eq_false_iff_eq.mpr c33
             clear c33
             by_cases c34 : 0 < (l0_0.length : Int)
             ·rw [if_pos c34] at H
              have c34b0 : decide (0 < (l0_0.length : Int)) = true := decide_eq_true c34
              have c34b1 : decide (0 < l0_0.length) = true := decide_eq_true (by omega)
              clear c34
              by_cases c35 : x10_3.length < 17592186044416
              ·rw [if_pos c35] at H
               have LMc35 := am c35
               clear c35
               obtain ⟨y317, hy317⟩ : ∃ y_ : List Int, y_ = (x10_3 ++ [rd l0_0 0]) := ⟨_, rfl⟩
               replace H : (handshakerref20_Leave.l0 k3 a1 y317 (wrap64 (x11_3 + 1)) l0_0 l0_1) = some (r1, r2, r3, r4) := by first | (rw [hy317]; with_reducible exact H) | (have H2_ := (Option.bind_some _ _).symm.trans H; rw [hy317]; with_reducible exact H2_) | (have H2_ := (Option.bind_some _ _).symm.trans H; with_reducible exact H2_) | with_reducible exact H | (rw [hy317]; exact H) | exact H
               have Ny317 := am hy317
               clear hy317
               have H' := am H
               clear H
               have hnb36 := NB304_305.out
               have hnc36 := NB305_304.out
               have hcz37_0 : wr.cell? ⟨gb304, 0, none⟩ = some (.slice A0_0 l0_0.length c0_0) := (blk_cell BK304.out 0).trans rfl
               have hcz37_1 : wr.cell? ⟨gb304, 1, none⟩ = some (.slice A0_1 l0_1.length c0_1) := (blk_cell BK304.out 1).trans rfl
               have hfz37_0 := blk_frozen BK304.out 0
               have hfz37_1 := blk_frozen BK304.out 1
               have p315 : 0 ≤ (x11_3 : Int) := of_decide_eq_true (by first | (with_reducible assumption) | assumption)
               have q315 : x11_3 < (l0_1.length : Int) := of_decide_eq_true (by first | (with_reducible assumption) | assumption)
               obtain ⟨ad315, e315, hx315_0⟩ := Kd.at_int (Kd.V_reads' HO_305001.out).2.2 x11_3 p315 q315
               cases e315
               replace p315 := eq_true p315
               replace q315 := eq_true q315
               have p316 : 0 ≤ (0 : Int) := (by omega)
               have q316 : 0 < (l0_0.length : Int) := of_decide_eq_true (by first | (with_reducible assumption) | assumption)
               obtain ⟨ad316, e316, hx316_0⟩ := Kd.at_int (Kd.V_reads' HO_305000.out).2.2 0 p316 q316
               cases e316
               have qi316 : (0 < l0_0.length) = True := eq_true (by omega)
               (try rw [show ((0 : Int)).toNat = 0 from rfl] at hx316_0)
               (try rw [Addr.add_zero'] at hx316_0)
               replace p316 := eq_true p316
               replace q316 := eq_true q316
               go_wp2_with (first | ((with_reducible refine gate_builtin (b := .append) (xs := #[.tmp 62, .tmp 67]) rfl ?_); (try (refine gate_guard (by rfl) ?_; dsimp only)); at_builtin; refine Kd.R_append (Kd.int .i64) (w0 := w) w.heap.size rfl (.tmp 62) (.tmp 67) 22 3 (.int .i64 0) 8 rfl Try.underlying22 info3 rfl (by decide) (by omega) u10 x10_3 (rd l0_0 0) [.int .i64 (rd l0_0 0)] (fun k_ => (w.heap.size ≤ k_)) (fun _ => False) rfl rfl ?aP (fun _ hk => hk.elim) ?aF ?aO ?aB ?aS ?aL ?_; (case aP => exact rfl); (case aB => exact (zc2 HB GE304 GE305)); (case aF => exact (fun k_ hk => (Nat.le_trans (below_size (zc2 HB GE304 GE305)) hk))); (case aO => exact (zR HO_10)); (case aS => exact (below_size (zc2 HB GE304 GE305))); (case aL => have := LMc35.out; omega); intro v318 w38 ho hb hg hat; rw [← Ny317.out] at ho; replace HO_305000 := am (Kd.V_afterv (ok := (fun k_ => ((P0_0_ k_ ∨ P0_1_ k_) ∨ w.heap.size ≤ k_) ∧ k_ ≠ gb304 ∧ k_ ≠ gb305)) (by (with_reducible repeat (first | apply Kd.V_alloc | apply Kd.V_drewN | apply Kd.V_drew)); exact Kd.V_mono HO_305000.out (fun _ hk => ⟨⟨hk.1, ⟨hk.2.2.1, hk.2.2.2⟩⟩, hk.2.1⟩)) hg hat); replace HO_305001 := am (Kd.V_afterv (ok := (fun k_ => ((P0_0_ k_ ∨ P0_1_ k_) ∨ w.heap.size ≤ k_) ∧ k_ ≠ gb304 ∧ k_ ≠ gb305)) (by (with_reducible repeat (first | apply Kd.V_alloc | apply Kd.V_drewN | apply Kd.V_drew)); exact Kd.V_mono HO_305001.out (fun _ hk => ⟨⟨hk.1, ⟨hk.2.2.1, hk.2.2.2⟩⟩, hk.2.1⟩)) hg hat); replace BK304 := am (blk_grown (g := gb304) (o := .cells #[.slice (some ad316) l0_0.length c0_0, .slice (some ad315) l0_1.length c0_1] 30 (0, 0)) (zb BK304) hg (Kd.R_ne HO_10.out BK304.out (by decide))); replace BK305 := am (blk_grown (g := gb305) (o := .cells #[.slice none 0 0, .slice none 0 0] 30 (0, 0)) (zb BK305) hg (Kd.R_ne HO_10.out BK305.out (by decide))); replace HB := am (hb); have HO319 := am (ho); clear HO_10; clear ho hb hg hat))
               go_roundg k3
               case measure => have := HJ6.out; have := HJ16.out; have := HK3.out; omega
               case rel => exact ⟨(y317), (wrap64 (x11_3 + 1)), (by first | rfl | (simp; done) | (simp [*]; done)), H', ⟨by have := HJ6.out; have := HJ16.out; have := HK3.out; omega⟩, ⟨by (with_reducible repeat (first | apply Kd.R_alloc | apply Kd.R_drewN | apply Kd.R_drew)); exact HO319.out⟩, ⟨by (with_reducible repeat (first | apply Kd.V_alloc | apply Kd.V_drewN | apply Kd.V_drew)); exact Kd.V_mono HO_305000.out (fun _ hk => ⟨hk.1.1, ⟨hk.2, ⟨hk.1.2.1, hk.1.2.2⟩⟩⟩)⟩, ⟨by (with_reducible repeat (first | apply Kd.V_alloc | apply Kd.V_drewN | apply Kd.V_drew)); exact Kd.V_mono HO_305001.out (fun _ hk => ⟨hk.1.1, ⟨hk.2, ⟨hk.1.2.1, hk.1.2.2⟩⟩⟩)⟩, ⟨by (with_reducible repeat (first | refine blk_drewN ?_ _ | refine blk_drew ?_ | refine blk_alloc ?_ _)); exact BK304.out⟩, ⟨by (with_reducible repeat (first | refine blk_drewN ?_ _ | refine blk_drew ?_ | refine blk_alloc ?_ _)); exact BK305.out⟩, ⟨by repeat (first | (with_reducible first | exact HB.out | apply below_alloc | apply pw_below_drewN | apply below_drew1 | refine below_set ?_ GE304.out | refine below_set ?_ GE305.out) | exact HB.out)⟩⟩
              ·rw [if_neg c35] at H
               exact absurd H (by simp)
             ·rw [if_neg c34] at H
              exact absurd H (by simp)
            ·rw [if_neg c33] at H
             have c33b0 : ((rd l0_1 x11_3) == a1) = false := beq_eq_false_iff_ne.mpr c33
             have c33b1 : ((rd l0_1 x11_3) != a1) = true := bne_iff_ne.mpr c33
             by_cases c39 : x10_3.length < 17592186044416
             ·rw [if_pos c39] at H
              have LMc39 := am c39
              clear c39
              obtain ⟨y321, hy321⟩ : ∃ y_ : List Int, y_ = (x10_3 ++ [rd l0_1 x11_3]) := ⟨_, rfl⟩
              replace H : (handshakerref20_Leave.l0 k3 a1 y321 (wrap64 (x11_3 + 1)) l0_0 l0_1) = some (r1, r2, r3, r4) := by first | (rw [hy321]; with_reducible exact H) | (have H2_ := (Option.bind_some _ _).symm.trans H; rw [hy321]; with_reducible exact H2_) | (have H2_ := (Option.bind_some _ _).symm.trans H; with_reducible exact H2_) | with_reducible exact H | (rw [hy321]; exact H) | exact H
              have Ny321 := am hy321
              clear hy321
              have H' := am H
              clear H
              have hnb40 := NB304_305.out
              have hnc40 := NB305_304.out
              have hcz41_0 : wr.cell? ⟨gb304, 0, none⟩ = some (.slice A0_0 l0_0.length c0_0) := (blk_cell BK304.out 0).trans rfl
              have hcz41_1 : wr.cell? ⟨gb304, 1, none⟩ = some (.slice A0_1 l0_1.length c0_1) := (blk_cell BK304.out 1).trans rfl
              have hfz41_0 := blk_frozen BK304.out 0
              have hfz41_1 := blk_frozen BK304.out 1
              have p315 : 0 ≤ (x11_3 : Int) := of_decide_eq_true (by first | (with_reducible assumption) | assumption)
              have q315 : x11_3 < (l0_1.length : Int) := of_decide_eq_true (by first | (with_reducible assumption) | assumption)
              obtain ⟨ad315, e315, hx315_0⟩ := Kd.at_int (Kd.V_reads' HO_305001.out).2.2 x11_3 p315 q315
              cases e315
              replace p315 := eq_true p315
              replace q315 := eq_true q315
              have p320 : 0 ≤ (x11_3 : Int) := of_decide_eq_true (by first | (with_reducible assumption) | assumption)
              have q320 : x11_3 < (l0_1.length : Int) := of_decide_eq_true (by first | (with_reducible assumption) | assumption)
              obtain ⟨ad320, e320, hx320_0⟩ := Kd.at_int (Kd.V_reads' HO_305001.out).2.2 x11_3 p320 q320
              obtain rfl : ad315 = ad320 := (by injection e320)
              replace p320 := eq_true p320
              replace q320 := eq_true q320
              go_wp2_with (first | ((with_reducible refine gate_builtin (b := .append) (xs := #[.tmp 69, .tmp 75]) rfl ?_); (try (refine gate_guard (by rfl) ?_; dsimp only)); at_builtin; refine Kd.R_append (Kd.int .i64) (w0 := w) w.heap.size rfl (.tmp 69) (.tmp 75) 22 3 (.int .i64 0) 8 rfl Try.underlying22 info3 rfl (by decide) (by omega) u10 x10_3 (rd l0_1 x11_3) [.int .i64 (rd l0_1 x11_3)] (fun k_ => (w.heap.size ≤ k_)) (fun _ => False) rfl rfl ?aP (fun _ hk => hk.elim) ?aF ?aO ?aB ?aS ?aL ?_; (case aP => exact rfl); (case aB => exact (zc2 HB GE304 GE305)); (case aF => exact (fun k_ hk => (Nat.le_trans (below_size (zc2 HB GE304 GE305)) hk))); (case aO => exact (zR HO_10)); (case aS => exact (below_size (zc2 HB GE304 GE305))); (case aL => have := LMc39.out; omega); intro v322 w42 ho hb hg hat; rw [← Ny321.out] at ho; replace HO_305000 := am (Kd.V_afterv (ok := (fun k_ => ((P0_0_ k_ ∨ P0_1_ k_) ∨ w.heap.size ≤ k_) ∧ k_ ≠ gb304 ∧ k_ ≠ gb305)) (by (with_reducible repeat (first | apply Kd.V_alloc | apply Kd.V_drewN | apply Kd.V_drew)); exact Kd.V_mono HO_305000.out (fun _ hk => ⟨⟨hk.1, ⟨hk.2.2.1, hk.2.2.2⟩⟩, hk.2.1⟩)) hg hat); replace HO_305001 := am (Kd.V_afterv (ok := (fun k_ => ((P0_0_ k_ ∨ P0_1_ k_) ∨ w.heap.size ≤ k_) ∧ k_ ≠ gb304 ∧ k_ ≠ gb305)) (by (with_reducible repeat (first | apply Kd.V_alloc | apply Kd.V_drewN | apply Kd.V_drew)); exact Kd.V_mono HO_305001.out (fun _ hk => ⟨⟨hk.1, ⟨hk.2.2.1, hk.2.2.2⟩⟩, hk.2.1⟩)) hg hat); replace BK304 := am (blk_grown (g := gb304) (o := .cells #[.slice A0_0 l0_0.length c0_0, .slice (some ad315) l0_1.length c0_1] 30 (0, 0)) (zb BK304) hg (Kd.R_ne HO_10.out BK304.out (by decide))); replace BK305 := am (blk_grown (g := gb305) (o := .cells #[.slice none 0 0, .slice none 0 0] 30 (0, 0)) (zb BK305) hg (Kd.R_ne HO_10.out BK305.out (by decide))); replace HB := am (hb); have HO323 := am (ho); clear HO_10; clear ho hb hg hat))
              go_roundg k3
              case measure => have := HJ6.out; have := HJ16.out; have := HK3.out; omega
              case rel => exact ⟨(y321), (wrap64 (x11_3 + 1)), (by first | rfl | (simp; done) | (simp [*]; done)), H', ⟨by have := HJ6.out; have := HJ16.out; have := HK3.out; omega⟩, ⟨by (with_reducible repeat (first | apply Kd.R_alloc | apply Kd.R_drewN | apply Kd.R_drew)); exact HO323.out⟩, ⟨by (with_reducible repeat (first | apply Kd.V_alloc | apply Kd.V_drewN | apply Kd.V_drew)); exact Kd.V_mono HO_305000.out (fun _ hk => ⟨hk.1.1, ⟨hk.2, ⟨hk.1.2.1, hk.1.2.2⟩⟩⟩)⟩, ⟨by (with_reducible repeat (first | apply Kd.V_alloc | apply Kd.V_drewN | apply Kd.V_drew)); exact Kd.V_mono HO_305001.out (fun _ hk => ⟨hk.1.1, ⟨hk.2, ⟨hk.1.2.1, hk.1.2.2⟩⟩⟩)⟩, ⟨by (with_reducible repeat (first | refine blk_drewN ?_ _ | refine blk_drew ?_ | refine blk_alloc ?_ _)); exact BK304.out⟩, ⟨by (with_reducible repeat (first | refine blk_drewN ?_ _ | refine blk_drew ?_ | refine blk_alloc ?_ _)); exact BK305.out⟩, ⟨by repeat (first | (with_reducible first | exact HB.out | apply below_alloc | apply pw_below_drewN | apply below_drew1 | refine below_set ?_ GE304.out | refine below_set ?_ GE305.out) | exact HB.out)⟩⟩
             ·rw [if_neg c39] at H
              exact absurd H (by simp)
           ·rw [if_neg c32] at H
            exact absurd H (by simp)
          ·rw [if_neg c31] at H
           have c31b0 : decide (x11_3 < (l0_1.length : Int)) = false := decide_eq_false c31
           clear c31
           by_cases c43 : 1 ≤ (l0_0.length : Int)
           ·rw [if_pos c43] at H
            have c43b0 := eq_true c43
            have c43b1 : decide (1 ≤ (l0_0.length : Int)) = true := decide_eq_true c43
            clear c43
            obtain ⟨y324, hy324⟩ : ∃ y_ : List Int, y_ = (l0_0.drop 1) := ⟨_, rfl⟩
            replace H : (some (y324, x10_3, true, 0)) = some (r1, r2, r3, r4) := by first | (rw [hy324]; with_reducible exact H) | (have H2_ := (Option.bind_some _ _).symm.trans H; rw [hy324]; with_reducible exact H2_) | (have H2_ := (Option.bind_some _ _).symm.trans H; with_reducible exact H2_) | with_reducible exact H | (rw [hy324]; exact H) | exact H
            have Ny324 := am hy324
            clear hy324
            simp only [Option.some.injEq, Prod.mk.injEq] at H
            obtain ⟨rfl, rfl, rfl, rfl⟩ := H
            have hnb44 := NB304_305.out
            have hnc44 := NB305_304.out
            have hcz45_0 : wr.cell? ⟨gb304, 0, none⟩ = some (.slice A0_0 l0_0.length c0_0) := (blk_cell BK304.out 0).trans rfl
            have hcz45_1 : wr.cell? ⟨gb304, 1, none⟩ = some (.slice A0_1 l0_1.length c0_1) := (blk_cell BK304.out 1).trans rfl
            have hfz45_0 := blk_frozen BK304.out 0
            have hfz45_1 := blk_frozen BK304.out 1
            have q46 : (1 : Int) ≤ ((l0_0.length : Int) : Int) := of_decide_eq_true (by first | (with_reducible assumption) | assumption)
            obtain ⟨i046, hi046, _, hsz46, _⟩ := info_parts info3
            have hroom46 : l0_0.length ≤ c0_0 := (Kd.V_reads' HO_305000.out).2.1
            have hC46 : Kd.F (Kd.int .i64) _ _ A0_0 l0_0.length l0_0 := (Kd.V_at (base := w.heap.size) HO_305000.out).2.2
            have hcut46 := cut_from (P := Try.prog) 22 3 .i64 Try.underlying22 hi046 1 hsz46 A0_0 l0_0.length c0_0 1 (by omega) q46
            have hr46 := Kd.F_cut (m := (1 : Int).toNat) (c := c0_0) hC46 (by omega) hroom46
            obtain ⟨A46, hA46⟩ : ∃ A1, A1 = (if c0_0 = (1 : Int).toNat then A0_0 else (A0_0 : Option Addr).map (·.add ((1 : Int).toNat * 1))) := ⟨_, rfl⟩
            obtain ⟨c46, hc46⟩ : ∃ c1, c1 = c0_0 - (1 : Int).toNat := ⟨_, rfl⟩
            have hy46 : y324.length = l0_0.length - (1 : Int).toNat := (by rw [Ny324.out, List.length_drop] <;> omega)
            rw [show (l0_0).drop (1 : Int).toNat = y324 from Ny324.out.symm] at hr46
            replace hr46 : Kd.F (Kd.int .i64) _ _ A46 y324.length y324 := (by rw [hA46]; exact hr46)
            rw [← hy46, ← hA46, ← hc46] at hcut46
            have HO328 := am (show Kd.V (Kd.int .i64) 3 _ w.heap.size _ (.slice A46 y324.length c46) y324 from Kd.V_mk (by rw [hy46, hc46]; exact Nat.sub_le_sub_right hroom46 _) hr46)
            have HC328 := am (show y324.length ≤ c46 from by rw [hy46, hc46]; exact Nat.sub_le_sub_right hroom46 _)
            clear hr46 hC46 hroom46 hi046 hsz46 hc46
            have KY46 := am hy46
            have KA46 := am hA46
            clear hy46 hA46
            replace q46 := eq_true q46
            obtain ⟨Ao47, co47, eo47⟩ := Kd.R_slice HO_10.out
            subst eo47
            have hcz48_0 : wr.cell? ⟨gb305, 0, none⟩ = some (.slice none 0 0) := (blk_cell BK305.out 0).trans rfl
            have hcz48_1 : wr.cell? ⟨gb305, 1, none⟩ = some (.slice none 0 0) := (blk_cell BK305.out 1).trans rfl
            have hfz48_0 := blk_frozen BK305.out 0
            have hfz48_1 := blk_frozen BK305.out 1
            go_wp2
            refine bodyPost_ret (results_ctt rfl _ _ gb305 30 #[.slice A46 y324.length c46, .slice Ao47 x10_3.length co47] (0, 0) _ rfl (by (with_reducible repeat (first | refine blk_drewN ?_ _ | refine blk_drew ?_ | refine blk_alloc ?_ _)); refine blk_put (cs := #[.slice A46 y324.length c46, .slice none 0 0]) ?_ 1 _ rfl; (with_reducible repeat (first | refine blk_drewN ?_ _ | refine blk_drew ?_ | refine blk_alloc ?_ _)); refine blk_put (cs := #[.slice none 0 0, .slice none 0 0]) ?_ 0 _ rfl; (with_reducible repeat (first | refine blk_drewN ?_ _ | refine blk_drew ?_ | refine blk_alloc ?_ _)); exact BK305.out) Try.underlying30 rfl (by kernel_rfl)) rfl ?_
            exact ⟨_, _, by first | rfl | (simp [errW_none, errW_some] <;> rfl) | (simp [*, errW_none, errW_some] <;> rfl), by (with_reducible repeat (first | apply Kd.V_alloc | apply Kd.V_drewN | apply Kd.V_drew)); exact Kd.V_mono (Kd.V_far (p := ⟨gb305, 1, none⟩) (Kd.V_far (p := ⟨gb305, 0, none⟩) (Kd.V_mono HO328.out (fun k_ hk => (⟨hk, hk.2.2.2⟩ : _ ∧ k_ ≠ gb305))) (fun _ hk => hk.2) (.slice A46 y324.length c46)) (fun _ hk => hk.2) (.slice Ao47 x10_3.length co47)) (fun _ hk => hk.1.1), Kd.V_mono (Kd.R_V (Kd.R_mono (ok' := fun k_ => (w.heap.size ≤ k_)) (by (with_reducible repeat (first | apply Kd.R_alloc | apply Kd.R_drewN | apply Kd.R_drew)); exact Kd.R_mono (Kd.R_far (p := ⟨gb305, 1, none⟩) (Kd.R_far (p := ⟨gb305, 0, none⟩) (Kd.R_types HO_10.out BK305.out (by decide)) (fun _ hk => hk.2) (.slice A46 y324.length c46)) (fun _ hk => hk.2) (.slice Ao47 x10_3.length co47)) (fun _ hk => hk.1)) (fun _ h_ => h_))) (fun k_ hk => by first | exact ⟨(.inr (hk.1)), hk.2⟩ | exact (.inr (hk))), by repeat (first | (with_reducible first | exact HB.out | apply below_alloc | apply pw_below_drewN | apply below_drew1 | refine below_set ?_ GE304.out | refine below_set ?_ GE305.out) | exact HB.out)⟩
           ·rw [if_neg c43] at H
            exact absurd H (by simp)
 ·replace c6 := Bool.eq_false_iff.mpr c6
  subst c6
  have H1 : (some (l0_0, l0_1, false, 1)) = some (r1, r2, r3, r4) := by rw [if_neg (show ¬ (false = true) by decide)] at H; exact H
  clear H
  have H := H1
  clear H1
  simp only [Option.some.injEq, Prod.mk.injEq] at H
  obtain ⟨rfl, rfl, rfl, rfl⟩ := H
  go_enter Try.func18, Try.ntmps18
  try go_wp2_with (first | ((with_reducible refine gate_dst (N := 2) rfl ?_); (try (refine gate_guard (by rfl) ?_; dsimp only)); refine box_event ?hg (N := 2) ?hd (cs := #[.slice A0_0 l0_0.length c0_0, .slice A0_1 l0_1.length c0_1]) (t := 30) ?hr ?_; (case hd => rfl); (case hg => rfl); (case hr => first | (go_simp; done) | (go_simp; rfl)); intro gb304 hg w49 hbox hb; replace HO0_0 := zVe HO0_0 hg hb; replace HO0_1 := zVe HO0_1 hg hb; have BK304 := am (hbox); have GW304 := zsz hg (zc0 HB); have GE304 := zsz hg (zc0 HB); replace HB := am (below_step (zc0 HB) hb); clear hb hbox hg) | ((with_reducible refine gate_dst (N := 4) rfl ?_); (try (refine gate_guard (by rfl) ?_; dsimp only)); refine box_event ?hg (N := 4) ?hd (cs := #[.slice none 0 0, .slice none 0 0]) (t := 30) ?hr ?_; (case hd => rfl); (case hg => rfl); (case hr => first | (go_simp; done) | (go_simp; rfl)); intro gb305 hg w50 hbox hb; replace HO0_0 := zVe HO0_0 hg hb; replace HO0_1 := zVe HO0_1 hg hb; have BK305 := am (hbox); have GW305 := zsz hg (zc1 HB GE304); have GE305 := zsz hg (zc1 HB GE304); replace HB := am (below_step (zc1 HB GE304) hb); have NB304_305 := znt BK304 hg; have NB305_304 := zng BK304 hg; replace BK304 := zbb BK304 hb; clear hb hbox hg))
  replace HO0_0 := am (Kd.V_drew HO0_0.out)
  replace HO0_1 := am (Kd.V_drew HO0_1.out)
  replace BK304 := am (blk_drew BK304.out)
  replace BK305 := am (blk_drew BK305.out)
  replace HB := am (below_drew1 HB.out)
  refine start_ (n := 13) (S := fun w' => w'.cell? ⟨gb304, 0, none⟩ = some (.slice A0_0 l0_0.length c0_0) ∧ w'.cell? ⟨gb304, 1, none⟩ = some (.slice A0_1 l0_1.length c0_1)) (ds := []) #[false, false, false, false, false, false, false, false, false, false, false, false, false] (by kernel_rfl) rfl rfl ⟨(blk_cell BK304.out 0).trans rfl, (blk_cell BK304.out 1).trans rfl⟩ (fun hHeld => ?_); refine with_tabW handshakerref20_Leave.tab1 handshakerref20_Leave.bits1 (fun HT_ HW_ => ?_)
  generalize w50.drew = w51 at HO0_0 HO0_1 BK304 BK305 HB hHeld ⊢
  refine pure_ (i := 2) (N := some 14) (v := ?_) (a' := ?_) #[false, false, true, false, false, false, false, false, false, false, false, false, false] rfl rfl (any_of HT_.out (by kernel_rfl)) (fun _ _ _ h => h) (Or.inl ⟨by rfl, ?_⟩) ?_ ?_
  rotate_left
  ·intro w'
   go_simp
   with_reducible rfl
  rotate_left
  ·simp only [Act.put, List.setIfInBounds_toArray, List.set_cons_zero, List.set_cons_succ, i64_w, i32_w]
   rfl
  refine pure_ (i := 4) (N := some 16) (v := ?_) (a' := ?_) #[false, false, true, false, true, false, false, false, false, false, false, false, false] rfl rfl (any_of HT_.out (by kernel_rfl)) (fun _ _ _ h => h) (Or.inl ⟨by rfl, ?_⟩) ?_ ?_
  rotate_left
  ·intro w'
   go_simp
   with_reducible rfl
  rotate_left
  ·simp only [Act.put, List.setIfInBounds_toArray, List.set_cons_zero, List.set_cons_succ, i64_w, i32_w]
   rfl
  refine pure_ (i := 6) (N := some 18) (v := ?_) (a' := ?_) #[false, false, true, false, true, false, true, false, false, false, false, false, false] rfl rfl (any_of HT_.out (by kernel_rfl)) (fun _ _ _ h => h) (Or.inl ⟨by rfl, ?_⟩) ?_ ?_
  rotate_left
  ·intro w'
   go_simp
   with_reducible rfl
  rotate_left
  ·simp only [Act.put, List.setIfInBounds_toArray, List.set_cons_zero, List.set_cons_succ, i64_w, i32_w]
   rfl
  refine pure_ (i := 8) (N := some 20) (v := ?_) (a' := ?_) #[false, false, true, false, true, false, true, false, true, false, false, false, false] rfl rfl (any_of HT_.out (by kernel_rfl)) (fun _ _ _ h => h) (Or.inl ⟨by rfl, ?_⟩) ?_ ?_
  rotate_left
  ·intro w'
   go_simp
   with_reducible rfl
  rotate_left
  ·simp only [Act.put, List.setIfInBounds_toArray, List.set_cons_zero, List.set_cons_succ, i64_w, i32_w]
   rfl
  refine take_ (i := 0) (N := some 12) (v := ?_) (a' := ?_) #[true, false, true, false, true, false, true, false, true, false, false, false, false] rfl rfl (take_ofW HT_.out HW_.out (by kernel_rfl)) (fun _ _ _ h => h) (Or.inl ⟨by rfl, ?_⟩) hHeld ?_ ?_
  rotate_left
  ·rintro w' ⟨s0, s1⟩
   go_simp
   with_reducible rfl
  rotate_left
  ·simp only [Act.put, List.setIfInBounds_toArray, List.set_cons_zero, List.set_cons_succ, i64_w, i32_w]
   rfl
  refine take_ (i := 3) (N := some 15) (v := ?_) (a' := ?_) #[true, false, true, true, true, false, true, false, true, false, false, false, false] rfl rfl (take_ofW HT_.out HW_.out (by kernel_rfl)) (fun _ _ _ h => h) (Or.inl ⟨by rfl, ?_⟩) hHeld ?_ ?_
  rotate_left
  ·rintro w' ⟨s0, s1⟩
   go_simp
   with_reducible rfl
  rotate_left
  ·simp only [Act.put, List.setIfInBounds_toArray, List.set_cons_zero, List.set_cons_succ, i64_w, i32_w]
   rfl
  refine take_ (i := 7) (N := some 19) (v := ?_) (a' := ?_) #[true, false, true, true, true, false, true, true, true, false, false, false, false] rfl rfl (take_ofW HT_.out HW_.out (by kernel_rfl)) (fun _ _ _ h => h) (Or.inl ⟨by rfl, ?_⟩) hHeld ?_ ?_
  rotate_left
  ·rintro w' ⟨s0, s1⟩
   go_simp
   with_reducible rfl
  rotate_left
  ·simp only [Act.put, List.setIfInBounds_toArray, List.set_cons_zero, List.set_cons_succ, i64_w, i32_w]
   rfl
  refine one_ (i := 1) (N := some 13) #[true, true, true, true, true, false, true, true, true, false, false, false, false] rfl rfl (one_of HT_.out (by kernel_rfl)) (by decide) (fun K hK => ?_)
  refine goes_ Try.func20 (by kernel_rfl) rfl #[.agg #[.slice A0_0 l0_0.length c0_0, .slice A0_1 l0_1.length c0_1]] (by rfl) rfl rfl zm ?_
  with_reducible refine (handshakerref20_Right.calls _ _ l0_0 _ _ l0_1 false _ ?side1 ?side2 ?side3 ?side4 A3.out).mono ?_
  (case side1 => repeat (first | exact (Kd.V_reads' HO0_0.out).2.2 | (with_reducible refine Kd.C_alloc ?_ _) | (with_reducible refine Kd.C_drewN ?_ _) | (with_reducible refine Kd.C_drew ?_)))
  (case side2 => exact (Kd.V_reads' HO0_0.out).2.1)
  (case side3 => repeat (first | exact (Kd.V_reads' HO0_1.out).2.2 | (with_reducible refine Kd.C_alloc ?_ _) | (with_reducible refine Kd.C_drewN ?_ _) | (with_reducible refine Kd.C_drew ?_)))
  (case side4 => exact (Kd.V_reads' HO0_1.out).2.1)
  rintro e w52 ⟨rfl, hb⟩
  refine ⟨_, rfl, ?_⟩
  replace HO0_0 := zVb HO0_0 hb
  replace HO0_1 := zVb HO0_1 hb
  replace BK304 := zbb BK304 hb
  replace BK305 := zbb BK305 hb
  replace HB := am (below_step (zc2 HB GE304 GE305) hb)
  (try clear hb)
  (try clear hb2)
  (try clear hk)
  (try clear hi)
  refine hK.out _ _ ⟨(blk_cell BK304.out 0).trans rfl, (blk_cell BK304.out 1).trans rfl⟩ (fun hHeld => ?_)
  clear hK K
  refine norm_ (a' := ?_) ?_ ?_
  rotate_left
  ·show Act.put _ (some 13) _ = _
   simp only [Act.put, List.setIfInBounds_toArray, List.set_cons_zero, List.set_cons_succ, i64_w, i32_w]
   rfl
  refine one_ (i := 5) (N := some 17) #[true, true, true, true, true, true, true, true, true, false, false, false, false] rfl rfl (one_of HT_.out (by kernel_rfl)) (by decide) (fun K hK => ?_)
  refine goes_ Try.func27 (by kernel_rfl) rfl #[.slice A0_0 l0_0.length c0_0, .int .i64 a1] (by rfl) rfl rfl zm ?_
  with_reducible refine (handshakerref20_in.calls k _ _ l0_0 a1 t307 _ ?side1 ?side2 A4.out).mono ?_
  (case side1 => repeat (first | exact (Kd.V_reads' HO0_0.out).2.2 | (with_reducible refine Kd.C_alloc ?_ _) | (with_reducible refine Kd.C_drewN ?_ _) | (with_reducible refine Kd.C_drew ?_)))
  (case side2 => exact (Kd.V_reads' HO0_0.out).2.1)
  rintro e w' ⟨rfl, ⟨nd, rfl⟩⟩
  refine ⟨_, rfl, ?_⟩
  refine hK.out _ _ ⟨(blk_cell BK304.out 0).trans rfl, (blk_cell BK304.out 1).trans rfl⟩ (fun hHeld => ?_)
  clear hK K
  refine norm_ (a' := ?_) ?_ ?_
  rotate_left
  ·show Act.put _ (some 17) _ = _
   simp only [Act.put, List.setIfInBounds_toArray, List.set_cons_zero, List.set_cons_succ, i64_w, i32_w]
   rfl
  refine one_ (i := 9) (N := some 21) #[true, true, true, true, true, true, true, true, true, true, false, false, false] rfl rfl (one_of HT_.out (by kernel_rfl)) (by decide) (fun K hK => ?_)
  refine goes_ Try.func27 (by kernel_rfl) rfl #[.slice A0_1 l0_1.length c0_1, .int .i64 a1] (by rfl) rfl rfl zm ?_
  with_reducible refine (handshakerref20_in.calls k _ _ l0_1 a1 t308 _ ?side1 ?side2 A5.out).mono ?_
  (case side1 => repeat (first | exact (Kd.V_reads' HO0_1.out).2.2 | (with_reducible refine Kd.C_alloc ?_ _) | (with_reducible refine Kd.C_drewN ?_ _) | (with_reducible refine Kd.C_drew ?_)))
  (case side2 => exact (Kd.V_reads' HO0_1.out).2.1)
  rintro e w' ⟨rfl, ⟨nd, rfl⟩⟩
  refine ⟨_, rfl, ?_⟩
  refine hK.out _ _ ⟨(blk_cell BK304.out 0).trans rfl, (blk_cell BK304.out 1).trans rfl⟩ (fun hHeld => ?_)
  clear hK K
  refine norm_ (a' := ?_) ?_ ?_
  rotate_left
  ·show Act.put _ (some 21) _ = _
   simp only [Act.put, List.setIfInBounds_toArray, List.set_cons_zero, List.set_cons_succ, i64_w, i32_w]
   rfl
  refine pure_ (i := 10) (N := some 7) (v := ?_) (a' := ?_) #[true, true, true, true, true, true, true, true, true, true, true, false, false] rfl rfl (any_of HT_.out (by kernel_rfl)) (fun _ _ _ h => h) (Or.inl ⟨by rfl, ?_⟩) ?_ ?_
  rotate_left
  ·intro w'
   go_simp
   with_reducible rfl
  rotate_left
  ·simp only [Act.put, List.setIfInBounds_toArray, List.set_cons_zero, List.set_cons_succ, i64_w, i32_w]
   rfl
  refine pure_ (i := 11) (N := some 8) (v := ?_) (a' := ?_) #[true, true, true, true, true, true, true, true, true, true, true, true, false] rfl rfl (any_of HT_.out (by kernel_rfl)) (fun _ _ _ h => h) (Or.inl ⟨by rfl, ?_⟩) ?_ ?_
  rotate_left
  ·intro w'
   go_simp
   with_reducible rfl
  rotate_left
  ·simp only [Act.put, List.setIfInBounds_toArray, List.set_cons_zero, List.set_cons_succ, i64_w, i32_w]
   rfl
  refine pure_ (i := 12) (N := some 9) (v := ?_) (a' := ?_) #[true, true, true, true, true, true, true, true, true, true, true, true, true] rfl rfl (any_of HT_.out (by kernel_rfl)) (fun _ _ _ h => h) (Or.inl ⟨by rfl, ?_⟩) ?_ ?_
  rotate_left
  ·intro w'
   go_simp
   with_reducible rfl
  rotate_left
  ·simp only [Act.put, List.setIfInBounds_toArray, List.set_cons_zero, List.set_cons_succ, i64_w, i32_w]
   rfl
  refine done_ (done_of HT_.out (by kernel_rfl)) ?_
  have hnb53 := NB304_305.out
  have hnc53 := NB305_304.out
  have hcz54_0 : w52.cell? ⟨gb304, 0, none⟩ = some (.slice A0_0 l0_0.length c0_0) := (blk_cell BK304.out 0).trans rfl
  have hcz54_1 : w52.cell? ⟨gb304, 1, none⟩ = some (.slice A0_1 l0_1.length c0_1) := (blk_cell BK304.out 1).trans rfl
  have hfz54_0 := blk_frozen BK304.out 0
  have hfz54_1 := blk_frozen BK304.out 1
  have hcz55_0 : w52.cell? ⟨gb305, 0, none⟩ = some (.slice none 0 0) := (blk_cell BK305.out 0).trans rfl
  have hcz55_1 : w52.cell? ⟨gb305, 1, none⟩ = some (.slice none 0 0) := (blk_cell BK305.out 1).trans rfl
  have hfz55_0 := blk_frozen BK305.out 0
  have hfz55_1 := blk_frozen BK305.out 1
  try go_wp2
  refine bodyPost_ret (results_ctt rfl _ _ gb305 30 #[.slice A0_0 l0_0.length c0_0, .slice A0_1 l0_1.length c0_1] (0, 0) _ rfl (by (with_reducible repeat (first | refine blk_drewN ?_ _ | refine blk_drew ?_ | refine blk_alloc ?_ _)); refine blk_put (cs := #[.slice A0_0 l0_0.length c0_0, .slice none 0 0]) ?_ 1 _ rfl; (with_reducible repeat (first | refine blk_drewN ?_ _ | refine blk_drew ?_ | refine blk_alloc ?_ _)); refine blk_put (cs := #[.slice none 0 0, .slice none 0 0]) ?_ 0 _ rfl; (with_reducible repeat (first | refine blk_drewN ?_ _ | refine blk_drew ?_ | refine blk_alloc ?_ _)); exact BK305.out) Try.underlying30 rfl (by kernel_rfl)) rfl ?_
  exact ⟨_, _, by first | rfl | (simp [errW_none, errW_some] <;> rfl) | (simp [*, errW_none, errW_some] <;> rfl), by (with_reducible repeat (first | apply Kd.V_alloc | apply Kd.V_drewN | apply Kd.V_drew)); exact Kd.V_mono (Kd.V_far (p := ⟨gb305, 1, none⟩) (Kd.V_far (p := ⟨gb305, 0, none⟩) (Kd.V_mono HO0_0.out (fun k_ hk => (⟨hk, hk.2⟩ : _ ∧ k_ ≠ gb305))) (fun _ hk => hk.2) (.slice A0_0 l0_0.length c0_0)) (fun _ hk => hk.2) (.slice A0_1 l0_1.length c0_1)) (fun _ hk => hk.1.1.1), by (with_reducible repeat (first | apply Kd.V_alloc | apply Kd.V_drewN | apply Kd.V_drew)); exact Kd.V_mono (Kd.V_far (p := ⟨gb305, 1, none⟩) (Kd.V_far (p := ⟨gb305, 0, none⟩) (Kd.V_mono HO0_1.out (fun k_ hk => (⟨hk, hk.2⟩ : _ ∧ k_ ≠ gb305))) (fun _ hk => hk.2) (.slice A0_0 l0_0.length c0_0)) (fun _ hk => hk.2) (.slice A0_1 l0_1.length c0_1)) (fun _ hk => hk.1.1.1), by repeat (first | (with_reducible first | exact HB.out | apply below_alloc | apply pw_below_drewN | apply below_drew1 | refine below_set ?_ GE304.out | refine below_set ?_ GE305.out) | exact HB.out)⟩

end Go.Proofs.Ytllmfahkiabkcaa.PCondTells
