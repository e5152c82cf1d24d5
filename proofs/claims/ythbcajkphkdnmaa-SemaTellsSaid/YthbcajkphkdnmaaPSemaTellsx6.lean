/- Lean functions that say what functions of the given program compute, and proofs by walking the code that each call does just that; no condition but those that each statement names. -/
import Derived.Test.YthbcajkphkdnmaaPSemaTellsx0
import Derived.Test.YthbcajkphkdnmaaPSemaTellsx3
import Derived.Test.YthbcajkphkdnmaaPSemaTellsx4
import Derived.Test.YthbcajkphkdnmaaPSemaTellsx5
namespace Go.Proofs.Ythbcajkphkdnmaa.PSemaTells
open Go.RowKit Go.Proofs.YthbcajkphkdnmaaW.PrintWords Go.Proofs.YthbcajkphkdnmaaW.PrintLast Go.Proofs.YthbcajkphkdnmaaW.PrintMore
attribute [local go_sem] max2_int min2_int max_two min_two max_three min_three max_four min_four   -- for this text's walks alone
set_option linter.unusedVariables false
set_option linter.unusedSimpArgs false

/-! ### sema_Take: function 11 -/
def sema_Take.j0 : Nat → Int → Int → Bool → Int → Int → List (S50) → Int → Int → Option (Int × Int × (List (S50)) × Bool × Int)
 | 0, _, _, _, _, _, _, _, _ => none
 | k + 1, x1, x2, x13, x111000, x111001, x111002, x113000, x113001 => if x13 = true then (some (x111000, x111001, x111002, false, 1)) else ((any_sema_is_1.f x111002 x1).bind fun t116 => (if t116 = true then (some (x111000, x111001, x111002, false, 9)) else (if (x111002.length : Int) = 0 then (if x2 ≤ x111001 then (some (x111000, wrap64 (x111001 - x2), x111002, true, 0)) else ((sema_Ask_26.f x111002).bind fun t117 => ((some (([(⟨x113000, x113001⟩ : S50)] : List (S50)) : List (S50))).bind fun y120 => (if t117.length + y120.length < 8796093022208 then (some (x111000, x111001, (t117 ++ y120), false, 0)) else (none))))) else ((sema_Ask_26.f x111002).bind fun t126 => ((some (([(⟨x113000, x113001⟩ : S50)] : List (S50)) : List (S50))).bind fun y129 => (if t126.length + y129.length < 8796093022208 then (some (x111000, x111001, (t126 ++ y129), false, 0)) else (none)))))))
def sema_Take.f (k : Nat) (a0_0 : Int) (a0_1 : Int) (l0_2 : List (S50)) (a1 : Int) (a2 : Int) : Option (Int × Int × (List (S50)) × Bool × Int) := (sema_Right.f k a0_0 a0_1 l0_2).bind fun t113 => (if t113 = true then ((sema_Sema_may.f a0_0 a0_1 l0_2 a1 a2).bind fun t114 => (sema_Take.j0 k a1 a2 (!t114) a0_0 a0_1 l0_2 a1 a2)) else (sema_Take.j0 k a1 a2 true a0_0 a0_1 l0_2 a1 a2))
theorem sema_Take.mono_l : ∀ k, (∀ y0 y1 y2 y3 y4 y5 y6 y7, LeO (sema_Take.j0 k y0 y1 y2 y3 y4 y5 y6 y7) (sema_Take.j0 (k + 1) y0 y1 y2 y3 y4 y5 y6 y7))
 | 0 => fun _ _ _ _ _ _ _ _ r h => by simp [sema_Take.j0] at h
 | k + 1 => by
  have ih0 := sema_Take.mono_l k
  ·intro y0 y1 y2 y3 y4 y5 y6 y7
   unfold sema_Take.j0
   repeat' first
   | (with_reducible exact ih0 _ _ _ _ _ _ _ _)
   | (with_reducible exact sema_Right.mono _ _ _ _)
   | (with_reducible exact LeO.refl _)
   | (with_reducible exact LeO.none _)
   | (with_reducible refine LeO.ite ?_ ?_)
   | (with_reducible refine LeO.bind ?_ (fun _ => ?_))
   | exact ih0 _ _ _ _ _ _ _ _
   | exact sema_Right.mono _ _ _ _
   | exact LeO.none _
   | refine LeO.ite ?_ ?_
   | refine LeO.bind ?_ (fun _ => ?_)
theorem sema_Take.mono : ∀ a0 a1 a2 a3 a4 k, LeO (sema_Take.f k a0 a1 a2 a3 a4) (sema_Take.f (k + 1) a0 a1 a2 a3 a4) := by
 intro a0 a1 a2 a3 a4 k
 have ih0 := sema_Take.mono_l k
 unfold sema_Take.f
 repeat' first
   | (with_reducible exact ih0 _ _ _ _ _ _ _ _)
   | (with_reducible exact sema_Right.mono _ _ _ _)
   | (with_reducible exact LeO.refl _)
   | (with_reducible exact LeO.none _)
   | (with_reducible refine LeO.ite ?_ ?_)
   | (with_reducible refine LeO.bind ?_ (fun _ => ?_))
   | exact ih0 _ _ _ _ _ _ _ _
   | exact sema_Right.mono _ _ _ _
   | exact LeO.none _
   | refine LeO.ite ?_ ?_
   | refine LeO.bind ?_ (fun _ => ?_)
def sema_Take.T9 : Bool × List (List Nat × List Nat) := (true, [([], []), ([0], [0]), ([1], [1]), ([], []), ([3], [3]), ([2, 4, 2], [2, 4]), ([0, 1, 2, 3, 4, 5], []), ([6, 5, 5, 0, 1, 2, 3, 4, 5], [5, 6])])
def sema_Take.B9 : List Nat := [0, 1, 3, 0, 8, 31, 63, 127]
theorem sema_Take.tab9 : rtab .any (opsOf Try.f11 9) = sema_Take.T9 := by kernel_rfl
theorem sema_Take.bits9 : waitsOk sema_Take.T9.2 sema_Take.B9 = true := by kernel_rfl
set_option maxHeartbeats 8000000 in
set_option maxRecDepth 100000 in
theorem sema_Take.calls (k : Nat) (a0_0 : Int) (a0_1 : Int) (P0_2_ : Nat → Prop) (A0_2 : Option Addr) (c0_2 : Nat) (l0_2 : List (S50)) (a1 : Int) (a2 : Int) (r1 : Int) (r2 : Int) (r3 : List (S50)) (r4 : Bool) (r5 : Int) (w : World) (hs0_2 : Kd.V k50 50 w w.heap.size (fun k_ => P0_2_ k_) (.slice A0_2 l0_2.length c0_2) l0_2) (h : sema_Take.f k a0_0 a0_1 l0_2 a1 a2 = some (r1, r2, r3, r4, r5)) :
  Calls Try.prog 11 #[.agg #[.int .i64 a0_0, .int .i64 a0_1, .slice A0_2 l0_2.length c0_2], .int .i64 a1, .int .i64 a2] w fun e w' => ∃ v2_ : Value, e = .returned (.tuple #[.agg #[.int .i64 r1, .int .i64 r2, v2_], .bool r4, .int .i64 r5]) ∧ Kd.V k50 50 w' w.heap.size (fun k_ => (P0_2_ k_ ∨ w.heap.size ≤ k_)) v2_ r3 ∧ Below w.heap.size w w' := by
 have hu24 := Try.underlying24
 have hu50 := Try.underlying50
 have HO0_2 := am (show Kd.V k50 50 w w.heap.size (fun k_ => (P0_2_ k_ ∨ w.heap.size ≤ k_)) (.slice A0_2 l0_2.length c0_2) l0_2 from Kd.V_mono hs0_2 (fun k_ hk => .inl hk))
 have HB := am (Below.refl w.heap.size w)
 have H : ((sema_Right.f k a0_0 a0_1 l0_2).bind fun t113 => (if t113 = true then ((sema_Sema_may.f a0_0 a0_1 l0_2 a1 a2).bind fun t114 => (sema_Take.j0 k a1 a2 (!t114) a0_0 a0_1 l0_2 a1 a2)) else (sema_Take.j0 k a1 a2 true a0_0 a0_1 l0_2 a1 a2))) = some (r1, r2, r3, r4, r5) := h
 clear h
 have HC4 := am H
 clear H
 go_enter Try.func11, Try.ntmps11
 go_upto_region 2 with (first | ((with_reducible refine gate_dst (N := 3) rfl ?_); refine box_event ?hg (N := 3) ?hd (cs := #[.int .i64 a0_0, .int .i64 a0_1, .slice A0_2 l0_2.length c0_2]) (t := 24) ?hr ?_; (case hd => rfl); (case hg => rfl); (case hr => first | (go_simp; done) | (go_simp; rfl)); intro gb110 hg w5 hbox hb; replace HO0_2 := zVe HO0_2 hg hb; have BK110 := am (hbox); have GW110 := zsz hg (zc0 HB); have GE110 := zsz hg (zc0 HB); replace HB := am (below_step (zc0 HB) hb); clear hb hbox hg) | ((with_reducible refine gate_dst (N := 6) rfl ?_); refine box_event ?hg (N := 6) ?hd (cs := #[.int .i64 0, .int .i64 0, .slice none 0 0]) (t := 24) ?hr ?_; (case hd => rfl); (case hg => rfl); (case hr => first | (go_simp; done) | (go_simp; rfl)); intro gb111 hg w6 hbox hb; replace HO0_2 := zVe HO0_2 hg hb; have BK111 := am (hbox); have GW111 := zsz hg (zc1 HB GE110); have GE111 := zsz hg (zc1 HB GE110); replace HB := am (below_step (zc1 HB GE110) hb); have NB110_111 := znt BK110 hg; have NB111_110 := zng BK110 hg; replace BK110 := zbb BK110 hb; clear hb hbox hg) | ((with_reducible refine gate_dst (N := 9) rfl ?_); refine box_event ?hg (N := 9) ?hd (cs := #[.int .i64 0, .int .i64 0]) (t := 50) ?hr ?_; (case hd => rfl); (case hg => rfl); (case hr => first | (go_simp; done) | (go_simp; rfl)); intro gb112 hg w7 hbox hb; replace HO0_2 := zVe HO0_2 hg hb; have BK112 := am (hbox); have GW112 := zsz hg (zc2 HB GE110 GE111); have GE112 := zsz hg (zc2 HB GE110 GE111); replace HB := am (below_step (zc2 HB GE110 GE111) hb); have NB110_112 := znt BK110 hg; have NB112_110 := zng BK110 hg; replace BK110 := zbb BK110 hb; have NB111_112 := znt BK111 hg; have NB112_111 := zng BK111 hg; replace BK111 := zbb BK111 hb; clear hb hbox hg; have hnb8 := NB112_110.out; have hnc8 := NB110_112.out; have hnb9 := NB112_111.out; have hnc9 := NB111_112.out; have hcz10_0 : w7.cell? ⟨gb112, 0, none⟩ = some (.int .i64 0) := (blk_cell BK112.out 0).trans rfl; have hcz10_1 : w7.cell? ⟨gb112, 1, none⟩ = some (.int .i64 0) := (blk_cell BK112.out 1).trans rfl; have hfz10_0 := blk_frozen BK112.out 0; have hfz10_1 := blk_frozen BK112.out 1))
 (try simp only [Act.put, List.setIfInBounds_toArray, List.set_cons_zero, List.set_cons_succ])
 go_cut [13] (fun v13 wc => ∃ (kq : Nat) (x13_3 : Bool), v13 = .bool x13_3 ∧ Aside0 (sema_Take.j0 kq a1 a2 x13_3 a0_0 a0_1 l0_2 a1 a2 = some (r1, r2, r3, r4, r5)) ∧ Aside0 (kq ≤ k) ∧ Aside0 (Kd.V k50 50 wc w.heap.size (fun k_ => (P0_2_ k_ ∨ w.heap.size ≤ k_) ∧ k_ ≠ gb110 ∧ k_ ≠ gb111 ∧ k_ ≠ gb112) (.slice A0_2 l0_2.length c0_2) l0_2) ∧ Aside0 (wc.heap[gb110]? = some (.cells #[.int .i64 a0_0, .int .i64 a0_1, (.slice A0_2 l0_2.length c0_2)] 24 (0, 0))) ∧ Aside0 (wc.heap[gb111]? = some (.cells #[.int .i64 0, .int .i64 0, (.slice none 0 0)] 24 (0, 0))) ∧ Aside0 (wc.heap[gb112]? = some (.cells #[.int .i64 a1, .int .i64 a2] 50 (0, 0))) ∧ Aside0 (Below w.heap.size w wc))
 case first =>
  have H := HC4.out
  clear HC4
  replace H := Option.bind_eq_some_iff.mp H
  obtain ⟨t113, A110, H⟩ := H
  try dsimp only at H
  have A11 := am A110
  clear A110
  by_cases c12 : t113 = true
  ·subst c12
   have H1 : ((sema_Sema_may.f a0_0 a0_1 l0_2 a1 a2).bind fun t114 => (sema_Take.j0 k a1 a2 (!t114) a0_0 a0_1 l0_2 a1 a2)) = some (r1, r2, r3, r4, r5) := by rw [if_pos rfl] at H; exact H
   clear H
   have H := H1
   clear H1
   replace H := Option.bind_eq_some_iff.mp H
   obtain ⟨t114, A130, H⟩ := H
   try dsimp only at H
   have A13 := am A130
   clear A130
   have H' := am H
   clear H
   have hnb14 := NB110_111.out
   have hnc14 := NB111_110.out
   have hnb15 := NB110_112.out
   have hnc15 := NB112_110.out
   have hcz16_0 : w7.cell? ⟨gb110, 0, none⟩ = some (.int .i64 a0_0) := (blk_cell BK110.out 0).trans rfl
   have hcz16_1 : w7.cell? ⟨gb110, 1, none⟩ = some (.int .i64 a0_1) := (blk_cell BK110.out 1).trans rfl
   have hcz16_2 : w7.cell? ⟨gb110, 2, none⟩ = some (.slice A0_2 l0_2.length c0_2) := (blk_cell BK110.out 2).trans rfl
   have hfz16_0 := blk_frozen BK110.out 0
   have hfz16_1 := blk_frozen BK110.out 1
   have hfz16_2 := blk_frozen BK110.out 2
   go_wp2_with (first | ((with_reducible refine gate_callee (f := 19) rfl ?_); refine goesL_ (some 15) rfl rfl Try.func19 (by kernel_rfl) rfl #[.agg #[.int .i64 a0_0, .int .i64 a0_1, .slice A0_2 l0_2.length c0_2]] rfl zm ?_; (with_reducible refine (sema_Right.calls k a0_0 a0_1 _ _ l0_2 true _ ?side1 ?side2 A11.out).mono ?_); (case side1 => refine (Kd.V_reads' (e := 50) (base := w.heap.size) (ok := fun k_ => (((((P0_2_ k_ ∨ w.heap.size ≤ k_)) ∧ k_ ≠ gb110) ∧ k_ ≠ gb111) ∧ k_ ≠ gb112)) (n := l0_2.length) (c := c0_2) ?_).2.2; exact (by (with_reducible repeat (first | apply Kd.V_alloc | apply Kd.V_drewN | apply Kd.V_drew)); exact (Kd.V_mono (Kd.V_far (p := ⟨gb112, 1, none⟩) (Kd.V_far (p := ⟨gb112, 0, none⟩) (Kd.V_mono HO0_2.out (fun k_ hk => (⟨hk, hk.2⟩ : _ ∧ k_ ≠ gb112))) (fun _ hk => hk.2) (.int .i64 a1)) (fun _ hk => hk.2) (.int .i64 a2)) (fun _ h_ => h_.1)))); (case side2 => exact (Kd.V_reads' HO0_2.out).2.1); rintro e w17 ⟨rfl, hb⟩; refine ⟨_, rfl, ?_⟩; replace HO0_2 := am (Kd.V_below (by (with_reducible repeat (first | apply Kd.V_alloc | apply Kd.V_drewN | apply Kd.V_drew)); exact (Kd.V_mono (Kd.V_far (p := ⟨gb112, 1, none⟩) (Kd.V_far (p := ⟨gb112, 0, none⟩) (Kd.V_mono HO0_2.out (fun k_ hk => (⟨hk, hk.2⟩ : _ ∧ k_ ≠ gb112))) (fun _ hk => hk.2) (.int .i64 a1)) (fun _ hk => hk.2) (.int .i64 a2)) (fun _ h_ => h_.1))) hb); replace BK110 := am (blk_below (g := gb110) (o := .cells #[.int .i64 a0_0, .int .i64 a0_1, .slice A0_2 l0_2.length c0_2] 24 (0, 0)) (by (with_reducible repeat (first | refine blk_drewN ?_ _ | refine blk_drew ?_ | refine blk_alloc ?_ _)); refine blk_far ?_ NB110_112.out _; (with_reducible repeat (first | refine blk_drewN ?_ _ | refine blk_drew ?_ | refine blk_alloc ?_ _)); refine blk_far ?_ NB110_112.out _; (with_reducible repeat (first | refine blk_drewN ?_ _ | refine blk_drew ?_ | refine blk_alloc ?_ _)); exact BK110.out) hb); replace BK111 := am (blk_below (g := gb111) (o := .cells #[.int .i64 0, .int .i64 0, .slice none 0 0] 24 (0, 0)) (by (with_reducible repeat (first | refine blk_drewN ?_ _ | refine blk_drew ?_ | refine blk_alloc ?_ _)); refine blk_far ?_ NB111_112.out _; (with_reducible repeat (first | refine blk_drewN ?_ _ | refine blk_drew ?_ | refine blk_alloc ?_ _)); refine blk_far ?_ NB111_112.out _; (with_reducible repeat (first | refine blk_drewN ?_ _ | refine blk_drew ?_ | refine blk_alloc ?_ _)); exact BK111.out) hb); replace BK112 := am (blk_below (g := gb112) (o := .cells #[.int .i64 a1, .int .i64 a2] 50 (0, 0)) (by (with_reducible repeat (first | refine blk_drewN ?_ _ | refine blk_drew ?_ | refine blk_alloc ?_ _)); refine blk_put (cs := #[.int .i64 a1, .int .i64 0]) ?_ 1 _ rfl; (with_reducible repeat (first | refine blk_drewN ?_ _ | refine blk_drew ?_ | refine blk_alloc ?_ _)); refine blk_put (cs := #[.int .i64 0, .int .i64 0]) ?_ 0 _ rfl; (with_reducible repeat (first | refine blk_drewN ?_ _ | refine blk_drew ?_ | refine blk_alloc ?_ _)); exact BK112.out) hb); replace HB := am (below_step (zc3 HB GE110 GE111 GE112) hb); (try clear hb); (try clear hb2); (try clear hk); (try clear hi); have hcz18_0 : w17.cell? ⟨gb110, 0, none⟩ = some (.int .i64 a0_0) := (blk_cell BK110.out 0).trans rfl; have hcz18_1 : w17.cell? ⟨gb110, 1, none⟩ = some (.int .i64 a0_1) := (blk_cell BK110.out 1).trans rfl; have hcz18_2 : w17.cell? ⟨gb110, 2, none⟩ = some (.slice A0_2 l0_2.length c0_2) := (blk_cell BK110.out 2).trans rfl; have hfz18_0 := blk_frozen BK110.out 0; have hfz18_1 := blk_frozen BK110.out 1; have hfz18_2 := blk_frozen BK110.out 2; have hnb19 := NB112_111.out; have hnc19 := NB111_112.out; have hcz20_0 : w17.cell? ⟨gb112, 0, none⟩ = some (.int .i64 a1) := (blk_cell BK112.out 0).trans rfl; have hcz20_1 : w17.cell? ⟨gb112, 1, none⟩ = some (.int .i64 a2) := (blk_cell BK112.out 1).trans rfl; have hfz20_0 := blk_frozen BK112.out 0; have hfz20_1 := blk_frozen BK112.out 1) | (go_at_call 23; (with_reducible refine (sema_Sema_may.calls a0_0 a0_1 _ _ l0_2 a1 a2 t114 _ ?side1 ?side2 A13.out).mono ?_); (case side1 => repeat (first | exact (Kd.V_reads' HO0_2.out).2.2 | (with_reducible refine Kd.C_alloc ?_ _) | (with_reducible refine Kd.C_drewN ?_ _) | (with_reducible refine Kd.C_drew ?_))); (case side2 => exact (Kd.V_reads' HO0_2.out).2.1); rintro e w21 ⟨rfl, hb⟩; replace HO0_2 := zVb HO0_2 hb; replace BK110 := zbb BK110 hb; replace BK111 := zbb BK111 hb; replace BK112 := zbb BK112 hb; replace HB := am (below_step (zc3 HB GE110 GE111 GE112) hb); (try clear hb); (try clear hb2); (try clear hk); (try clear hi)))
   go_meet
   case rel => exact ⟨_, (!t114), (by first | rfl | (simp; done) | (simp [*]; done)), H', ⟨by first | omega | exact Nat.le_refl _⟩, ⟨by (with_reducible repeat (first | apply Kd.V_alloc | apply Kd.V_drewN | apply Kd.V_drew)); exact Kd.V_mono HO0_2.out (fun _ hk => ⟨hk.1.1.1, ⟨hk.1.1.2, ⟨hk.1.2, hk.2⟩⟩⟩)⟩, ⟨by (with_reducible repeat (first | refine blk_drewN ?_ _ | refine blk_drew ?_ | refine blk_alloc ?_ _)); exact BK110.out⟩, ⟨by (with_reducible repeat (first | refine blk_drewN ?_ _ | refine blk_drew ?_ | refine blk_alloc ?_ _)); exact BK111.out⟩, ⟨by (with_reducible repeat (first | refine blk_drewN ?_ _ | refine blk_drew ?_ | refine blk_alloc ?_ _)); exact BK112.out⟩, ⟨by repeat (first | (with_reducible first | exact HB.out | apply below_alloc | apply pw_below_drewN | apply below_drew1 | refine below_set ?_ GE110.out | refine below_set ?_ GE111.out | refine below_set ?_ GE112.out) | exact HB.out)⟩⟩
  ·replace c12 := Bool.eq_false_iff.mpr c12
   subst c12
   have H1 : (sema_Take.j0 k a1 a2 true a0_0 a0_1 l0_2 a1 a2) = some (r1, r2, r3, r4, r5) := by rw [if_neg (show ¬ (false = true) by decide)] at H; exact H
   clear H
   have H := H1
   clear H1
   have H' := am H
   clear H
   have hnb22 := NB110_111.out
   have hnc22 := NB111_110.out
   have hnb23 := NB110_112.out
   have hnc23 := NB112_110.out
   have hcz24_0 : w7.cell? ⟨gb110, 0, none⟩ = some (.int .i64 a0_0) := (blk_cell BK110.out 0).trans rfl
   have hcz24_1 : w7.cell? ⟨gb110, 1, none⟩ = some (.int .i64 a0_1) := (blk_cell BK110.out 1).trans rfl
   have hcz24_2 : w7.cell? ⟨gb110, 2, none⟩ = some (.slice A0_2 l0_2.length c0_2) := (blk_cell BK110.out 2).trans rfl
   have hfz24_0 := blk_frozen BK110.out 0
   have hfz24_1 := blk_frozen BK110.out 1
   have hfz24_2 := blk_frozen BK110.out 2
   go_wp2_with (first | ((with_reducible refine gate_callee (f := 19) rfl ?_); refine goesL_ (some 15) rfl rfl Try.func19 (by kernel_rfl) rfl #[.agg #[.int .i64 a0_0, .int .i64 a0_1, .slice A0_2 l0_2.length c0_2]] rfl zm ?_; (with_reducible refine (sema_Right.calls k a0_0 a0_1 _ _ l0_2 false _ ?side1 ?side2 A11.out).mono ?_); (case side1 => refine (Kd.V_reads' (e := 50) (base := w.heap.size) (ok := fun k_ => (((((P0_2_ k_ ∨ w.heap.size ≤ k_)) ∧ k_ ≠ gb110) ∧ k_ ≠ gb111) ∧ k_ ≠ gb112)) (n := l0_2.length) (c := c0_2) ?_).2.2; exact (by (with_reducible repeat (first | apply Kd.V_alloc | apply Kd.V_drewN | apply Kd.V_drew)); exact (Kd.V_mono (Kd.V_far (p := ⟨gb112, 1, none⟩) (Kd.V_far (p := ⟨gb112, 0, none⟩) (Kd.V_mono HO0_2.out (fun k_ hk => (⟨hk, hk.2⟩ : _ ∧ k_ ≠ gb112))) (fun _ hk => hk.2) (.int .i64 a1)) (fun _ hk => hk.2) (.int .i64 a2)) (fun _ h_ => h_.1)))); (case side2 => exact (Kd.V_reads' HO0_2.out).2.1); rintro e w25 ⟨rfl, hb⟩; refine ⟨_, rfl, ?_⟩; replace HO0_2 := am (Kd.V_below (by (with_reducible repeat (first | apply Kd.V_alloc | apply Kd.V_drewN | apply Kd.V_drew)); exact (Kd.V_mono (Kd.V_far (p := ⟨gb112, 1, none⟩) (Kd.V_far (p := ⟨gb112, 0, none⟩) (Kd.V_mono HO0_2.out (fun k_ hk => (⟨hk, hk.2⟩ : _ ∧ k_ ≠ gb112))) (fun _ hk => hk.2) (.int .i64 a1)) (fun _ hk => hk.2) (.int .i64 a2)) (fun _ h_ => h_.1))) hb); replace BK110 := am (blk_below (g := gb110) (o := .cells #[.int .i64 a0_0, .int .i64 a0_1, .slice A0_2 l0_2.length c0_2] 24 (0, 0)) (by (with_reducible repeat (first | refine blk_drewN ?_ _ | refine blk_drew ?_ | refine blk_alloc ?_ _)); refine blk_far ?_ NB110_112.out _; (with_reducible repeat (first | refine blk_drewN ?_ _ | refine blk_drew ?_ | refine blk_alloc ?_ _)); refine blk_far ?_ NB110_112.out _; (with_reducible repeat (first | refine blk_drewN ?_ _ | refine blk_drew ?_ | refine blk_alloc ?_ _)); exact BK110.out) hb); replace BK111 := am (blk_below (g := gb111) (o := .cells #[.int .i64 0, .int .i64 0, .slice none 0 0] 24 (0, 0)) (by (with_reducible repeat (first | refine blk_drewN ?_ _ | refine blk_drew ?_ | refine blk_alloc ?_ _)); refine blk_far ?_ NB111_112.out _; (with_reducible repeat (first | refine blk_drewN ?_ _ | refine blk_drew ?_ | refine blk_alloc ?_ _)); refine blk_far ?_ NB111_112.out _; (with_reducible repeat (first | refine blk_drewN ?_ _ | refine blk_drew ?_ | refine blk_alloc ?_ _)); exact BK111.out) hb); replace BK112 := am (blk_below (g := gb112) (o := .cells #[.int .i64 a1, .int .i64 a2] 50 (0, 0)) (by (with_reducible repeat (first | refine blk_drewN ?_ _ | refine blk_drew ?_ | refine blk_alloc ?_ _)); refine blk_put (cs := #[.int .i64 a1, .int .i64 0]) ?_ 1 _ rfl; (with_reducible repeat (first | refine blk_drewN ?_ _ | refine blk_drew ?_ | refine blk_alloc ?_ _)); refine blk_put (cs := #[.int .i64 0, .int .i64 0]) ?_ 0 _ rfl; (with_reducible repeat (first | refine blk_drewN ?_ _ | refine blk_drew ?_ | refine blk_alloc ?_ _)); exact BK112.out) hb); replace HB := am (below_step (zc3 HB GE110 GE111 GE112) hb); (try clear hb); (try clear hb2); (try clear hk); (try clear hi)))
   go_meet
   case rel => exact ⟨_, (true), (by first | rfl | (simp; done) | (simp [*]; done)), H', ⟨by first | omega | exact Nat.le_refl _⟩, ⟨by (with_reducible repeat (first | apply Kd.V_alloc | apply Kd.V_drewN | apply Kd.V_drew)); exact Kd.V_mono HO0_2.out (fun _ hk => ⟨hk.1.1.1, ⟨hk.1.1.2, ⟨hk.1.2, hk.2⟩⟩⟩)⟩, ⟨by (with_reducible repeat (first | refine blk_drewN ?_ _ | refine blk_drew ?_ | refine blk_alloc ?_ _)); exact BK110.out⟩, ⟨by (with_reducible repeat (first | refine blk_drewN ?_ _ | refine blk_drew ?_ | refine blk_alloc ?_ _)); exact BK111.out⟩, ⟨by (with_reducible repeat (first | refine blk_drewN ?_ _ | refine blk_drew ?_ | refine blk_alloc ?_ _)); exact BK112.out⟩, ⟨by repeat (first | (with_reducible first | exact HB.out | apply below_alloc | apply pw_below_drewN | apply below_drew1 | refine below_set ?_ GE110.out | refine below_set ?_ GE111.out | refine below_set ?_ GE112.out) | exact HB.out)⟩⟩
 case rest =>
  clear HC4
  try clear c1
  try clear c2
  try clear p2
  try clear c8
  try clear c9
  try clear c11
  try clear c12
  try clear c14
  try clear c15
  try clear c19
  try clear c22
  try clear c23
  try clear hcz10_0
  try clear hcz10_1
  try clear hcz16_0
  try clear hcz16_1
  try clear hcz16_2
  try clear hcz18_0
  try clear hcz18_1
  try clear hcz18_2
  try clear hcz20_0
  try clear hcz20_1
  try clear hcz24_0
  try clear hcz24_1
  try clear hcz24_2
  try clear hfz10_0
  try clear hfz10_1
  try clear hfz16_0
  try clear hfz16_1
  try clear hfz16_2
  try clear hfz18_0
  try clear hfz18_1
  try clear hfz18_2
  try clear hfz20_0
  try clear hfz20_1
  try clear hfz24_0
  try clear hfz24_1
  try clear hfz24_2
  obtain ⟨kq, x13_3, rfl, HA, HJ3, HO_111002, BK110, BK111, BK112, HB⟩ := hcut
  cases kq with
  | zero => exact absurd HA.out (by simp [sema_Take.j0])
  | succ kj3 =>
   have H := HA.out
   clear HA
   simp only [sema_Take.j0] at H
   by_cases c26 : x13_3 = true
   ·subst c26
    have H1 : (some (a0_0, a0_1, l0_2, false, 1)) = some (r1, r2, r3, r4, r5) := by rw [if_pos rfl] at H; exact H
    clear H
    have H := H1
    clear H1
    simp only [Option.some.injEq, Prod.mk.injEq] at H
    obtain ⟨rfl, rfl, rfl, rfl, rfl⟩ := H
    have hnb27 := NB110_111.out
    have hnc27 := NB111_110.out
    have hnb28 := NB110_112.out
    have hnc28 := NB112_110.out
    have hcz29_0 : wc.cell? ⟨gb110, 0, none⟩ = some (.int .i64 a0_0) := (blk_cell BK110.out 0).trans rfl
    have hcz29_1 : wc.cell? ⟨gb110, 1, none⟩ = some (.int .i64 a0_1) := (blk_cell BK110.out 1).trans rfl
    have hcz29_2 : wc.cell? ⟨gb110, 2, none⟩ = some (.slice A0_2 l0_2.length c0_2) := (blk_cell BK110.out 2).trans rfl
    have hfz29_0 := blk_frozen BK110.out 0
    have hfz29_1 := blk_frozen BK110.out 1
    have hfz29_2 := blk_frozen BK110.out 2
    have hnb30 := NB111_112.out
    have hnc30 := NB112_111.out
    have hcz31_0 : wc.cell? ⟨gb111, 0, none⟩ = some (.int .i64 0) := (blk_cell BK111.out 0).trans rfl
    have hcz31_1 : wc.cell? ⟨gb111, 1, none⟩ = some (.int .i64 0) := (blk_cell BK111.out 1).trans rfl
    have hcz31_2 : wc.cell? ⟨gb111, 2, none⟩ = some (.slice none 0 0) := (blk_cell BK111.out 2).trans rfl
    have hfz31_0 := blk_frozen BK111.out 0
    have hfz31_1 := blk_frozen BK111.out 1
    have hfz31_2 := blk_frozen BK111.out 2
    go_wp2
    refine bodyPost_ret (results_ctt rfl _ _ gb111 24 #[.int .i64 a0_0, .int .i64 a0_1, .slice A0_2 l0_2.length c0_2] (0, 0) _ rfl (by (with_reducible repeat (first | refine blk_drewN ?_ _ | refine blk_drew ?_ | refine blk_alloc ?_ _)); refine blk_put (cs := #[.int .i64 a0_0, .int .i64 a0_1, .slice none 0 0]) ?_ 2 _ rfl; (with_reducible repeat (first | refine blk_drewN ?_ _ | refine blk_drew ?_ | refine blk_alloc ?_ _)); refine blk_put (cs := #[.int .i64 a0_0, .int .i64 0, .slice none 0 0]) ?_ 1 _ rfl; (with_reducible repeat (first | refine blk_drewN ?_ _ | refine blk_drew ?_ | refine blk_alloc ?_ _)); refine blk_put (cs := #[.int .i64 0, .int .i64 0, .slice none 0 0]) ?_ 0 _ rfl; (with_reducible repeat (first | refine blk_drewN ?_ _ | refine blk_drew ?_ | refine blk_alloc ?_ _)); exact BK111.out) Try.underlying24 rfl (by kernel_rfl)) rfl ?_
    exact ⟨_, by first | rfl | (simp [errW_none, errW_some] <;> rfl) | (simp [*, errW_none, errW_some] <;> rfl), by (with_reducible repeat (first | apply Kd.V_alloc | apply Kd.V_drewN | apply Kd.V_drew)); exact Kd.V_mono (Kd.V_far (p := ⟨gb111, 2, none⟩) (Kd.V_far (p := ⟨gb111, 1, none⟩) (Kd.V_far (p := ⟨gb111, 0, none⟩) (Kd.V_mono HO_111002.out (fun k_ hk => (⟨hk, hk.2.2.1⟩ : _ ∧ k_ ≠ gb111))) (fun _ hk => hk.2) (.int .i64 a0_0)) (fun _ hk => hk.2) (.int .i64 a0_1)) (fun _ hk => hk.2) (.slice A0_2 l0_2.length c0_2)) (fun _ hk => hk.1.1), by repeat (first | (with_reducible first | exact HB.out | apply below_alloc | apply pw_below_drewN | apply below_drew1 | refine below_set ?_ GE110.out | refine below_set ?_ GE111.out | refine below_set ?_ GE112.out) | exact HB.out)⟩
   ·replace c26 := Bool.eq_false_iff.mpr c26
    subst c26
    have H1 : ((any_sema_is_1.f l0_2 a1).bind fun t116 => (if t116 = true then (some (a0_0, a0_1, l0_2, false, 9)) else (if (l0_2.length : Int) = 0 then (if a2 ≤ a0_1 then (some (a0_0, wrap64 (a0_1 - a2), l0_2, true, 0)) else ((sema_Ask_26.f l0_2).bind fun t117 => ((some (([(⟨a1, a2⟩ : S50)] : List (S50)) : List (S50))).bind fun y120 => (if t117.length + y120.length < 8796093022208 then (some (a0_0, a0_1, (t117 ++ y120), false, 0)) else (none))))) else ((sema_Ask_26.f l0_2).bind fun t126 => ((some (([(⟨a1, a2⟩ : S50)] : List (S50)) : List (S50))).bind fun y129 => (if t126.length + y129.length < 8796093022208 then (some (a0_0, a0_1, (t126 ++ y129), false, 0)) else (none))))))) = some (r1, r2, r3, r4, r5) := by rw [if_neg (show ¬ (false = true) by decide)] at H; exact H
    clear H
    have H := H1
    clear H1
    replace H := Option.bind_eq_some_iff.mp H
    obtain ⟨t116, A320, H⟩ := H
    try dsimp only at H
    have A32 := am A320
    clear A320
    by_cases c33 : t116 = true
    ·subst c33
     have H1 : (some (a0_0, a0_1, l0_2, false, 9)) = some (r1, r2, r3, r4, r5) := by rw [if_pos rfl] at H; exact H
     clear H
     have H := H1
     clear H1
     simp only [Option.some.injEq, Prod.mk.injEq] at H
     obtain ⟨rfl, rfl, rfl, rfl, rfl⟩ := H
     try go_wp2
     replace HO_111002 := am (Kd.V_drew HO_111002.out)
     replace BK110 := am (blk_drew BK110.out)
     replace BK111 := am (blk_drew BK111.out)
     replace BK112 := am (blk_drew BK112.out)
     replace HB := am (below_drew1 HB.out)
     refine start_ (n := 6) (S := fun w' => w'.cell? ⟨gb110, 0, none⟩ = some (.int .i64 a0_0) ∧ w'.cell? ⟨gb110, 1, none⟩ = some (.int .i64 a0_1) ∧ w'.cell? ⟨gb110, 2, none⟩ = some (.slice A0_2 l0_2.length c0_2)) (ds := []) #[false, false, false, false, false, false] (by kernel_rfl) rfl rfl ⟨(blk_cell BK110.out 0).trans rfl, (blk_cell BK110.out 1).trans rfl, (blk_cell BK110.out 2).trans rfl⟩ (fun hHeld => ?_)
     generalize wc.drew = w34 at HO_111002 BK110 BK111 BK112 HB hHeld ⊢
     refine pure_ (i := 0) (N := some 25) (v := ?_) (a' := ?_) #[true, false, false, false, false, false] rfl rfl (by kernel_rfl) (fun _ _ _ h => h) (Or.inl ⟨by rfl, ?_⟩) ?_ ?_
     rotate_left
     ·intro w'
      go_simp
      with_reducible rfl
     rotate_left
     ·simp only [Act.put, List.setIfInBounds_toArray, List.set_cons_zero, List.set_cons_succ, i64_w, i32_w]
      rfl
     refine pure_ (i := 2) (N := some 27) (v := ?_) (a' := ?_) #[true, false, true, false, false, false] rfl rfl (by kernel_rfl) (fun _ _ _ h => h) (Or.inl ⟨by rfl, ?_⟩) ?_ ?_
     rotate_left
     ·intro w'
      go_simp
      with_reducible rfl
     rotate_left
     ·simp only [Act.put, List.setIfInBounds_toArray, List.set_cons_zero, List.set_cons_succ, i64_w, i32_w]
      rfl
     refine take_ (i := 1) (N := some 26) (v := ?_) (a' := ?_) #[true, true, true, false, false, false] rfl rfl (by kernel_rfl) (fun _ _ _ h => h) (Or.inl ⟨by rfl, ?_⟩) hHeld ?_ ?_
     rotate_left
     ·rintro w' ⟨s0, s1, s2⟩
      go_simp
      with_reducible rfl
     rotate_left
     ·simp only [Act.put, List.setIfInBounds_toArray, List.set_cons_zero, List.set_cons_succ, i64_w, i32_w]
      rfl
     refine one_ (i := 3) (N := some 28) #[true, true, true, true, false, false] rfl rfl (by kernel_rfl) (by decide) (fun K hK => ?_)
     refine goes_ Try.func25 (by kernel_rfl) rfl #[.int .i64 a1] (by rfl) rfl rfl zm ?_
     with_reducible refine (sema_is.calls a1 _).mono ?_
     rintro e w35 ⟨gb115, hg, rfl, hbox, hb⟩
     refine ⟨_, rfl, ?_⟩
     replace HO_111002 := zVe HO_111002 hg hb
     have BK115 := am (hbox)
     have GW115 := zsz hg (zc3 HB GE110 GE111 GE112)
     have GE115 := zsz hg (zc3 HB GE110 GE111 GE112)
     replace HB := am (below_step (zc3 HB GE110 GE111 GE112) hb)
     have NB110_115 := znt BK110 hg
     have NB115_110 := zng BK110 hg
     replace BK110 := zbb BK110 hb
     have NB111_115 := znt BK111 hg
     have NB115_111 := zng BK111 hg
     replace BK111 := zbb BK111 hb
     have NB112_115 := znt BK112 hg
     have NB115_112 := zng BK112 hg
     replace BK112 := zbb BK112 hb
     clear hb hbox hg
     refine hK.out _ _ ⟨(blk_cell BK110.out 0).trans rfl, (blk_cell BK110.out 1).trans rfl, (blk_cell BK110.out 2).trans rfl⟩ (fun hHeld => ?_)
     clear hK K
     refine norm_ (a' := ?_) ?_ ?_
     rotate_left
     ·show Act.put _ (some 28) _ = _
      simp only [Act.put, List.setIfInBounds_toArray, List.set_cons_zero, List.set_cons_succ, i64_w, i32_w]
      rfl
     refine one_ (i := 4) (N := some 29) #[true, true, true, true, true, false] rfl rfl (by kernel_rfl) (by decide) (fun K hK => ?_)
     refine goes_ Try.func24 (by kernel_rfl) rfl #[.slice A0_2 l0_2.length c0_2, .func (.func 33) #[] #[.pointer (some ⟨gb115, 0, none⟩)]] (by rfl) rfl rfl zm ?_
     with_reducible refine (any_sema_is_1.calls _ _ l0_2 gb115 a1 true _ ?side1 ?side2 ?side3 A32.out).mono ?_
     (case side1 => repeat (first | exact (Kd.V_reads' HO_111002.out).2.2 | (with_reducible refine Kd.C_alloc ?_ _) | (with_reducible refine Kd.C_drewN ?_ _) | (with_reducible refine Kd.C_drew ?_)))
     (case side2 => exact (Kd.V_reads' HO_111002.out).2.1)
     (case side3 => exact (zb BK115))
     rintro e w36 ⟨rfl, hb⟩
     refine ⟨_, rfl, ?_⟩
     replace HO_111002 := zVb HO_111002 hb
     replace BK110 := zbb BK110 hb
     replace BK111 := zbb BK111 hb
     replace BK112 := zbb BK112 hb
     replace BK115 := zbb BK115 hb
     replace HB := am (below_step (zc4 HB GE110 GE111 GE112 GE115) hb)
     (try clear hb)
     (try clear hb2)
     (try clear hk)
     (try clear hi)
     refine hK.out _ _ ⟨(blk_cell BK110.out 0).trans rfl, (blk_cell BK110.out 1).trans rfl, (blk_cell BK110.out 2).trans rfl⟩ (fun hHeld => ?_)
     clear hK K
     refine norm_ (a' := ?_) ?_ ?_
     rotate_left
     ·show Act.put _ (some 29) _ = _
      simp only [Act.put, List.setIfInBounds_toArray, List.set_cons_zero, List.set_cons_succ, i64_w, i32_w]
      rfl
     refine pure_ (i := 5) (N := some 24) (v := ?_) (a' := ?_) #[true, true, true, true, true, true] rfl rfl (by kernel_rfl) (fun _ _ _ h => h) (Or.inl ⟨by rfl, ?_⟩) ?_ ?_
     rotate_left
     ·intro w'
      go_simp
      with_reducible rfl
     rotate_left
     ·simp only [Act.put, List.setIfInBounds_toArray, List.set_cons_zero, List.set_cons_succ, i64_w, i32_w]
      rfl
     refine done_ (by kernel_rfl) ?_
     have hnb37 := NB110_111.out
     have hnc37 := NB111_110.out
     have hnb38 := NB110_112.out
     have hnc38 := NB112_110.out
     have hnb39 := NB110_115.out
     have hnc39 := NB115_110.out
     have hcz40_0 : w36.cell? ⟨gb110, 0, none⟩ = some (.int .i64 a0_0) := (blk_cell BK110.out 0).trans rfl
     have hcz40_1 : w36.cell? ⟨gb110, 1, none⟩ = some (.int .i64 a0_1) := (blk_cell BK110.out 1).trans rfl
     have hcz40_2 : w36.cell? ⟨gb110, 2, none⟩ = some (.slice A0_2 l0_2.length c0_2) := (blk_cell BK110.out 2).trans rfl
     have hfz40_0 := blk_frozen BK110.out 0
     have hfz40_1 := blk_frozen BK110.out 1
     have hfz40_2 := blk_frozen BK110.out 2
     have hnb41 := NB111_112.out
     have hnc41 := NB112_111.out
     have hnb42 := NB111_115.out
     have hnc42 := NB115_111.out
     have hcz43_0 : w36.cell? ⟨gb111, 0, none⟩ = some (.int .i64 0) := (blk_cell BK111.out 0).trans rfl
     have hcz43_1 : w36.cell? ⟨gb111, 1, none⟩ = some (.int .i64 0) := (blk_cell BK111.out 1).trans rfl
     have hcz43_2 : w36.cell? ⟨gb111, 2, none⟩ = some (.slice none 0 0) := (blk_cell BK111.out 2).trans rfl
     have hfz43_0 := blk_frozen BK111.out 0
     have hfz43_1 := blk_frozen BK111.out 1
     have hfz43_2 := blk_frozen BK111.out 2
     try go_wp2
     refine bodyPost_ret (results_ctt rfl _ _ gb111 24 #[.int .i64 a0_0, .int .i64 a0_1, .slice A0_2 l0_2.length c0_2] (0, 0) _ rfl (by (with_reducible repeat (first | refine blk_drewN ?_ _ | refine blk_drew ?_ | refine blk_alloc ?_ _)); refine blk_put (cs := #[.int .i64 a0_0, .int .i64 a0_1, .slice none 0 0]) ?_ 2 _ rfl; (with_reducible repeat (first | refine blk_drewN ?_ _ | refine blk_drew ?_ | refine blk_alloc ?_ _)); refine blk_put (cs := #[.int .i64 a0_0, .int .i64 0, .slice none 0 0]) ?_ 1 _ rfl; (with_reducible repeat (first | refine blk_drewN ?_ _ | refine blk_drew ?_ | refine blk_alloc ?_ _)); refine blk_put (cs := #[.int .i64 0, .int .i64 0, .slice none 0 0]) ?_ 0 _ rfl; (with_reducible repeat (first | refine blk_drewN ?_ _ | refine blk_drew ?_ | refine blk_alloc ?_ _)); exact BK111.out) Try.underlying24 rfl (by kernel_rfl)) rfl ?_
     exact ⟨_, by first | rfl | (simp [errW_none, errW_some] <;> rfl) | (simp [*, errW_none, errW_some] <;> rfl), by (with_reducible repeat (first | apply Kd.V_alloc | apply Kd.V_drewN | apply Kd.V_drew)); exact Kd.V_mono (Kd.V_far (p := ⟨gb111, 2, none⟩) (Kd.V_far (p := ⟨gb111, 1, none⟩) (Kd.V_far (p := ⟨gb111, 0, none⟩) (Kd.V_mono HO_111002.out (fun k_ hk => (⟨hk, hk.1.2.2.1⟩ : _ ∧ k_ ≠ gb111))) (fun _ hk => hk.2) (.int .i64 a0_0)) (fun _ hk => hk.2) (.int .i64 a0_1)) (fun _ hk => hk.2) (.slice A0_2 l0_2.length c0_2)) (fun _ hk => hk.1.1.1), by repeat (first | (with_reducible first | exact HB.out | apply below_alloc | apply pw_below_drewN | apply below_drew1 | refine below_set ?_ GE110.out | refine below_set ?_ GE111.out | refine below_set ?_ GE112.out | refine below_set ?_ GE115.out) | exact HB.out)⟩
    ·replace c33 := Bool.eq_false_iff.mpr c33
     subst c33
     have H1 : (if (l0_2.length : Int) = 0 then (if a2 ≤ a0_1 then (some (a0_0, wrap64 (a0_1 - a2), l0_2, true, 0)) else ((sema_Ask_26.f l0_2).bind fun t117 => ((some (([(⟨a1, a2⟩ : S50)] : List (S50)) : List (S50))).bind fun y120 => (if t117.length + y120.length < 8796093022208 then (some (a0_0, a0_1, (t117 ++ y120), false, 0)) else (none))))) else ((sema_Ask_26.f l0_2).bind fun t126 => ((some (([(⟨a1, a2⟩ : S50)] : List (S50)) : List (S50))).bind fun y129 => (if t126.length + y129.length < 8796093022208 then (some (a0_0, a0_1, (t126 ++ y129), false, 0)) else (none))))) = some (r1, r2, r3, r4, r5) := by rw [if_neg (show ¬ (false = true) by decide)] at H; exact H
     clear H
     have H := H1
     clear H1
     by_cases c44 : (l0_2.length : Int) = 0
     ·rw [if_pos c44] at H
      have c44b0 : ((l0_2.length : Int) == 0) = true := beq_iff_eq.mpr c44
      have c44b1 : ((l0_2.length : Int) != 0) = false := bne_eq_false_iff_eq.mpr c44
      clear c44
      by_cases c45 : a2 ≤ a0_1
      ·rw [if_pos c45] at H
       have c45b0 : decide (a2 ≤ a0_1) = true := decide_eq_true c45
       clear c45
       simp only [Option.some.injEq, Prod.mk.injEq] at H
       obtain ⟨rfl, rfl, rfl, rfl, rfl⟩ := H
       try go_wp2
       replace HO_111002 := am (Kd.V_drew HO_111002.out)
       replace BK110 := am (blk_drew BK110.out)
       replace BK111 := am (blk_drew BK111.out)
       replace BK112 := am (blk_drew BK112.out)
       replace HB := am (below_drew1 HB.out)
       refine start_ (n := 6) (S := fun w' => w'.cell? ⟨gb110, 0, none⟩ = some (.int .i64 a0_0) ∧ w'.cell? ⟨gb110, 1, none⟩ = some (.int .i64 a0_1) ∧ w'.cell? ⟨gb110, 2, none⟩ = some (.slice A0_2 l0_2.length c0_2)) (ds := []) #[false, false, false, false, false, false] (by kernel_rfl) rfl rfl ⟨(blk_cell BK110.out 0).trans rfl, (blk_cell BK110.out 1).trans rfl, (blk_cell BK110.out 2).trans rfl⟩ (fun hHeld => ?_)
       generalize wc.drew = w46 at HO_111002 BK110 BK111 BK112 HB hHeld ⊢
       refine pure_ (i := 0) (N := some 25) (v := ?_) (a' := ?_) #[true, false, false, false, false, false] rfl rfl (by kernel_rfl) (fun _ _ _ h => h) (Or.inl ⟨by rfl, ?_⟩) ?_ ?_
       rotate_left
       ·intro w'
        go_simp
        with_reducible rfl
       rotate_left
       ·simp only [Act.put, List.setIfInBounds_toArray, List.set_cons_zero, List.set_cons_succ, i64_w, i32_w]
        rfl
       refine pure_ (i := 2) (N := some 27) (v := ?_) (a' := ?_) #[true, false, true, false, false, false] rfl rfl (by kernel_rfl) (fun _ _ _ h => h) (Or.inl ⟨by rfl, ?_⟩) ?_ ?_
       rotate_left
       ·intro w'
        go_simp
        with_reducible rfl
       rotate_left
       ·simp only [Act.put, List.setIfInBounds_toArray, List.set_cons_zero, List.set_cons_succ, i64_w, i32_w]
        rfl
       refine take_ (i := 1) (N := some 26) (v := ?_) (a' := ?_) #[true, true, true, false, false, false] rfl rfl (by kernel_rfl) (fun _ _ _ h => h) (Or.inl ⟨by rfl, ?_⟩) hHeld ?_ ?_
       rotate_left
       ·rintro w' ⟨s0, s1, s2⟩
        go_simp
        with_reducible rfl
       rotate_left
       ·simp only [Act.put, List.setIfInBounds_toArray, List.set_cons_zero, List.set_cons_succ, i64_w, i32_w]
        rfl
       refine one_ (i := 3) (N := some 28) #[true, true, true, true, false, false] rfl rfl (by kernel_rfl) (by decide) (fun K hK => ?_)
       refine goes_ Try.func25 (by kernel_rfl) rfl #[.int .i64 a1] (by rfl) rfl rfl zm ?_
       with_reducible refine (sema_is.calls a1 _).mono ?_
       rintro e w47 ⟨gb115, hg, rfl, hbox, hb⟩
       refine ⟨_, rfl, ?_⟩
       replace HO_111002 := zVe HO_111002 hg hb
       have BK115 := am (hbox)
       have GW115 := zsz hg (zc3 HB GE110 GE111 GE112)
       have GE115 := zsz hg (zc3 HB GE110 GE111 GE112)
       replace HB := am (below_step (zc3 HB GE110 GE111 GE112) hb)
       have NB110_115 := znt BK110 hg
       have NB115_110 := zng BK110 hg
       replace BK110 := zbb BK110 hb
       have NB111_115 := znt BK111 hg
       have NB115_111 := zng BK111 hg
       replace BK111 := zbb BK111 hb
       have NB112_115 := znt BK112 hg
       have NB115_112 := zng BK112 hg
       replace BK112 := zbb BK112 hb
       clear hb hbox hg
       refine hK.out _ _ ⟨(blk_cell BK110.out 0).trans rfl, (blk_cell BK110.out 1).trans rfl, (blk_cell BK110.out 2).trans rfl⟩ (fun hHeld => ?_)
       clear hK K
       refine norm_ (a' := ?_) ?_ ?_
       rotate_left
       ·show Act.put _ (some 28) _ = _
        simp only [Act.put, List.setIfInBounds_toArray, List.set_cons_zero, List.set_cons_succ, i64_w, i32_w]
        rfl
       refine one_ (i := 4) (N := some 29) #[true, true, true, true, true, false] rfl rfl (by kernel_rfl) (by decide) (fun K hK => ?_)
       refine goes_ Try.func24 (by kernel_rfl) rfl #[.slice A0_2 l0_2.length c0_2, .func (.func 33) #[] #[.pointer (some ⟨gb115, 0, none⟩)]] (by rfl) rfl rfl zm ?_
       with_reducible refine (any_sema_is_1.calls _ _ l0_2 gb115 a1 false _ ?side1 ?side2 ?side3 A32.out).mono ?_
       (case side1 => repeat (first | exact (Kd.V_reads' HO_111002.out).2.2 | (with_reducible refine Kd.C_alloc ?_ _) | (with_reducible refine Kd.C_drewN ?_ _) | (with_reducible refine Kd.C_drew ?_)))
       (case side2 => exact (Kd.V_reads' HO_111002.out).2.1)
       (case side3 => exact (zb BK115))
       rintro e w48 ⟨rfl, hb⟩
       refine ⟨_, rfl, ?_⟩
       replace HO_111002 := zVb HO_111002 hb
       replace BK110 := zbb BK110 hb
       replace BK111 := zbb BK111 hb
       replace BK112 := zbb BK112 hb
       replace BK115 := zbb BK115 hb
       replace HB := am (below_step (zc4 HB GE110 GE111 GE112 GE115) hb)
       (try clear hb)
       (try clear hb2)
       (try clear hk)
       (try clear hi)
       refine hK.out _ _ ⟨(blk_cell BK110.out 0).trans rfl, (blk_cell BK110.out 1).trans rfl, (blk_cell BK110.out 2).trans rfl⟩ (fun hHeld => ?_)
       clear hK K
       refine norm_ (a' := ?_) ?_ ?_
       rotate_left
       ·show Act.put _ (some 29) _ = _
        simp only [Act.put, List.setIfInBounds_toArray, List.set_cons_zero, List.set_cons_succ, i64_w, i32_w]
        rfl
       refine pure_ (i := 5) (N := some 24) (v := ?_) (a' := ?_) #[true, true, true, true, true, true] rfl rfl (by kernel_rfl) (fun _ _ _ h => h) (Or.inl ⟨by rfl, ?_⟩) ?_ ?_
       rotate_left
       ·intro w'
        go_simp
        with_reducible rfl
       rotate_left
       ·simp only [Act.put, List.setIfInBounds_toArray, List.set_cons_zero, List.set_cons_succ, i64_w, i32_w]
        rfl
       refine done_ (by kernel_rfl) ?_
       have hnb49 := NB110_111.out
       have hnc49 := NB111_110.out
       have hnb50 := NB110_112.out
       have hnc50 := NB112_110.out
       have hnb51 := NB110_115.out
       have hnc51 := NB115_110.out
       have hcz52_0 : w48.cell? ⟨gb110, 0, none⟩ = some (.int .i64 a0_0) := (blk_cell BK110.out 0).trans rfl
       have hcz52_1 : w48.cell? ⟨gb110, 1, none⟩ = some (.int .i64 a0_1) := (blk_cell BK110.out 1).trans rfl
       have hcz52_2 : w48.cell? ⟨gb110, 2, none⟩ = some (.slice A0_2 l0_2.length c0_2) := (blk_cell BK110.out 2).trans rfl
       have hfz52_0 := blk_frozen BK110.out 0
       have hfz52_1 := blk_frozen BK110.out 1
       have hfz52_2 := blk_frozen BK110.out 2
       have hnb53 := NB111_112.out
       have hnc53 := NB112_111.out
       have hnb54 := NB111_115.out
       have hnc54 := NB115_111.out
       have hcz55_0 : w48.cell? ⟨gb111, 0, none⟩ = some (.int .i64 0) := (blk_cell BK111.out 0).trans rfl
       have hcz55_1 : w48.cell? ⟨gb111, 1, none⟩ = some (.int .i64 0) := (blk_cell BK111.out 1).trans rfl
       have hcz55_2 : w48.cell? ⟨gb111, 2, none⟩ = some (.slice none 0 0) := (blk_cell BK111.out 2).trans rfl
       have hfz55_0 := blk_frozen BK111.out 0
       have hfz55_1 := blk_frozen BK111.out 1
       have hfz55_2 := blk_frozen BK111.out 2
       try go_wp2
       refine bodyPost_ret (results_ctt rfl _ _ gb111 24 #[.int .i64 a0_0, .int .i64 (wrap64 (a0_1 - a2)), .slice A0_2 l0_2.length c0_2] (0, 0) _ rfl (by (with_reducible repeat (first | refine blk_drewN ?_ _ | refine blk_drew ?_ | refine blk_alloc ?_ _)); refine blk_put (cs := #[.int .i64 a0_0, .int .i64 (wrap64 (a0_1 - a2)), .slice none 0 0]) ?_ 2 _ rfl; (with_reducible repeat (first | refine blk_drewN ?_ _ | refine blk_drew ?_ | refine blk_alloc ?_ _)); refine blk_put (cs := #[.int .i64 a0_0, .int .i64 0, .slice none 0 0]) ?_ 1 _ rfl; (with_reducible repeat (first | refine blk_drewN ?_ _ | refine blk_drew ?_ | refine blk_alloc ?_ _)); refine blk_put (cs := #[.int .i64 0, .int .i64 0, .slice none 0 0]) ?_ 0 _ rfl; (with_reducible repeat (first | refine blk_drewN ?_ _ | refine blk_drew ?_ | refine blk_alloc ?_ _)); refine blk_far ?_ NB111_110.out _; (with_reducible repeat (first | refine blk_drewN ?_ _ | refine blk_drew ?_ | refine blk_alloc ?_ _)); exact BK111.out) Try.underlying24 rfl (by kernel_rfl)) rfl ?_
       exact ⟨_, by first | rfl | (simp [errW_none, errW_some] <;> rfl) | (simp [*, errW_none, errW_some] <;> rfl), by (with_reducible repeat (first | apply Kd.V_alloc | apply Kd.V_drewN | apply Kd.V_drew)); exact Kd.V_mono (Kd.V_far (p := ⟨gb111, 2, none⟩) (Kd.V_far (p := ⟨gb111, 1, none⟩) (Kd.V_far (p := ⟨gb111, 0, none⟩) (Kd.V_far (p := ⟨gb110, 1, none⟩) (Kd.V_mono (Kd.V_mono HO_111002.out (fun k_ hk => (⟨hk, hk.1.2.1⟩ : _ ∧ k_ ≠ gb110))) (fun k_ hk => (⟨hk, hk.1.1.2.2.1⟩ : _ ∧ k_ ≠ gb111))) (fun _ hk => hk.1.2) (.int .i64 (wrap64 (a0_1 - a2)))) (fun _ hk => hk.2) (.int .i64 a0_0)) (fun _ hk => hk.2) (.int .i64 (wrap64 (a0_1 - a2)))) (fun _ hk => hk.2) (.slice A0_2 l0_2.length c0_2)) (fun _ hk => hk.1.1.1.1), by repeat (first | (with_reducible first | exact HB.out | apply below_alloc | apply pw_below_drewN | apply below_drew1 | refine below_set ?_ GE110.out | refine below_set ?_ GE111.out | refine below_set ?_ GE112.out | refine below_set ?_ GE115.out) | exact HB.out)⟩
      ·rw [if_neg c45] at H
       have c45b0 : decide (a2 ≤ a0_1) = false := decide_eq_false c45
       clear c45
       replace H := Option.bind_eq_some_iff.mp H
       obtain ⟨t117, A560, H⟩ := H
       try dsimp only at H
       have A56 := am A560
       clear A560
       obtain ⟨y120, hy120⟩ : ∃ y_ : List (S50), y_ = (([(⟨a1, a2⟩ : S50)] : List (S50))) := ⟨_, rfl⟩
       replace H : (if t117.length + y120.length < 8796093022208 then (some (a0_0, a0_1, (t117 ++ y120), false, 0)) else (none)) = some (r1, r2, r3, r4, r5) := by first | (rw [hy120]; with_reducible exact H) | (have H2_ := (Option.bind_some _ _).symm.trans H; rw [hy120]; with_reducible exact H2_) | (have H2_ := (Option.bind_some _ _).symm.trans H; with_reducible exact H2_) | with_reducible exact H | (rw [hy120]; exact H) | exact H
       have Ny120 := am hy120
       clear hy120
       by_cases c57 : t117.length + y120.length < 8796093022208
       ·rw [if_pos c57] at H
        have LMc57 := am c57
        clear c57
        obtain ⟨y123, hy123⟩ : ∃ y_ : List (S50), y_ = (t117 ++ y120) := ⟨_, rfl⟩
        replace H : (some (a0_0, a0_1, y123, false, 0)) = some (r1, r2, r3, r4, r5) := by first | (rw [hy123]; with_reducible exact H) | (have H2_ := (Option.bind_some _ _).symm.trans H; rw [hy123]; with_reducible exact H2_) | (have H2_ := (Option.bind_some _ _).symm.trans H; with_reducible exact H2_) | with_reducible exact H | (rw [hy123]; exact H) | exact H
        have Ny123 := am hy123
        clear hy123
        simp only [Option.some.injEq, Prod.mk.injEq] at H
        obtain ⟨rfl, rfl, rfl, rfl, rfl⟩ := H
        try go_wp2
        replace HO_111002 := am (Kd.V_drew HO_111002.out)
        replace BK110 := am (blk_drew BK110.out)
        replace BK111 := am (blk_drew BK111.out)
        replace BK112 := am (blk_drew BK112.out)
        replace HB := am (below_drew1 HB.out)
        refine start_ (n := 6) (S := fun w' => w'.cell? ⟨gb110, 0, none⟩ = some (.int .i64 a0_0) ∧ w'.cell? ⟨gb110, 1, none⟩ = some (.int .i64 a0_1) ∧ w'.cell? ⟨gb110, 2, none⟩ = some (.slice A0_2 l0_2.length c0_2)) (ds := []) #[false, false, false, false, false, false] (by kernel_rfl) rfl rfl ⟨(blk_cell BK110.out 0).trans rfl, (blk_cell BK110.out 1).trans rfl, (blk_cell BK110.out 2).trans rfl⟩ (fun hHeld => ?_)
        generalize wc.drew = w58 at HO_111002 BK110 BK111 BK112 HB hHeld ⊢
        refine pure_ (i := 0) (N := some 25) (v := ?_) (a' := ?_) #[true, false, false, false, false, false] rfl rfl (by kernel_rfl) (fun _ _ _ h => h) (Or.inl ⟨by rfl, ?_⟩) ?_ ?_
        rotate_left
        ·intro w'
         go_simp
         with_reducible rfl
        rotate_left
        ·simp only [Act.put, List.setIfInBounds_toArray, List.set_cons_zero, List.set_cons_succ, i64_w, i32_w]
         rfl
        refine pure_ (i := 2) (N := some 27) (v := ?_) (a' := ?_) #[true, false, true, false, false, false] rfl rfl (by kernel_rfl) (fun _ _ _ h => h) (Or.inl ⟨by rfl, ?_⟩) ?_ ?_
        rotate_left
        ·intro w'
         go_simp
         with_reducible rfl
        rotate_left
        ·simp only [Act.put, List.setIfInBounds_toArray, List.set_cons_zero, List.set_cons_succ, i64_w, i32_w]
         rfl
        refine take_ (i := 1) (N := some 26) (v := ?_) (a' := ?_) #[true, true, true, false, false, false] rfl rfl (by kernel_rfl) (fun _ _ _ h => h) (Or.inl ⟨by rfl, ?_⟩) hHeld ?_ ?_
        rotate_left
        ·rintro w' ⟨s0, s1, s2⟩
         go_simp
         with_reducible rfl
        rotate_left
        ·simp only [Act.put, List.setIfInBounds_toArray, List.set_cons_zero, List.set_cons_succ, i64_w, i32_w]
         rfl
        refine one_ (i := 3) (N := some 28) #[true, true, true, true, false, false] rfl rfl (by kernel_rfl) (by decide) (fun K hK => ?_)
        refine goes_ Try.func25 (by kernel_rfl) rfl #[.int .i64 a1] (by rfl) rfl rfl zm ?_
        with_reducible refine (sema_is.calls a1 _).mono ?_
        rintro e w59 ⟨gb115, hg, rfl, hbox, hb⟩
        refine ⟨_, rfl, ?_⟩
        replace HO_111002 := zVe HO_111002 hg hb
        have BK115 := am (hbox)
        have GW115 := zsz hg (zc3 HB GE110 GE111 GE112)
        have GE115 := zsz hg (zc3 HB GE110 GE111 GE112)
        replace HB := am (below_step (zc3 HB GE110 GE111 GE112) hb)
        have NB110_115 := znt BK110 hg
        have NB115_110 := zng BK110 hg
        replace BK110 := zbb BK110 hb
        have NB111_115 := znt BK111 hg
        have NB115_111 := zng BK111 hg
        replace BK111 := zbb BK111 hb
        have NB112_115 := znt BK112 hg
        have NB115_112 := zng BK112 hg
        replace BK112 := zbb BK112 hb
        clear hb hbox hg
        refine hK.out _ _ ⟨(blk_cell BK110.out 0).trans rfl, (blk_cell BK110.out 1).trans rfl, (blk_cell BK110.out 2).trans rfl⟩ (fun hHeld => ?_)
        clear hK K
        refine norm_ (a' := ?_) ?_ ?_
        rotate_left
        ·show Act.put _ (some 28) _ = _
         simp only [Act.put, List.setIfInBounds_toArray, List.set_cons_zero, List.set_cons_succ, i64_w, i32_w]
         rfl
        refine one_ (i := 4) (N := some 29) #[true, true, true, true, true, false] rfl rfl (by kernel_rfl) (by decide) (fun K hK => ?_)
        refine goes_ Try.func24 (by kernel_rfl) rfl #[.slice A0_2 l0_2.length c0_2, .func (.func 33) #[] #[.pointer (some ⟨gb115, 0, none⟩)]] (by rfl) rfl rfl zm ?_
        with_reducible refine (any_sema_is_1.calls _ _ l0_2 gb115 a1 false _ ?side1 ?side2 ?side3 A32.out).mono ?_
        (case side1 => repeat (first | exact (Kd.V_reads' HO_111002.out).2.2 | (with_reducible refine Kd.C_alloc ?_ _) | (with_reducible refine Kd.C_drewN ?_ _) | (with_reducible refine Kd.C_drew ?_)))
        (case side2 => exact (Kd.V_reads' HO_111002.out).2.1)
        (case side3 => exact (zb BK115))
        rintro e w60 ⟨rfl, hb⟩
        refine ⟨_, rfl, ?_⟩
        replace HO_111002 := zVb HO_111002 hb
        replace BK110 := zbb BK110 hb
        replace BK111 := zbb BK111 hb
        replace BK112 := zbb BK112 hb
        replace BK115 := zbb BK115 hb
        replace HB := am (below_step (zc4 HB GE110 GE111 GE112 GE115) hb)
        (try clear hb)
        (try clear hb2)
        (try clear hk)
        (try clear hi)
        refine hK.out _ _ ⟨(blk_cell BK110.out 0).trans rfl, (blk_cell BK110.out 1).trans rfl, (blk_cell BK110.out 2).trans rfl⟩ (fun hHeld => ?_)
        clear hK K
        refine norm_ (a' := ?_) ?_ ?_
        rotate_left
        ·show Act.put _ (some 29) _ = _
         simp only [Act.put, List.setIfInBounds_toArray, List.set_cons_zero, List.set_cons_succ, i64_w, i32_w]
         rfl
        refine pure_ (i := 5) (N := some 24) (v := ?_) (a' := ?_) #[true, true, true, true, true, true] rfl rfl (by kernel_rfl) (fun _ _ _ h => h) (Or.inl ⟨by rfl, ?_⟩) ?_ ?_
        rotate_left
        ·intro w'
         go_simp
         with_reducible rfl
        rotate_left
        ·simp only [Act.put, List.setIfInBounds_toArray, List.set_cons_zero, List.set_cons_succ, i64_w, i32_w]
         rfl
        refine done_ (by kernel_rfl) ?_
        have hnb61 := NB110_111.out
        have hnc61 := NB111_110.out
        have hnb62 := NB110_112.out
        have hnc62 := NB112_110.out
        have hnb63 := NB110_115.out
        have hnc63 := NB115_110.out
        have hcz64_0 : w60.cell? ⟨gb110, 0, none⟩ = some (.int .i64 a0_0) := (blk_cell BK110.out 0).trans rfl
        have hcz64_1 : w60.cell? ⟨gb110, 1, none⟩ = some (.int .i64 a0_1) := (blk_cell BK110.out 1).trans rfl
        have hcz64_2 : w60.cell? ⟨gb110, 2, none⟩ = some (.slice A0_2 l0_2.length c0_2) := (blk_cell BK110.out 2).trans rfl
        have hfz64_0 := blk_frozen BK110.out 0
        have hfz64_1 := blk_frozen BK110.out 1
        have hfz64_2 := blk_frozen BK110.out 2
        try go_wp2
        replace HO_111002 := am (Kd.V_drew HO_111002.out)
        replace BK110 := am (blk_drew BK110.out)
        replace BK111 := am (blk_drew BK111.out)
        replace BK112 := am (blk_drew BK112.out)
        replace BK115 := am (blk_drew BK115.out)
        replace HB := am (below_drew1 HB.out)
        refine start_ (n := 8) (S := fun w' => w'.cell? ⟨gb110, 0, none⟩ = some (.int .i64 a0_0) ∧ w'.cell? ⟨gb110, 1, none⟩ = some (.int .i64 a0_1) ∧ w'.cell? ⟨gb110, 2, none⟩ = some (.slice A0_2 l0_2.length c0_2) ∧ w'.cell? ⟨gb112, 0, none⟩ = some (.int .i64 a1) ∧ w'.cell? ⟨gb112, 1, none⟩ = some (.int .i64 a2)) (ds := [7]) #[false, false, false, false, false, false, false, false] (by kernel_rfl) rfl rfl ⟨(blk_cell BK110.out 0).trans rfl, (blk_cell BK110.out 1).trans rfl, (blk_cell BK110.out 2).trans rfl, (blk_cell BK112.out 0).trans rfl, (blk_cell BK112.out 1).trans rfl⟩ (fun hHeld => ?_); refine with_tabW sema_Take.tab9 sema_Take.bits9 (fun HT_ HW_ => ?_)
        generalize w60.drew = w65 at HO_111002 BK110 BK111 BK112 BK115 HB hHeld ⊢
        refine pure_ (i := 0) (N := some 48) (v := ?_) (a' := ?_) #[true, false, false, false, false, false, false, false] rfl rfl (any_of HT_.out (by kernel_rfl)) (fun _ _ _ h => h) (Or.inl ⟨by rfl, ?_⟩) ?_ ?_
        rotate_left
        ·intro w'
         go_simp
         with_reducible rfl
        rotate_left
        ·simp only [Act.put, List.setIfInBounds_toArray, List.set_cons_zero, List.set_cons_succ, i64_w, i32_w]
         rfl
        refine take_ (i := 1) (N := some 49) (v := ?_) (a' := ?_) #[true, true, false, false, false, false, false, false] rfl rfl (take_ofW HT_.out HW_.out (by kernel_rfl)) (fun _ _ _ h => h) (Or.inl ⟨by rfl, ?_⟩) hHeld ?_ ?_
        rotate_left
        ·rintro w' ⟨s0, s1, s2, s3, s4⟩
         go_simp
         with_reducible rfl
        rotate_left
        ·simp only [Act.put, List.setIfInBounds_toArray, List.set_cons_zero, List.set_cons_succ, i64_w, i32_w]
         rfl
        refine take_ (i := 3) (N := some 51) (v := ?_) (a' := ?_) #[true, true, false, true, false, false, false, false] rfl rfl (take_ofW HT_.out HW_.out (by kernel_rfl)) (fun _ _ _ h => h) (Or.inl ⟨by rfl, ?_⟩) hHeld ?_ ?_
        rotate_left
        ·rintro w' ⟨s0, s1, s2, s3, s4⟩
         go_simp
         with_reducible rfl
        rotate_left
        ·simp only [Act.put, List.setIfInBounds_toArray, List.set_cons_zero, List.set_cons_succ, i64_w, i32_w]
         rfl
        refine join_ (σ := Value × Value) 3 #[true, true, true, true, true, false, false, false] (fun s_ => [(50, s_.1), (52, s_.2)]) (fun s_ w' => (w'.cell? ⟨gb110, 0, none⟩ = some (.int .i64 a0_0) ∧ w'.cell? ⟨gb110, 1, none⟩ = some (.int .i64 a0_1) ∧ w'.cell? ⟨gb110, 2, none⟩ = some (.slice A0_2 l0_2.length c0_2) ∧ w'.cell? ⟨gb112, 0, none⟩ = some (.int .i64 a1) ∧ w'.cell? ⟨gb112, 1, none⟩ = some (.int .i64 a2)) ∧ (Kd.R k50 50 w' w.heap.size (fun k_ => (w.heap.size ≤ k_) ∧ some k_ ≠ (s_.2 : Value).ownBlock ∧ k_ ≠ gb112) s_.1 t117) ∧ (Kd.R k50 50 w' w.heap.size (fun k_ => (w.heap.size ≤ k_) ∧ some k_ ≠ (s_.1 : Value).ownBlock ∧ k_ ≠ gb112) s_.2 y120) ∧ (Kd.V k50 50 w' w.heap.size (fun k_ => (P0_2_ k_ ∨ w.heap.size ≤ k_) ∧ some k_ ≠ (s_.1 : Value).ownBlock ∧ some k_ ≠ (s_.2 : Value).ownBlock ∧ k_ ≠ gb110 ∧ k_ ≠ gb111 ∧ k_ ≠ gb112 ∧ k_ ≠ gb115) (.slice A0_2 l0_2.length c0_2) l0_2) ∧ (w'.heap[gb110]? = some (.cells #[.int .i64 a0_0, .int .i64 a0_1, .slice A0_2 l0_2.length c0_2] 24 (0, 0))) ∧ (w'.heap[gb111]? = some (.cells #[.int .i64 0, .int .i64 0, .slice none 0 0] 24 (0, 0))) ∧ (w'.heap[gb112]? = some (.cells #[.int .i64 a1, .int .i64 a2] 50 (0, 0))) ∧ (w'.heap[gb115]? = some (.cells #[.int .i64 a1] 3 (0, 0))) ∧ (Below w.heap.size w w')) ?_ ?_
        rotate_left
        ·intro hCont
         refine two_ (i := 2) (j := 4) (Ni := some 50) (Nj := some 52) #[true, true, true, true, false, false, false, false] #[true, true, false, true, true, false, false, false] rfl rfl rfl rfl (two_of HT_.out (by kernel_rfl)) (by decide) (by decide) (fun K hK => ?_) (fun K hK => ?_)
         ·skip
          refine goes_ Try.func26 (by kernel_rfl) rfl #[.slice A0_2 l0_2.length c0_2] (by rfl) rfl rfl zm ?_
          with_reducible refine (sema_Ask_26.calls _ _ l0_2 t117 _ ?side1 ?side2 A56.out).mono ?_
          (case side1 => repeat (first | exact (Kd.V_reads' HO_111002.out).2.2 | (with_reducible refine Kd.C_alloc ?_ _) | (with_reducible refine Kd.C_drewN ?_ _) | (with_reducible refine Kd.C_drew ?_)))
          (case side2 => exact (Kd.V_reads' HO_111002.out).2.1)
          rintro e w66 ⟨v118, rfl, ho0, hb⟩
          refine ⟨_, rfl, ?_⟩
          replace HO_111002 := am (Kd.V_elder' (zV HO_111002) (Kd.R_base ho0) hb)
          have HO119 := am (Kd.R_lower (Kd.R_newB (Kd.R_newM (M := fun k_ => (w.heap.size ≤ k_)) ho0 (below_size (zc4 HB GE110 GE111 GE112 GE115)) (fun k_ h_ => h_)) (g := gb112) (o := .cells #[.int .i64 a1, .int .i64 a2] 50 (0, 0)) (zb BK112)) (below_size (zc4 HB GE110 GE111 GE112 GE115)))
          replace BK110 := zbb BK110 hb
          replace BK111 := zbb BK111 hb
          replace BK112 := zbb BK112 hb
          replace BK115 := zbb BK115 hb
          replace HB := am (below_step (zc4 HB GE110 GE111 GE112 GE115) hb)
          (try clear hb)
          (try clear hb2)
          (try clear hk)
          (try clear hi)
          (try clear ho0)
          refine hK.out _ _ ⟨(blk_cell BK110.out 0).trans rfl, (blk_cell BK110.out 1).trans rfl, (blk_cell BK110.out 2).trans rfl, (blk_cell BK112.out 0).trans rfl, (blk_cell BK112.out 1).trans rfl⟩ (fun hHeld => ?_)
          clear hK K
          refine norm_ (a' := ?_) ?_ ?_
          rotate_left
          ·show Act.put _ (some 50) _ = _
           simp only [Act.put, List.setIfInBounds_toArray, List.set_cons_zero, List.set_cons_succ, i64_w, i32_w]
           rfl
          refine one_ (i := 4) (N := some 52) #[true, true, true, true, true, false, false, false] rfl rfl (one_of HT_.out (by kernel_rfl)) (by decide) (fun K hK => ?_)
          refine Kd.R_lit_step k50 _ 50 ?hg (N := 52) ?hd (xs := ([(⟨a1, a2⟩ : S50)] : List (S50))) (inner := [.int .i64 a1, .int .i64 a2]) (ok := fun _ => True) (okp := fun _ => True) ?hr ?hp (fun _ hk => hk) trivial (Below.refl _ _) (Nat.le_refl _) (by simp) ?_; (case hd => rfl); (case hg => rfl); (case hr => first | (go_simp; done) | (go_simp; rfl)); (case hp => exact (Reps.c2 (show Kd.M k50 _ _ _ (⟨a1, a2⟩ : S50) [.int .i64 a1, .int .i64 a2] from (k50_mkM _ _ _ (⟨a1, a2⟩ : S50) )) (Reps.none _ _)))
          intro v121 w67 ho68 hb hg_ hnew_
          clear hg_ hnew_
          (first | rw [← Ny120.out] at ho68 | (simp only [Int.reduceToNat] at ho68; rw [← Ny120.out] at ho68))
          replace HO_111002 := am (Kd.V_elder' (zV HO_111002) (Kd.R_base ho68) hb)
          have HO122 := am (Kd.R_lower (Kd.R_newB (Kd.R_new' (Kd.R_newM (M := fun k_ => (w.heap.size ≤ k_)) ho68 (below_size (zc4 HB GE110 GE111 GE112 GE115)) (fun k_ h_ => h_)) (Kd.R_lt (zR HO119))) (g := gb112) (o := .cells #[.int .i64 a1, .int .i64 a2] 50 (0, 0)) (zb BK112)) (below_size (zc4 HB GE110 GE111 GE112 GE115)))
          replace HO119 := am (Kd.R_elder' (zR HO119) (Kd.R_base ho68) hb)
          replace BK110 := zbb BK110 hb
          replace BK111 := zbb BK111 hb
          replace BK112 := zbb BK112 hb
          replace BK115 := zbb BK115 hb
          replace HB := am (below_step (zc4 HB GE110 GE111 GE112 GE115) hb)
          clear hb ho68
          refine hK.out _ _ ⟨(blk_cell BK110.out 0).trans rfl, (blk_cell BK110.out 1).trans rfl, (blk_cell BK110.out 2).trans rfl, (blk_cell BK112.out 0).trans rfl, (blk_cell BK112.out 1).trans rfl⟩ (fun hHeld => ?_)
          clear hK K
          refine norm_ (a' := ?_) ?_ ?_
          rotate_left
          ·show Act.put _ (some 52) _ = _
           simp only [Act.put, List.setIfInBounds_toArray, List.set_cons_zero, List.set_cons_succ, i64_w, i32_w]
           rfl
          exact norm_ (by simp only [putAll, Act.put, List.setIfInBounds_toArray, List.set_cons_zero, List.set_cons_succ]) (hCont (v118, v121) _ ⟨hHeld, (by (with_reducible repeat (first | apply Kd.R_alloc | apply Kd.R_drewN | apply Kd.R_drew)); exact Kd.R_mono HO119.out (fun _ hk => ⟨hk.1.1.1, ⟨hk.2, hk.1.2⟩⟩)), (by (with_reducible repeat (first | apply Kd.R_alloc | apply Kd.R_drewN | apply Kd.R_drew)); exact Kd.R_mono HO122.out (fun _ hk => ⟨hk.1.1.1, ⟨hk.1.2, hk.2⟩⟩)), (by (with_reducible repeat (first | apply Kd.V_alloc | apply Kd.V_drewN | apply Kd.V_drew)); exact Kd.V_mono HO_111002.out (fun _ hk => ⟨hk.1.1.1.1, ⟨hk.1.2, ⟨hk.2, ⟨hk.1.1.1.2.1, ⟨hk.1.1.1.2.2.1, ⟨hk.1.1.1.2.2.2, hk.1.1.2⟩⟩⟩⟩⟩⟩)), (zb BK110), (zb BK111), (zb BK112), (zb BK115), (zc4 HB GE110 GE111 GE112 GE115)⟩)
         ·skip
          refine Kd.R_lit_step k50 _ 50 ?hg (N := 52) ?hd (xs := ([(⟨a1, a2⟩ : S50)] : List (S50))) (inner := [.int .i64 a1, .int .i64 a2]) (ok := fun _ => True) (okp := fun _ => True) ?hr ?hp (fun _ hk => hk) trivial (Below.refl _ _) (Nat.le_refl _) (by simp) ?_; (case hd => rfl); (case hg => rfl); (case hr => first | (go_simp; done) | (go_simp; rfl)); (case hp => exact (Reps.c2 (show Kd.M k50 _ _ _ (⟨a1, a2⟩ : S50) [.int .i64 a1, .int .i64 a2] from (k50_mkM _ _ _ (⟨a1, a2⟩ : S50) )) (Reps.none _ _)))
          intro v121 w66 ho67 hb hg_ hnew_
          clear hg_ hnew_
          (first | rw [← Ny120.out] at ho67 | (simp only [Int.reduceToNat] at ho67; rw [← Ny120.out] at ho67))
          replace HO_111002 := am (Kd.V_elder' (zV HO_111002) (Kd.R_base ho67) hb)
          have HO122 := am (Kd.R_lower (Kd.R_newB (Kd.R_newM (M := fun k_ => (w.heap.size ≤ k_)) ho67 (below_size (zc4 HB GE110 GE111 GE112 GE115)) (fun k_ h_ => h_)) (g := gb112) (o := .cells #[.int .i64 a1, .int .i64 a2] 50 (0, 0)) (zb BK112)) (below_size (zc4 HB GE110 GE111 GE112 GE115)))
          replace BK110 := zbb BK110 hb
          replace BK111 := zbb BK111 hb
          replace BK112 := zbb BK112 hb
          replace BK115 := zbb BK115 hb
          replace HB := am (below_step (zc4 HB GE110 GE111 GE112 GE115) hb)
          clear hb ho67
          refine hK.out _ _ ⟨(blk_cell BK110.out 0).trans rfl, (blk_cell BK110.out 1).trans rfl, (blk_cell BK110.out 2).trans rfl, (blk_cell BK112.out 0).trans rfl, (blk_cell BK112.out 1).trans rfl⟩ (fun hHeld => ?_)
          clear hK K
          refine norm_ (a' := ?_) ?_ ?_
          rotate_left
          ·show Act.put _ (some 52) _ = _
           simp only [Act.put, List.setIfInBounds_toArray, List.set_cons_zero, List.set_cons_succ, i64_w, i32_w]
           rfl
          refine one_ (i := 2) (N := some 50) #[true, true, true, true, true, false, false, false] rfl rfl (one_of HT_.out (by kernel_rfl)) (by decide) (fun K hK => ?_)
          refine goes_ Try.func26 (by kernel_rfl) rfl #[.slice A0_2 l0_2.length c0_2] (by rfl) rfl rfl zm ?_
          with_reducible refine (sema_Ask_26.calls _ _ l0_2 t117 _ ?side1 ?side2 A56.out).mono ?_
          (case side1 => repeat (first | exact (Kd.V_reads' HO_111002.out).2.2 | (with_reducible refine Kd.C_alloc ?_ _) | (with_reducible refine Kd.C_drewN ?_ _) | (with_reducible refine Kd.C_drew ?_)))
          (case side2 => exact (Kd.V_reads' HO_111002.out).2.1)
          rintro e w68 ⟨v118, rfl, ho0, hb⟩
          refine ⟨_, rfl, ?_⟩
          replace HO_111002 := am (Kd.V_elder' (zV HO_111002) (Kd.R_base ho0) hb)
          have HO119 := am (Kd.R_lower (Kd.R_newB (Kd.R_new' (Kd.R_newM (M := fun k_ => (w.heap.size ≤ k_)) ho0 (below_size (zc4 HB GE110 GE111 GE112 GE115)) (fun k_ h_ => h_)) (Kd.R_lt (zR HO122))) (g := gb112) (o := .cells #[.int .i64 a1, .int .i64 a2] 50 (0, 0)) (zb BK112)) (below_size (zc4 HB GE110 GE111 GE112 GE115)))
          replace HO122 := am (Kd.R_elder' (zR HO122) (Kd.R_base ho0) hb)
          replace BK110 := zbb BK110 hb
          replace BK111 := zbb BK111 hb
          replace BK112 := zbb BK112 hb
          replace BK115 := zbb BK115 hb
          replace HB := am (below_step (zc4 HB GE110 GE111 GE112 GE115) hb)
          (try clear hb)
          (try clear hb2)
          (try clear hk)
          (try clear hi)
          (try clear ho0)
          refine hK.out _ _ ⟨(blk_cell BK110.out 0).trans rfl, (blk_cell BK110.out 1).trans rfl, (blk_cell BK110.out 2).trans rfl, (blk_cell BK112.out 0).trans rfl, (blk_cell BK112.out 1).trans rfl⟩ (fun hHeld => ?_)
          clear hK K
          refine norm_ (a' := ?_) ?_ ?_
          rotate_left
          ·show Act.put _ (some 50) _ = _
           simp only [Act.put, List.setIfInBounds_toArray, List.set_cons_zero, List.set_cons_succ, i64_w, i32_w]
           rfl
          exact norm_ (by simp only [putAll, Act.put, List.setIfInBounds_toArray, List.set_cons_zero, List.set_cons_succ]) (hCont (v118, v121) _ ⟨hHeld, (by (with_reducible repeat (first | apply Kd.R_alloc | apply Kd.R_drewN | apply Kd.R_drew)); exact Kd.R_mono HO119.out (fun _ hk => ⟨hk.1.1.1, ⟨hk.1.2, hk.2⟩⟩)), (by (with_reducible repeat (first | apply Kd.R_alloc | apply Kd.R_drewN | apply Kd.R_drew)); exact Kd.R_mono HO122.out (fun _ hk => ⟨hk.1.1.1, ⟨hk.2, hk.1.2⟩⟩)), (by (with_reducible repeat (first | apply Kd.V_alloc | apply Kd.V_drewN | apply Kd.V_drew)); exact Kd.V_mono HO_111002.out (fun _ hk => ⟨hk.1.1.1.1, ⟨hk.2, ⟨hk.1.2, ⟨hk.1.1.1.2.1, ⟨hk.1.1.1.2.2.1, ⟨hk.1.1.1.2.2.2, hk.1.1.2⟩⟩⟩⟩⟩⟩)), (zb BK110), (zb BK111), (zb BK112), (zb BK115), (zc4 HB GE110 GE111 GE112 GE115)⟩)
        rintro ⟨v118, v121⟩ w69 ⟨hS_, h0_, h1_, h2_, h3_, h4_, h5_, h6_, h7_⟩
        have n0_ : Aside0 (Kd.R k50 50 w69 w.heap.size (fun k_ => (w.heap.size ≤ k_) ∧ some k_ ≠ (v121 : Value).ownBlock ∧ k_ ≠ gb112) v118 t117) := ⟨h0_⟩
        have n1_ : Aside0 (Kd.R k50 50 w69 w.heap.size (fun k_ => (w.heap.size ≤ k_) ∧ some k_ ≠ (v118 : Value).ownBlock ∧ k_ ≠ gb112) v121 y120) := ⟨h1_⟩
        have n2_ : Aside0 (Kd.V k50 50 w69 w.heap.size (fun k_ => (P0_2_ k_ ∨ w.heap.size ≤ k_) ∧ some k_ ≠ (v118 : Value).ownBlock ∧ some k_ ≠ (v121 : Value).ownBlock ∧ k_ ≠ gb110 ∧ k_ ≠ gb111 ∧ k_ ≠ gb112 ∧ k_ ≠ gb115) (.slice A0_2 l0_2.length c0_2) l0_2) := ⟨h2_⟩
        have n3_ : Aside0 (w69.heap[gb110]? = some (.cells #[.int .i64 a0_0, .int .i64 a0_1, .slice A0_2 l0_2.length c0_2] 24 (0, 0))) := ⟨h3_⟩
        have n4_ : Aside0 (w69.heap[gb111]? = some (.cells #[.int .i64 0, .int .i64 0, .slice none 0 0] 24 (0, 0))) := ⟨h4_⟩
        have n5_ : Aside0 (w69.heap[gb112]? = some (.cells #[.int .i64 a1, .int .i64 a2] 50 (0, 0))) := ⟨h5_⟩
        have n6_ : Aside0 (w69.heap[gb115]? = some (.cells #[.int .i64 a1] 3 (0, 0))) := ⟨h6_⟩
        have n7_ : Aside0 (Below w.heap.size w w69) := ⟨h7_⟩
        clear HO_111002
        clear BK110
        clear BK111
        clear BK112
        clear BK115
        clear HB
        clear h0_ h1_ h2_ h3_ h4_ h5_ h6_ h7_
        have HO119 := n0_
        have HO122 := n1_
        have HO_111002 := n2_
        have BK110 := n3_
        have BK111 := n4_
        have BK112 := n5_
        have BK115 := n6_
        have HB := n7_
        clear n0_ n1_ n2_ n3_ n4_ n5_ n6_ n7_
        have hHeld : w69.cell? ⟨gb110, 0, none⟩ = some (.int .i64 a0_0) ∧ w69.cell? ⟨gb110, 1, none⟩ = some (.int .i64 a0_1) ∧ w69.cell? ⟨gb110, 2, none⟩ = some (.slice A0_2 l0_2.length c0_2) ∧ w69.cell? ⟨gb112, 0, none⟩ = some (.int .i64 a1) ∧ w69.cell? ⟨gb112, 1, none⟩ = some (.int .i64 a2) := hS_
        obtain ⟨Ao71, co71, eo71⟩ := Kd.R_slice HO122.out
        (first | subst eo71 | (injection eo71 with f1_ f2_ f3_; have f4_ := f1_.symm; have f5_ := f3_.symm; clear f1_ f2_ f3_; subst f4_; subst f5_))
        refine norm_ (a' := ?_) ?_ ?_
        rotate_left
        ·simp only [putAll, Act.put, List.setIfInBounds_toArray, List.set_cons_zero, List.set_cons_succ]
         rfl
        refine one_ (i := 5) (N := some 53) #[true, true, true, true, true, true, false, false] rfl rfl (one_of HT_.out (by kernel_rfl)) (by decide) (fun K hK => ?_)
        refine Kd.R_append_rows_step k50 (w0 := w) w.heap.size (by rfl) (.tmp 50) (.tmp 52) 22 50 (.agg #[(.int .i64 0), (.int .i64 0)]) 16 rfl Try.underlying22 info50 rfl (by decide) (by omega) v118 t117 y120 _ _ _ (fun k_ => (w.heap.size ≤ k_) ∧ some k_ ≠ (.slice Ao71 y120.length co71 : Value).ownBlock ∧ k_ ≠ gb112) (fun _ => False) rfl rfl ?aO ?aR (fun _ _ h => h) (fun _ h => h.elim) ?aF ?aB ?aS ?aL ?_
        (case aR => repeat (first | exact (Kd.R_reads' HO122.out).2.2 | (with_reducible refine Kd.C_alloc ?_ _) | (with_reducible refine Kd.C_drewN ?_ _) | (with_reducible refine Kd.C_drew ?_)))
        (case aB => exact (zc4 HB GE110 GE111 GE112 GE115))
        (case aF => exact (fun k_ hk => ⟨(Nat.le_trans (below_size (zc4 HB GE110 GE111 GE112 GE115)) hk), Kd.fresh' (Kd.R_lt (zR HO122)) k_ hk, Kd.freshB (g := gb112) (o := .cells #[.int .i64 a1, .int .i64 a2] 50 (0, 0)) (zb BK112) k_ hk⟩))
        (case aO => exact (zR HO119))
        (case aS => exact (below_size (zc4 HB GE110 GE111 GE112 GE115)))
        (case aL => have := LMc57.out; omega)
        intro v124 w70 ho hb hg hat
        rw [← Ny123.out] at ho
        replace HO_111002 := am (Kd.V_afterv (ok := (fun k_ => (P0_2_ k_ ∨ w.heap.size ≤ k_) ∧ some k_ ≠ (.slice Ao71 y120.length co71 : Value).ownBlock ∧ k_ ≠ gb110 ∧ k_ ≠ gb111 ∧ k_ ≠ gb112 ∧ k_ ≠ gb115)) (by (with_reducible repeat (first | apply Kd.V_alloc | apply Kd.V_drewN | apply Kd.V_drew)); exact Kd.V_mono HO_111002.out (fun _ hk => ⟨⟨hk.1, ⟨hk.2.2.1, ⟨hk.2.2.2.1, ⟨hk.2.2.2.2.1, ⟨hk.2.2.2.2.2.1, hk.2.2.2.2.2.2⟩⟩⟩⟩⟩, hk.2.1⟩)) hg hat)
        replace BK110 := am (blk_grown (g := gb110) (o := .cells #[.int .i64 a0_0, .int .i64 a0_1, .slice A0_2 l0_2.length c0_2] 24 (0, 0)) (zb BK110) hg (Kd.R_ne HO119.out BK110.out (by decide)))
        replace BK111 := am (blk_grown (g := gb111) (o := .cells #[.int .i64 0, .int .i64 0, .slice none 0 0] 24 (0, 0)) (zb BK111) hg (Kd.R_ne HO119.out BK111.out (by decide)))
        replace BK112 := am (blk_grown (g := gb112) (o := .cells #[.int .i64 a1, .int .i64 a2] 50 (0, 0)) (zb BK112) hg (Kd.R_away HO119.out (fun _ hk => hk.2.2)))
        replace BK115 := am (blk_grown (g := gb115) (o := .cells #[.int .i64 a1] 3 (0, 0)) (zb BK115) hg (Kd.R_ne HO119.out BK115.out (by decide)))
        replace HO122 := am (Kd.R_after (ok := (fun k_ => (w.heap.size ≤ k_) ∧ k_ ≠ gb112)) (by (with_reducible repeat (first | apply Kd.R_alloc | apply Kd.R_drewN | apply Kd.R_drew)); exact Kd.R_mono HO122.out (fun _ hk => ⟨⟨hk.1, hk.2.2⟩, hk.2.1⟩)) hg hat)
        replace HB := am (hb)
        have HO125 := am (ho)
        clear HO119
        clear ho hb hg hat
        obtain ⟨Ao72, co72, eo72⟩ := Kd.R_slice HO125.out
        (first | subst eo72 | (injection eo72 with f1_ f2_ f3_; have f4_ := f1_.symm; have f5_ := f3_.symm; clear f1_ f2_ f3_; subst f4_; subst f5_))
        refine hK.out _ _ ⟨(blk_cell BK110.out 0).trans rfl, (blk_cell BK110.out 1).trans rfl, (blk_cell BK110.out 2).trans rfl, (blk_cell BK112.out 0).trans rfl, (blk_cell BK112.out 1).trans rfl⟩ (fun hHeld => ?_)
        clear hK K
        refine norm_ (a' := ?_) ?_ ?_
        rotate_left
        ·show Act.put _ (some 53) _ = _
         simp only [Act.put, List.setIfInBounds_toArray, List.set_cons_zero, List.set_cons_succ, i64_w, i32_w]
         rfl
        refine pure_ (i := 6) (N := some 54) (v := ?_) (a' := ?_) #[true, true, true, true, true, true, true, false] rfl rfl (any_of HT_.out (by kernel_rfl)) (fun _ _ _ h => h) (Or.inl ⟨by rfl, ?_⟩) ?_ ?_
        rotate_left
        ·intro w'
         go_simp
         with_reducible rfl
        rotate_left
        ·simp only [Act.put, List.setIfInBounds_toArray, List.set_cons_zero, List.set_cons_succ, i64_w, i32_w]
         rfl
        refine last_ (i := 7) (N := none) #[true, true, true, true, true, true, true, true] rfl rfl (one_of HT_.out (by kernel_rfl)) (by decide) (fun K hK => ?_)
        have hs73 : w70.cell? ⟨gb110, 2, none⟩ = some (.slice A0_2 l0_2.length c0_2) := (blk_cell BK110.out 2).trans rfl
        have hfs73 := blk_frozen BK110.out 2
        have hns73_1 := NB111_110.out
        have hns73_2 := NB112_110.out
        have hns73_3 := NB115_110.out
        have hms73_1 := NB110_111.out
        have hms73_2 := NB110_112.out
        have hms73_3 := NB110_115.out
        refine skip_ (w1 := ?_) (by rfl) rfl ?_ ?_
        rotate_left
        ·go_simp
         rfl
        refine hK.out _ _ ?_
        clear hK K
        refine done_ (done_of HT_.out (by kernel_rfl)) ?_
        have hcz74_0 : w70.cell? ⟨gb110, 0, none⟩ = some (.int .i64 a0_0) := (blk_cell BK110.out 0).trans rfl
        have hcz74_1 : w70.cell? ⟨gb110, 1, none⟩ = some (.int .i64 a0_1) := (blk_cell BK110.out 1).trans rfl
        have hcz74_2 : w70.cell? ⟨gb110, 2, none⟩ = some (.slice A0_2 l0_2.length c0_2) := (blk_cell BK110.out 2).trans rfl
        have hfz74_0 := blk_frozen BK110.out 0
        have hfz74_1 := blk_frozen BK110.out 1
        have hfz74_2 := blk_frozen BK110.out 2
        have hnb75 := NB111_112.out
        have hnc75 := NB112_111.out
        have hnb76 := NB111_115.out
        have hnc76 := NB115_111.out
        have hcz77_0 : w70.cell? ⟨gb111, 0, none⟩ = some (.int .i64 0) := (blk_cell BK111.out 0).trans rfl
        have hcz77_1 : w70.cell? ⟨gb111, 1, none⟩ = some (.int .i64 0) := (blk_cell BK111.out 1).trans rfl
        have hcz77_2 : w70.cell? ⟨gb111, 2, none⟩ = some (.slice none 0 0) := (blk_cell BK111.out 2).trans rfl
        have hfz77_0 := blk_frozen BK111.out 0
        have hfz77_1 := blk_frozen BK111.out 1
        have hfz77_2 := blk_frozen BK111.out 2
        try go_wp2
        refine bodyPost_ret (results_ctt rfl _ _ gb111 24 #[.int .i64 a0_0, .int .i64 a0_1, .slice Ao72 y123.length co72] (0, 0) _ rfl (by (with_reducible repeat (first | refine blk_drewN ?_ _ | refine blk_drew ?_ | refine blk_alloc ?_ _)); refine blk_put (cs := #[.int .i64 a0_0, .int .i64 a0_1, .slice none 0 0]) ?_ 2 _ rfl; (with_reducible repeat (first | refine blk_drewN ?_ _ | refine blk_drew ?_ | refine blk_alloc ?_ _)); refine blk_put (cs := #[.int .i64 a0_0, .int .i64 0, .slice none 0 0]) ?_ 1 _ rfl; (with_reducible repeat (first | refine blk_drewN ?_ _ | refine blk_drew ?_ | refine blk_alloc ?_ _)); refine blk_put (cs := #[.int .i64 0, .int .i64 0, .slice none 0 0]) ?_ 0 _ rfl; (with_reducible repeat (first | refine blk_drewN ?_ _ | refine blk_drew ?_ | refine blk_alloc ?_ _)); refine blk_far ?_ NB111_110.out _; (with_reducible repeat (first | refine blk_drewN ?_ _ | refine blk_drew ?_ | refine blk_alloc ?_ _)); exact BK111.out) Try.underlying24 rfl (by kernel_rfl)) rfl ?_
        exact ⟨_, by first | rfl | (simp [errW_none, errW_some] <;> rfl) | (simp [*, errW_none, errW_some] <;> rfl), Kd.V_mono (Kd.R_V (Kd.R_mono (ok' := fun k_ => (w.heap.size ≤ k_)) (by (with_reducible repeat (first | apply Kd.R_alloc | apply Kd.R_drewN | apply Kd.R_drew)); exact Kd.R_mono (Kd.R_far (p := ⟨gb111, 2, none⟩) (Kd.R_far (p := ⟨gb111, 1, none⟩) (Kd.R_far (p := ⟨gb111, 0, none⟩) (Kd.R_far (p := ⟨gb110, 2, none⟩) (Kd.R_types (Kd.R_types HO125.out BK110.out (by decide)) BK111.out (by decide)) (fun _ hk => hk.1.2) (.slice Ao72 y123.length co72)) (fun _ hk => hk.2) (.int .i64 a0_0)) (fun _ hk => hk.2) (.int .i64 a0_1)) (fun _ hk => hk.2) (.slice Ao72 y123.length co72)) (fun _ hk => hk.1.1.1)) (fun _ h_ => h_))) (fun k_ hk => by first | exact ⟨(.inr (hk.1)), hk.2⟩ | exact (.inr (hk))), by repeat (first | (with_reducible first | exact HB.out | apply below_alloc | apply pw_below_drewN | apply below_drew1 | refine below_set ?_ GE110.out | refine below_set ?_ GE111.out | refine below_set ?_ GE112.out | refine below_set ?_ GE115.out) | exact HB.out)⟩
       ·rw [if_neg c57] at H
        exact absurd H (by simp)
     ·rw [if_neg c44] at H
      have c44b0 : ((l0_2.length : Int) == 0) = false := beq_eq_false_iff_ne.mpr c44
      have c44b1 : ((l0_2.length : Int) != 0) = true := bne_iff_ne.mpr c44
      have c44b2 : ¬ (l0_2 = []) := fun h_ => c44 (by rw [h_]; rfl)
      replace H := Option.bind_eq_some_iff.mp H
      obtain ⟨t126, A780, H⟩ := H
      try dsimp only at H
      have A78 := am A780
      clear A780
      obtain ⟨y129, hy129⟩ : ∃ y_ : List (S50), y_ = (([(⟨a1, a2⟩ : S50)] : List (S50))) := ⟨_, rfl⟩
      replace H : (if t126.length + y129.length < 8796093022208 then (some (a0_0, a0_1, (t126 ++ y129), false, 0)) else (none)) = some (r1, r2, r3, r4, r5) := by first | (rw [hy129]; with_reducible exact H) | (have H2_ := (Option.bind_some _ _).symm.trans H; rw [hy129]; with_reducible exact H2_) | (have H2_ := (Option.bind_some _ _).symm.trans H; with_reducible exact H2_) | with_reducible exact H | (rw [hy129]; exact H) | exact H
      have Ny129 := am hy129
      clear hy129
      by_cases c79 : t126.length + y129.length < 8796093022208
      ·rw [if_pos c79] at H
       have LMc79 := am c79
       clear c79
       obtain ⟨y132, hy132⟩ : ∃ y_ : List (S50), y_ = (t126 ++ y129) := ⟨_, rfl⟩
       replace H : (some (a0_0, a0_1, y132, false, 0)) = some (r1, r2, r3, r4, r5) := by first | (rw [hy132]; with_reducible exact H) | (have H2_ := (Option.bind_some _ _).symm.trans H; rw [hy132]; with_reducible exact H2_) | (have H2_ := (Option.bind_some _ _).symm.trans H; with_reducible exact H2_) | with_reducible exact H | (rw [hy132]; exact H) | exact H
       have Ny132 := am hy132
       clear hy132
       simp only [Option.some.injEq, Prod.mk.injEq] at H
       obtain ⟨rfl, rfl, rfl, rfl, rfl⟩ := H
       try go_wp2
       replace HO_111002 := am (Kd.V_drew HO_111002.out)
       replace BK110 := am (blk_drew BK110.out)
       replace BK111 := am (blk_drew BK111.out)
       replace BK112 := am (blk_drew BK112.out)
       replace HB := am (below_drew1 HB.out)
       refine start_ (n := 6) (S := fun w' => w'.cell? ⟨gb110, 0, none⟩ = some (.int .i64 a0_0) ∧ w'.cell? ⟨gb110, 1, none⟩ = some (.int .i64 a0_1) ∧ w'.cell? ⟨gb110, 2, none⟩ = some (.slice A0_2 l0_2.length c0_2)) (ds := []) #[false, false, false, false, false, false] (by kernel_rfl) rfl rfl ⟨(blk_cell BK110.out 0).trans rfl, (blk_cell BK110.out 1).trans rfl, (blk_cell BK110.out 2).trans rfl⟩ (fun hHeld => ?_)
       generalize wc.drew = w80 at HO_111002 BK110 BK111 BK112 HB hHeld ⊢
       refine pure_ (i := 0) (N := some 25) (v := ?_) (a' := ?_) #[true, false, false, false, false, false] rfl rfl (by kernel_rfl) (fun _ _ _ h => h) (Or.inl ⟨by rfl, ?_⟩) ?_ ?_
       rotate_left
       ·intro w'
        go_simp
        with_reducible rfl
       rotate_left
       ·simp only [Act.put, List.setIfInBounds_toArray, List.set_cons_zero, List.set_cons_succ, i64_w, i32_w]
        rfl
       refine pure_ (i := 2) (N := some 27) (v := ?_) (a' := ?_) #[true, false, true, false, false, false] rfl rfl (by kernel_rfl) (fun _ _ _ h => h) (Or.inl ⟨by rfl, ?_⟩) ?_ ?_
       rotate_left
       ·intro w'
        go_simp
        with_reducible rfl
       rotate_left
       ·simp only [Act.put, List.setIfInBounds_toArray, List.set_cons_zero, List.set_cons_succ, i64_w, i32_w]
        rfl
       refine take_ (i := 1) (N := some 26) (v := ?_) (a' := ?_) #[true, true, true, false, false, false] rfl rfl (by kernel_rfl) (fun _ _ _ h => h) (Or.inl ⟨by rfl, ?_⟩) hHeld ?_ ?_
       rotate_left
       ·rintro w' ⟨s0, s1, s2⟩
        go_simp
        with_reducible rfl
       rotate_left
       ·simp only [Act.put, List.setIfInBounds_toArray, List.set_cons_zero, List.set_cons_succ, i64_w, i32_w]
        rfl
       refine one_ (i := 3) (N := some 28) #[true, true, true, true, false, false] rfl rfl (by kernel_rfl) (by decide) (fun K hK => ?_)
       refine goes_ Try.func25 (by kernel_rfl) rfl #[.int .i64 a1] (by rfl) rfl rfl zm ?_
       with_reducible refine (sema_is.calls a1 _).mono ?_
       rintro e w81 ⟨gb115, hg, rfl, hbox, hb⟩
       refine ⟨_, rfl, ?_⟩
       replace HO_111002 := zVe HO_111002 hg hb
       have BK115 := am (hbox)
       have GW115 := zsz hg (zc3 HB GE110 GE111 GE112)
       have GE115 := zsz hg (zc3 HB GE110 GE111 GE112)
       replace HB := am (below_step (zc3 HB GE110 GE111 GE112) hb)
       have NB110_115 := znt BK110 hg
       have NB115_110 := zng BK110 hg
       replace BK110 := zbb BK110 hb
       have NB111_115 := znt BK111 hg
       have NB115_111 := zng BK111 hg
       replace BK111 := zbb BK111 hb
       have NB112_115 := znt BK112 hg
       have NB115_112 := zng BK112 hg
       replace BK112 := zbb BK112 hb
       clear hb hbox hg
       refine hK.out _ _ ⟨(blk_cell BK110.out 0).trans rfl, (blk_cell BK110.out 1).trans rfl, (blk_cell BK110.out 2).trans rfl⟩ (fun hHeld => ?_)
       clear hK K
       refine norm_ (a' := ?_) ?_ ?_
       rotate_left
       ·show Act.put _ (some 28) _ = _
        simp only [Act.put, List.setIfInBounds_toArray, List.set_cons_zero, List.set_cons_succ, i64_w, i32_w]
        rfl
       refine one_ (i := 4) (N := some 29) #[true, true, true, true, true, false] rfl rfl (by kernel_rfl) (by decide) (fun K hK => ?_)
       refine goes_ Try.func24 (by kernel_rfl) rfl #[.slice A0_2 l0_2.length c0_2, .func (.func 33) #[] #[.pointer (some ⟨gb115, 0, none⟩)]] (by rfl) rfl rfl zm ?_
       with_reducible refine (any_sema_is_1.calls _ _ l0_2 gb115 a1 false _ ?side1 ?side2 ?side3 A32.out).mono ?_
       (case side1 => repeat (first | exact (Kd.V_reads' HO_111002.out).2.2 | (with_reducible refine Kd.C_alloc ?_ _) | (with_reducible refine Kd.C_drewN ?_ _) | (with_reducible refine Kd.C_drew ?_)))
       (case side2 => exact (Kd.V_reads' HO_111002.out).2.1)
       (case side3 => exact (zb BK115))
       rintro e w82 ⟨rfl, hb⟩
       refine ⟨_, rfl, ?_⟩
       replace HO_111002 := zVb HO_111002 hb
       replace BK110 := zbb BK110 hb
       replace BK111 := zbb BK111 hb
       replace BK112 := zbb BK112 hb
       replace BK115 := zbb BK115 hb
       replace HB := am (below_step (zc4 HB GE110 GE111 GE112 GE115) hb)
       (try clear hb)
       (try clear hb2)
       (try clear hk)
       (try clear hi)
       refine hK.out _ _ ⟨(blk_cell BK110.out 0).trans rfl, (blk_cell BK110.out 1).trans rfl, (blk_cell BK110.out 2).trans rfl⟩ (fun hHeld => ?_)
       clear hK K
       refine norm_ (a' := ?_) ?_ ?_
       rotate_left
       ·show Act.put _ (some 29) _ = _
        simp only [Act.put, List.setIfInBounds_toArray, List.set_cons_zero, List.set_cons_succ, i64_w, i32_w]
        rfl
       refine pure_ (i := 5) (N := some 24) (v := ?_) (a' := ?_) #[true, true, true, true, true, true] rfl rfl (by kernel_rfl) (fun _ _ _ h => h) (Or.inl ⟨by rfl, ?_⟩) ?_ ?_
       rotate_left
       ·intro w'
        go_simp
        with_reducible rfl
       rotate_left
       ·simp only [Act.put, List.setIfInBounds_toArray, List.set_cons_zero, List.set_cons_succ, i64_w, i32_w]
        rfl
       refine done_ (by kernel_rfl) ?_
       have hnb83 := NB110_111.out
       have hnc83 := NB111_110.out
       have hnb84 := NB110_112.out
       have hnc84 := NB112_110.out
       have hnb85 := NB110_115.out
       have hnc85 := NB115_110.out
       have hcz86_0 : w82.cell? ⟨gb110, 0, none⟩ = some (.int .i64 a0_0) := (blk_cell BK110.out 0).trans rfl
       have hcz86_1 : w82.cell? ⟨gb110, 1, none⟩ = some (.int .i64 a0_1) := (blk_cell BK110.out 1).trans rfl
       have hcz86_2 : w82.cell? ⟨gb110, 2, none⟩ = some (.slice A0_2 l0_2.length c0_2) := (blk_cell BK110.out 2).trans rfl
       have hfz86_0 := blk_frozen BK110.out 0
       have hfz86_1 := blk_frozen BK110.out 1
       have hfz86_2 := blk_frozen BK110.out 2
       try go_wp2
       replace HO_111002 := am (Kd.V_drew HO_111002.out)
       replace BK110 := am (blk_drew BK110.out)
       replace BK111 := am (blk_drew BK111.out)
       replace BK112 := am (blk_drew BK112.out)
       replace BK115 := am (blk_drew BK115.out)
       replace HB := am (below_drew1 HB.out)
       refine start_ (n := 8) (S := fun w' => w'.cell? ⟨gb110, 0, none⟩ = some (.int .i64 a0_0) ∧ w'.cell? ⟨gb110, 1, none⟩ = some (.int .i64 a0_1) ∧ w'.cell? ⟨gb110, 2, none⟩ = some (.slice A0_2 l0_2.length c0_2) ∧ w'.cell? ⟨gb112, 0, none⟩ = some (.int .i64 a1) ∧ w'.cell? ⟨gb112, 1, none⟩ = some (.int .i64 a2)) (ds := [7]) #[false, false, false, false, false, false, false, false] (by kernel_rfl) rfl rfl ⟨(blk_cell BK110.out 0).trans rfl, (blk_cell BK110.out 1).trans rfl, (blk_cell BK110.out 2).trans rfl, (blk_cell BK112.out 0).trans rfl, (blk_cell BK112.out 1).trans rfl⟩ (fun hHeld => ?_); refine with_tabW sema_Take.tab9 sema_Take.bits9 (fun HT_ HW_ => ?_)
       generalize w82.drew = w87 at HO_111002 BK110 BK111 BK112 BK115 HB hHeld ⊢
       refine pure_ (i := 0) (N := some 48) (v := ?_) (a' := ?_) #[true, false, false, false, false, false, false, false] rfl rfl (any_of HT_.out (by kernel_rfl)) (fun _ _ _ h => h) (Or.inl ⟨by rfl, ?_⟩) ?_ ?_
       rotate_left
       ·intro w'
        go_simp
        with_reducible rfl
       rotate_left
       ·simp only [Act.put, List.setIfInBounds_toArray, List.set_cons_zero, List.set_cons_succ, i64_w, i32_w]
        rfl
       refine take_ (i := 1) (N := some 49) (v := ?_) (a' := ?_) #[true, true, false, false, false, false, false, false] rfl rfl (take_ofW HT_.out HW_.out (by kernel_rfl)) (fun _ _ _ h => h) (Or.inl ⟨by rfl, ?_⟩) hHeld ?_ ?_
       rotate_left
       ·rintro w' ⟨s0, s1, s2, s3, s4⟩
        go_simp
        with_reducible rfl
       rotate_left
       ·simp only [Act.put, List.setIfInBounds_toArray, List.set_cons_zero, List.set_cons_succ, i64_w, i32_w]
        rfl
       refine take_ (i := 3) (N := some 51) (v := ?_) (a' := ?_) #[true, true, false, true, false, false, false, false] rfl rfl (take_ofW HT_.out HW_.out (by kernel_rfl)) (fun _ _ _ h => h) (Or.inl ⟨by rfl, ?_⟩) hHeld ?_ ?_
       rotate_left
       ·rintro w' ⟨s0, s1, s2, s3, s4⟩
        go_simp
        with_reducible rfl
       rotate_left
       ·simp only [Act.put, List.setIfInBounds_toArray, List.set_cons_zero, List.set_cons_succ, i64_w, i32_w]
        rfl
       refine join_ (σ := Value × Value) 3 #[true, true, true, true, true, false, false, false] (fun s_ => [(50, s_.1), (52, s_.2)]) (fun s_ w' => (w'.cell? ⟨gb110, 0, none⟩ = some (.int .i64 a0_0) ∧ w'.cell? ⟨gb110, 1, none⟩ = some (.int .i64 a0_1) ∧ w'.cell? ⟨gb110, 2, none⟩ = some (.slice A0_2 l0_2.length c0_2) ∧ w'.cell? ⟨gb112, 0, none⟩ = some (.int .i64 a1) ∧ w'.cell? ⟨gb112, 1, none⟩ = some (.int .i64 a2)) ∧ (Kd.R k50 50 w' w.heap.size (fun k_ => (w.heap.size ≤ k_) ∧ some k_ ≠ (s_.2 : Value).ownBlock ∧ k_ ≠ gb112) s_.1 t126) ∧ (Kd.R k50 50 w' w.heap.size (fun k_ => (w.heap.size ≤ k_) ∧ some k_ ≠ (s_.1 : Value).ownBlock ∧ k_ ≠ gb112) s_.2 y129) ∧ (Kd.V k50 50 w' w.heap.size (fun k_ => (P0_2_ k_ ∨ w.heap.size ≤ k_) ∧ some k_ ≠ (s_.1 : Value).ownBlock ∧ some k_ ≠ (s_.2 : Value).ownBlock ∧ k_ ≠ gb110 ∧ k_ ≠ gb111 ∧ k_ ≠ gb112 ∧ k_ ≠ gb115) (.slice A0_2 l0_2.length c0_2) l0_2) ∧ (w'.heap[gb110]? = some (.cells #[.int .i64 a0_0, .int .i64 a0_1, .slice A0_2 l0_2.length c0_2] 24 (0, 0))) ∧ (w'.heap[gb111]? = some (.cells #[.int .i64 0, .int .i64 0, .slice none 0 0] 24 (0, 0))) ∧ (w'.heap[gb112]? = some (.cells #[.int .i64 a1, .int .i64 a2] 50 (0, 0))) ∧ (w'.heap[gb115]? = some (.cells #[.int .i64 a1] 3 (0, 0))) ∧ (Below w.heap.size w w')) ?_ ?_
       rotate_left
       ·intro hCont
        refine two_ (i := 2) (j := 4) (Ni := some 50) (Nj := some 52) #[true, true, true, true, false, false, false, false] #[true, true, false, true, true, false, false, false] rfl rfl rfl rfl (two_of HT_.out (by kernel_rfl)) (by decide) (by decide) (fun K hK => ?_) (fun K hK => ?_)
        ·skip
         refine goes_ Try.func26 (by kernel_rfl) rfl #[.slice A0_2 l0_2.length c0_2] (by rfl) rfl rfl zm ?_
         with_reducible refine (sema_Ask_26.calls _ _ l0_2 t126 _ ?side1 ?side2 A78.out).mono ?_
         (case side1 => repeat (first | exact (Kd.V_reads' HO_111002.out).2.2 | (with_reducible refine Kd.C_alloc ?_ _) | (with_reducible refine Kd.C_drewN ?_ _) | (with_reducible refine Kd.C_drew ?_)))
         (case side2 => exact (Kd.V_reads' HO_111002.out).2.1)
         rintro e w88 ⟨v127, rfl, ho0, hb⟩
         refine ⟨_, rfl, ?_⟩
         replace HO_111002 := am (Kd.V_elder' (zV HO_111002) (Kd.R_base ho0) hb)
         have HO128 := am (Kd.R_lower (Kd.R_newB (Kd.R_newM (M := fun k_ => (w.heap.size ≤ k_)) ho0 (below_size (zc4 HB GE110 GE111 GE112 GE115)) (fun k_ h_ => h_)) (g := gb112) (o := .cells #[.int .i64 a1, .int .i64 a2] 50 (0, 0)) (zb BK112)) (below_size (zc4 HB GE110 GE111 GE112 GE115)))
         replace BK110 := zbb BK110 hb
         replace BK111 := zbb BK111 hb
         replace BK112 := zbb BK112 hb
         replace BK115 := zbb BK115 hb
         replace HB := am (below_step (zc4 HB GE110 GE111 GE112 GE115) hb)
         (try clear hb)
         (try clear hb2)
         (try clear hk)
         (try clear hi)
         (try clear ho0)
         refine hK.out _ _ ⟨(blk_cell BK110.out 0).trans rfl, (blk_cell BK110.out 1).trans rfl, (blk_cell BK110.out 2).trans rfl, (blk_cell BK112.out 0).trans rfl, (blk_cell BK112.out 1).trans rfl⟩ (fun hHeld => ?_)
         clear hK K
         refine norm_ (a' := ?_) ?_ ?_
         rotate_left
         ·show Act.put _ (some 50) _ = _
          simp only [Act.put, List.setIfInBounds_toArray, List.set_cons_zero, List.set_cons_succ, i64_w, i32_w]
          rfl
         refine one_ (i := 4) (N := some 52) #[true, true, true, true, true, false, false, false] rfl rfl (one_of HT_.out (by kernel_rfl)) (by decide) (fun K hK => ?_)
         refine Kd.R_lit_step k50 _ 50 ?hg (N := 52) ?hd (xs := ([(⟨a1, a2⟩ : S50)] : List (S50))) (inner := [.int .i64 a1, .int .i64 a2]) (ok := fun _ => True) (okp := fun _ => True) ?hr ?hp (fun _ hk => hk) trivial (Below.refl _ _) (Nat.le_refl _) (by simp) ?_; (case hd => rfl); (case hg => rfl); (case hr => first | (go_simp; done) | (go_simp; rfl)); (case hp => exact (Reps.c2 (show Kd.M k50 _ _ _ (⟨a1, a2⟩ : S50) [.int .i64 a1, .int .i64 a2] from (k50_mkM _ _ _ (⟨a1, a2⟩ : S50) )) (Reps.none _ _)))
         intro v130 w89 ho90 hb hg_ hnew_
         clear hg_ hnew_
         (first | rw [← Ny129.out] at ho90 | (simp only [Int.reduceToNat] at ho90; rw [← Ny129.out] at ho90))
         replace HO_111002 := am (Kd.V_elder' (zV HO_111002) (Kd.R_base ho90) hb)
         have HO131 := am (Kd.R_lower (Kd.R_newB (Kd.R_new' (Kd.R_newM (M := fun k_ => (w.heap.size ≤ k_)) ho90 (below_size (zc4 HB GE110 GE111 GE112 GE115)) (fun k_ h_ => h_)) (Kd.R_lt (zR HO128))) (g := gb112) (o := .cells #[.int .i64 a1, .int .i64 a2] 50 (0, 0)) (zb BK112)) (below_size (zc4 HB GE110 GE111 GE112 GE115)))
         replace HO128 := am (Kd.R_elder' (zR HO128) (Kd.R_base ho90) hb)
         replace BK110 := zbb BK110 hb
         replace BK111 := zbb BK111 hb
         replace BK112 := zbb BK112 hb
         replace BK115 := zbb BK115 hb
         replace HB := am (below_step (zc4 HB GE110 GE111 GE112 GE115) hb)
         clear hb ho90
         refine hK.out _ _ ⟨(blk_cell BK110.out 0).trans rfl, (blk_cell BK110.out 1).trans rfl, (blk_cell BK110.out 2).trans rfl, (blk_cell BK112.out 0).trans rfl, (blk_cell BK112.out 1).trans rfl⟩ (fun hHeld => ?_)
         clear hK K
         refine norm_ (a' := ?_) ?_ ?_
         rotate_left
         ·show Act.put _ (some 52) _ = _
          simp only [Act.put, List.setIfInBounds_toArray, List.set_cons_zero, List.set_cons_succ, i64_w, i32_w]
          rfl
         exact norm_ (by simp only [putAll, Act.put, List.setIfInBounds_toArray, List.set_cons_zero, List.set_cons_succ]) (hCont (v127, v130) _ ⟨hHeld, (by (with_reducible repeat (first | apply Kd.R_alloc | apply Kd.R_drewN | apply Kd.R_drew)); exact Kd.R_mono HO128.out (fun _ hk => ⟨hk.1.1.1, ⟨hk.2, hk.1.2⟩⟩)), (by (with_reducible repeat (first | apply Kd.R_alloc | apply Kd.R_drewN | apply Kd.R_drew)); exact Kd.R_mono HO131.out (fun _ hk => ⟨hk.1.1.1, ⟨hk.1.2, hk.2⟩⟩)), (by (with_reducible repeat (first | apply Kd.V_alloc | apply Kd.V_drewN | apply Kd.V_drew)); exact Kd.V_mono HO_111002.out (fun _ hk => ⟨hk.1.1.1.1, ⟨hk.1.2, ⟨hk.2, ⟨hk.1.1.1.2.1, ⟨hk.1.1.1.2.2.1, ⟨hk.1.1.1.2.2.2, hk.1.1.2⟩⟩⟩⟩⟩⟩)), (zb BK110), (zb BK111), (zb BK112), (zb BK115), (zc4 HB GE110 GE111 GE112 GE115)⟩)
        ·skip
         refine Kd.R_lit_step k50 _ 50 ?hg (N := 52) ?hd (xs := ([(⟨a1, a2⟩ : S50)] : List (S50))) (inner := [.int .i64 a1, .int .i64 a2]) (ok := fun _ => True) (okp := fun _ => True) ?hr ?hp (fun _ hk => hk) trivial (Below.refl _ _) (Nat.le_refl _) (by simp) ?_; (case hd => rfl); (case hg => rfl); (case hr => first | (go_simp; done) | (go_simp; rfl)); (case hp => exact (Reps.c2 (show Kd.M k50 _ _ _ (⟨a1, a2⟩ : S50) [.int .i64 a1, .int .i64 a2] from (k50_mkM _ _ _ (⟨a1, a2⟩ : S50) )) (Reps.none _ _)))
         intro v130 w88 ho89 hb hg_ hnew_
         clear hg_ hnew_
         (first | rw [← Ny129.out] at ho89 | (simp only [Int.reduceToNat] at ho89; rw [← Ny129.out] at ho89))
         replace HO_111002 := am (Kd.V_elder' (zV HO_111002) (Kd.R_base ho89) hb)
         have HO131 := am (Kd.R_lower (Kd.R_newB (Kd.R_newM (M := fun k_ => (w.heap.size ≤ k_)) ho89 (below_size (zc4 HB GE110 GE111 GE112 GE115)) (fun k_ h_ => h_)) (g := gb112) (o := .cells #[.int .i64 a1, .int .i64 a2] 50 (0, 0)) (zb BK112)) (below_size (zc4 HB GE110 GE111 GE112 GE115)))
         replace BK110 := zbb BK110 hb
         replace BK111 := zbb BK111 hb
         replace BK112 := zbb BK112 hb
         replace BK115 := zbb BK115 hb
         replace HB := am (below_step (zc4 HB GE110 GE111 GE112 GE115) hb)
         clear hb ho89
         refine hK.out _ _ ⟨(blk_cell BK110.out 0).trans rfl, (blk_cell BK110.out 1).trans rfl, (blk_cell BK110.out 2).trans rfl, (blk_cell BK112.out 0).trans rfl, (blk_cell BK112.out 1).trans rfl⟩ (fun hHeld => ?_)
         clear hK K
         refine norm_ (a' := ?_) ?_ ?_
         rotate_left
         ·show Act.put _ (some 52) _ = _
          simp only [Act.put, List.setIfInBounds_toArray, List.set_cons_zero, List.set_cons_succ, i64_w, i32_w]
          rfl
         refine one_ (i := 2) (N := some 50) #[true, true, true, true, true, false, false, false] rfl rfl (one_of HT_.out (by kernel_rfl)) (by decide) (fun K hK => ?_)
         refine goes_ Try.func26 (by kernel_rfl) rfl #[.slice A0_2 l0_2.length c0_2] (by rfl) rfl rfl zm ?_
         with_reducible refine (sema_Ask_26.calls _ _ l0_2 t126 _ ?side1 ?side2 A78.out).mono ?_
         (case side1 => repeat (first | exact (Kd.V_reads' HO_111002.out).2.2 | (with_reducible refine Kd.C_alloc ?_ _) | (with_reducible refine Kd.C_drewN ?_ _) | (with_reducible refine Kd.C_drew ?_)))
         (case side2 => exact (Kd.V_reads' HO_111002.out).2.1)
         rintro e w90 ⟨v127, rfl, ho0, hb⟩
         refine ⟨_, rfl, ?_⟩
         replace HO_111002 := am (Kd.V_elder' (zV HO_111002) (Kd.R_base ho0) hb)
         have HO128 := am (Kd.R_lower (Kd.R_newB (Kd.R_new' (Kd.R_newM (M := fun k_ => (w.heap.size ≤ k_)) ho0 (below_size (zc4 HB GE110 GE111 GE112 GE115)) (fun k_ h_ => h_)) (Kd.R_lt (zR HO131))) (g := gb112) (o := .cells #[.int .i64 a1, .int .i64 a2] 50 (0, 0)) (zb BK112)) (below_size (zc4 HB GE110 GE111 GE112 GE115)))
         replace HO131 := am (Kd.R_elder' (zR HO131) (Kd.R_base ho0) hb)
         replace BK110 := zbb BK110 hb
         replace BK111 := zbb BK111 hb
         replace BK112 := zbb BK112 hb
         replace BK115 := zbb BK115 hb
         replace HB := am (below_step (zc4 HB GE110 GE111 GE112 GE115) hb)
         (try clear hb)
         (try clear hb2)
         (try clear hk)
         (try clear hi)
         (try clear ho0)
         refine hK.out _ _ ⟨(blk_cell BK110.out 0).trans rfl, (blk_cell BK110.out 1).trans rfl, (blk_cell BK110.out 2).trans rfl, (blk_cell BK112.out 0).trans rfl, (blk_cell BK112.out 1).trans rfl⟩ (fun hHeld => ?_)
         clear hK K
         refine norm_ (a' := ?_) ?_ ?_
         rotate_left
         ·show Act.put _ (some 50) _ = _
          simp only [Act.put, List.setIfInBounds_toArray, List.set_cons_zero, List.set_cons_succ, i64_w, i32_w]
          rfl
         exact norm_ (by simp only [putAll, Act.put, List.setIfInBounds_toArray, List.set_cons_zero, List.set_cons_succ]) (hCont (v127, v130) _ ⟨hHeld, (by (with_reducible repeat (first | apply Kd.R_alloc | apply Kd.R_drewN | apply Kd.R_drew)); exact Kd.R_mono HO128.out (fun _ hk => ⟨hk.1.1.1, ⟨hk.1.2, hk.2⟩⟩)), (by (with_reducible repeat (first | apply Kd.R_alloc | apply Kd.R_drewN | apply Kd.R_drew)); exact Kd.R_mono HO131.out (fun _ hk => ⟨hk.1.1.1, ⟨hk.2, hk.1.2⟩⟩)), (by (with_reducible repeat (first | apply Kd.V_alloc | apply Kd.V_drewN | apply Kd.V_drew)); exact Kd.V_mono HO_111002.out (fun _ hk => ⟨hk.1.1.1.1, ⟨hk.2, ⟨hk.1.2, ⟨hk.1.1.1.2.1, ⟨hk.1.1.1.2.2.1, ⟨hk.1.1.1.2.2.2, hk.1.1.2⟩⟩⟩⟩⟩⟩)), (zb BK110), (zb BK111), (zb BK112), (zb BK115), (zc4 HB GE110 GE111 GE112 GE115)⟩)
       rintro ⟨v127, v130⟩ w91 ⟨hS_, h0_, h1_, h2_, h3_, h4_, h5_, h6_, h7_⟩
       have n0_ : Aside0 (Kd.R k50 50 w91 w.heap.size (fun k_ => (w.heap.size ≤ k_) ∧ some k_ ≠ (v130 : Value).ownBlock ∧ k_ ≠ gb112) v127 t126) := ⟨h0_⟩
       have n1_ : Aside0 (Kd.R k50 50 w91 w.heap.size (fun k_ => (w.heap.size ≤ k_) ∧ some k_ ≠ (v127 : Value).ownBlock ∧ k_ ≠ gb112) v130 y129) := ⟨h1_⟩
       have n2_ : Aside0 (Kd.V k50 50 w91 w.heap.size (fun k_ => (P0_2_ k_ ∨ w.heap.size ≤ k_) ∧ some k_ ≠ (v127 : Value).ownBlock ∧ some k_ ≠ (v130 : Value).ownBlock ∧ k_ ≠ gb110 ∧ k_ ≠ gb111 ∧ k_ ≠ gb112 ∧ k_ ≠ gb115) (.slice A0_2 l0_2.length c0_2) l0_2) := ⟨h2_⟩
       have n3_ : Aside0 (w91.heap[gb110]? = some (.cells #[.int .i64 a0_0, .int .i64 a0_1, .slice A0_2 l0_2.length c0_2] 24 (0, 0))) := ⟨h3_⟩
       have n4_ : Aside0 (w91.heap[gb111]? = some (.cells #[.int .i64 0, .int .i64 0, .slice none 0 0] 24 (0, 0))) := ⟨h4_⟩
       have n5_ : Aside0 (w91.heap[gb112]? = some (.cells #[.int .i64 a1, .int .i64 a2] 50 (0, 0))) := ⟨h5_⟩
       have n6_ : Aside0 (w91.heap[gb115]? = some (.cells #[.int .i64 a1] 3 (0, 0))) := ⟨h6_⟩
       have n7_ : Aside0 (Below w.heap.size w w91) := ⟨h7_⟩
       clear HO_111002
       clear BK110
       clear BK111
       clear BK112
       clear BK115
       clear HB
       clear h0_ h1_ h2_ h3_ h4_ h5_ h6_ h7_
       have HO128 := n0_
       have HO131 := n1_
       have HO_111002 := n2_
       have BK110 := n3_
       have BK111 := n4_
       have BK112 := n5_
       have BK115 := n6_
       have HB := n7_
       clear n0_ n1_ n2_ n3_ n4_ n5_ n6_ n7_
       have hHeld : w91.cell? ⟨gb110, 0, none⟩ = some (.int .i64 a0_0) ∧ w91.cell? ⟨gb110, 1, none⟩ = some (.int .i64 a0_1) ∧ w91.cell? ⟨gb110, 2, none⟩ = some (.slice A0_2 l0_2.length c0_2) ∧ w91.cell? ⟨gb112, 0, none⟩ = some (.int .i64 a1) ∧ w91.cell? ⟨gb112, 1, none⟩ = some (.int .i64 a2) := hS_
       obtain ⟨Ao93, co93, eo93⟩ := Kd.R_slice HO131.out
       (first | subst eo93 | (injection eo93 with f1_ f2_ f3_; have f4_ := f1_.symm; have f5_ := f3_.symm; clear f1_ f2_ f3_; subst f4_; subst f5_))
       refine norm_ (a' := ?_) ?_ ?_
       rotate_left
       ·simp only [putAll, Act.put, List.setIfInBounds_toArray, List.set_cons_zero, List.set_cons_succ]
        rfl
       refine one_ (i := 5) (N := some 53) #[true, true, true, true, true, true, false, false] rfl rfl (one_of HT_.out (by kernel_rfl)) (by decide) (fun K hK => ?_)
       refine Kd.R_append_rows_step k50 (w0 := w) w.heap.size (by rfl) (.tmp 50) (.tmp 52) 22 50 (.agg #[(.int .i64 0), (.int .i64 0)]) 16 rfl Try.underlying22 info50 rfl (by decide) (by omega) v127 t126 y129 _ _ _ (fun k_ => (w.heap.size ≤ k_) ∧ some k_ ≠ (.slice Ao93 y129.length co93 : Value).ownBlock ∧ k_ ≠ gb112) (fun _ => False) rfl rfl ?aO ?aR (fun _ _ h => h) (fun _ h => h.elim) ?aF ?aB ?aS ?aL ?_
       (case aR => repeat (first | exact (Kd.R_reads' HO131.out).2.2 | (with_reducible refine Kd.C_alloc ?_ _) | (with_reducible refine Kd.C_drewN ?_ _) | (with_reducible refine Kd.C_drew ?_)))
       (case aB => exact (zc4 HB GE110 GE111 GE112 GE115))
       (case aF => exact (fun k_ hk => ⟨(Nat.le_trans (below_size (zc4 HB GE110 GE111 GE112 GE115)) hk), Kd.fresh' (Kd.R_lt (zR HO131)) k_ hk, Kd.freshB (g := gb112) (o := .cells #[.int .i64 a1, .int .i64 a2] 50 (0, 0)) (zb BK112) k_ hk⟩))
       (case aO => exact (zR HO128))
       (case aS => exact (below_size (zc4 HB GE110 GE111 GE112 GE115)))
       (case aL => have := LMc79.out; omega)
       intro v133 w92 ho hb hg hat
       rw [← Ny132.out] at ho
       replace HO_111002 := am (Kd.V_afterv (ok := (fun k_ => (P0_2_ k_ ∨ w.heap.size ≤ k_) ∧ some k_ ≠ (.slice Ao93 y129.length co93 : Value).ownBlock ∧ k_ ≠ gb110 ∧ k_ ≠ gb111 ∧ k_ ≠ gb112 ∧ k_ ≠ gb115)) (by (with_reducible repeat (first | apply Kd.V_alloc | apply Kd.V_drewN | apply Kd.V_drew)); exact Kd.V_mono HO_111002.out (fun _ hk => ⟨⟨hk.1, ⟨hk.2.2.1, ⟨hk.2.2.2.1, ⟨hk.2.2.2.2.1, ⟨hk.2.2.2.2.2.1, hk.2.2.2.2.2.2⟩⟩⟩⟩⟩, hk.2.1⟩)) hg hat)
       replace BK110 := am (blk_grown (g := gb110) (o := .cells #[.int .i64 a0_0, .int .i64 a0_1, .slice A0_2 l0_2.length c0_2] 24 (0, 0)) (zb BK110) hg (Kd.R_ne HO128.out BK110.out (by decide)))
       replace BK111 := am (blk_grown (g := gb111) (o := .cells #[.int .i64 0, .int .i64 0, .slice none 0 0] 24 (0, 0)) (zb BK111) hg (Kd.R_ne HO128.out BK111.out (by decide)))
       replace BK112 := am (blk_grown (g := gb112) (o := .cells #[.int .i64 a1, .int .i64 a2] 50 (0, 0)) (zb BK112) hg (Kd.R_away HO128.out (fun _ hk => hk.2.2)))
       replace BK115 := am (blk_grown (g := gb115) (o := .cells #[.int .i64 a1] 3 (0, 0)) (zb BK115) hg (Kd.R_ne HO128.out BK115.out (by decide)))
       replace HO131 := am (Kd.R_after (ok := (fun k_ => (w.heap.size ≤ k_) ∧ k_ ≠ gb112)) (by (with_reducible repeat (first | apply Kd.R_alloc | apply Kd.R_drewN | apply Kd.R_drew)); exact Kd.R_mono HO131.out (fun _ hk => ⟨⟨hk.1, hk.2.2⟩, hk.2.1⟩)) hg hat)
       replace HB := am (hb)
       have HO134 := am (ho)
       clear HO128
       clear ho hb hg hat
       obtain ⟨Ao94, co94, eo94⟩ := Kd.R_slice HO134.out
       (first | subst eo94 | (injection eo94 with f1_ f2_ f3_; have f4_ := f1_.symm; have f5_ := f3_.symm; clear f1_ f2_ f3_; subst f4_; subst f5_))
       refine hK.out _ _ ⟨(blk_cell BK110.out 0).trans rfl, (blk_cell BK110.out 1).trans rfl, (blk_cell BK110.out 2).trans rfl, (blk_cell BK112.out 0).trans rfl, (blk_cell BK112.out 1).trans rfl⟩ (fun hHeld => ?_)
       clear hK K
       refine norm_ (a' := ?_) ?_ ?_
       rotate_left
       ·show Act.put _ (some 53) _ = _
        simp only [Act.put, List.setIfInBounds_toArray, List.set_cons_zero, List.set_cons_succ, i64_w, i32_w]
        rfl
       refine pure_ (i := 6) (N := some 54) (v := ?_) (a' := ?_) #[true, true, true, true, true, true, true, false] rfl rfl (any_of HT_.out (by kernel_rfl)) (fun _ _ _ h => h) (Or.inl ⟨by rfl, ?_⟩) ?_ ?_
       rotate_left
       ·intro w'
        go_simp
        with_reducible rfl
       rotate_left
       ·simp only [Act.put, List.setIfInBounds_toArray, List.set_cons_zero, List.set_cons_succ, i64_w, i32_w]
        rfl
       refine last_ (i := 7) (N := none) #[true, true, true, true, true, true, true, true] rfl rfl (one_of HT_.out (by kernel_rfl)) (by decide) (fun K hK => ?_)
       have hs95 : w92.cell? ⟨gb110, 2, none⟩ = some (.slice A0_2 l0_2.length c0_2) := (blk_cell BK110.out 2).trans rfl
       have hfs95 := blk_frozen BK110.out 2
       have hns95_1 := NB111_110.out
       have hns95_2 := NB112_110.out
       have hns95_3 := NB115_110.out
       have hms95_1 := NB110_111.out
       have hms95_2 := NB110_112.out
       have hms95_3 := NB110_115.out
       refine skip_ (w1 := ?_) (by rfl) rfl ?_ ?_
       rotate_left
       ·go_simp
        rfl
       refine hK.out _ _ ?_
       clear hK K
       refine done_ (done_of HT_.out (by kernel_rfl)) ?_
       have hcz96_0 : w92.cell? ⟨gb110, 0, none⟩ = some (.int .i64 a0_0) := (blk_cell BK110.out 0).trans rfl
       have hcz96_1 : w92.cell? ⟨gb110, 1, none⟩ = some (.int .i64 a0_1) := (blk_cell BK110.out 1).trans rfl
       have hcz96_2 : w92.cell? ⟨gb110, 2, none⟩ = some (.slice A0_2 l0_2.length c0_2) := (blk_cell BK110.out 2).trans rfl
       have hfz96_0 := blk_frozen BK110.out 0
       have hfz96_1 := blk_frozen BK110.out 1
       have hfz96_2 := blk_frozen BK110.out 2
       have hnb97 := NB111_112.out
       have hnc97 := NB112_111.out
       have hnb98 := NB111_115.out
       have hnc98 := NB115_111.out
       have hcz99_0 : w92.cell? ⟨gb111, 0, none⟩ = some (.int .i64 0) := (blk_cell BK111.out 0).trans rfl
       have hcz99_1 : w92.cell? ⟨gb111, 1, none⟩ = some (.int .i64 0) := (blk_cell BK111.out 1).trans rfl
       have hcz99_2 : w92.cell? ⟨gb111, 2, none⟩ = some (.slice none 0 0) := (blk_cell BK111.out 2).trans rfl
       have hfz99_0 := blk_frozen BK111.out 0
       have hfz99_1 := blk_frozen BK111.out 1
       have hfz99_2 := blk_frozen BK111.out 2
       try go_wp2
       refine bodyPost_ret (results_ctt rfl _ _ gb111 24 #[.int .i64 a0_0, .int .i64 a0_1, .slice Ao94 y132.length co94] (0, 0) _ rfl (by (with_reducible repeat (first | refine blk_drewN ?_ _ | refine blk_drew ?_ | refine blk_alloc ?_ _)); refine blk_put (cs := #[.int .i64 a0_0, .int .i64 a0_1, .slice none 0 0]) ?_ 2 _ rfl; (with_reducible repeat (first | refine blk_drewN ?_ _ | refine blk_drew ?_ | refine blk_alloc ?_ _)); refine blk_put (cs := #[.int .i64 a0_0, .int .i64 0, .slice none 0 0]) ?_ 1 _ rfl; (with_reducible repeat (first | refine blk_drewN ?_ _ | refine blk_drew ?_ | refine blk_alloc ?_ _)); refine blk_put (cs := #[.int .i64 0, .int .i64 0, .slice none 0 0]) ?_ 0 _ rfl; (with_reducible repeat (first | refine blk_drewN ?_ _ | refine blk_drew ?_ | refine blk_alloc ?_ _)); refine blk_far ?_ NB111_110.out _; (with_reducible repeat (first | refine blk_drewN ?_ _ | refine blk_drew ?_ | refine blk_alloc ?_ _)); exact BK111.out) Try.underlying24 rfl (by kernel_rfl)) rfl ?_
       exact ⟨_, by first | rfl | (simp [errW_none, errW_some] <;> rfl) | (simp [*, errW_none, errW_some] <;> rfl), Kd.V_mono (Kd.R_V (Kd.R_mono (ok' := fun k_ => (w.heap.size ≤ k_)) (by (with_reducible repeat (first | apply Kd.R_alloc | apply Kd.R_drewN | apply Kd.R_drew)); exact Kd.R_mono (Kd.R_far (p := ⟨gb111, 2, none⟩) (Kd.R_far (p := ⟨gb111, 1, none⟩) (Kd.R_far (p := ⟨gb111, 0, none⟩) (Kd.R_far (p := ⟨gb110, 2, none⟩) (Kd.R_types (Kd.R_types HO134.out BK110.out (by decide)) BK111.out (by decide)) (fun _ hk => hk.1.2) (.slice Ao94 y132.length co94)) (fun _ hk => hk.2) (.int .i64 a0_0)) (fun _ hk => hk.2) (.int .i64 a0_1)) (fun _ hk => hk.2) (.slice Ao94 y132.length co94)) (fun _ hk => hk.1.1.1)) (fun _ h_ => h_))) (fun k_ hk => by first | exact ⟨(.inr (hk.1)), hk.2⟩ | exact (.inr (hk))), by repeat (first | (with_reducible first | exact HB.out | apply below_alloc | apply pw_below_drewN | apply below_drew1 | refine below_set ?_ GE110.out | refine below_set ?_ GE111.out | refine below_set ?_ GE112.out | refine below_set ?_ GE115.out) | exact HB.out)⟩
      ·rw [if_neg c79] at H
       exact absurd H (by simp)

end Go.Proofs.Ythbcajkphkdnmaa.PSemaTells
