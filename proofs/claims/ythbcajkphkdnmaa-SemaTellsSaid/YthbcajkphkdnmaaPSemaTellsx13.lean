/- Lean functions that say what functions of the given program compute, and proofs by walking the code that each call does just that; no condition but those that each statement names. -/
import Derived.Test.YthbcajkphkdnmaaPSemaTellsx0
import Derived.Test.YthbcajkphkdnmaaPSemaTellsx9
import Derived.Test.YthbcajkphkdnmaaPSemaTellsx10
import Derived.Test.YthbcajkphkdnmaaPSemaTellsx12
namespace Go.Proofs.Ythbcajkphkdnmaa.PSemaTells
open Go.RowKit Go.Proofs.YthbcajkphkdnmaaW.PrintWords Go.Proofs.YthbcajkphkdnmaaW.PrintLast Go.Proofs.YthbcajkphkdnmaaW.PrintMore
attribute [local go_sem] max2_int min2_int max_two min_two max_three min_three max_four min_four   -- for this text's walks alone
set_option linter.unusedVariables false
set_option linter.unusedSimpArgs false

/-! ### handshakerref18_Give: function 14 -/
def handshakerref18_Give.j0 : Nat → Int → Bool → Int → Int → List (S61) → Option (Int × Int × (List (S61)) × (List (S61)) × Int)
 | 0, _, _, _, _, _ => none
 | k + 1, x1, x17, x307000, x307001, x307002 => if x17 = true then (some (x307000, x307001, x307002, ([] : List (S61)), 1)) else (if x1 > 100 then (some (x307000, x307001, x307002, ([] : List (S61)), 4)) else (if (wrap64 (x307001 + x1)) > x307000 then (some (x307000, x307001, x307002, ([] : List (S61)), 4)) else ((handshakerref18_serve.f k x307000 (wrap64 (x307001 + x1)) x307002 ([] : List (S61))).bind fun bt309 => (some (bt309.1, bt309.2.1, bt309.2.2.1, bt309.2.2.2, 0)))))
def handshakerref18_Give.f (k : Nat) (a0_0 : Int) (a0_1 : Int) (l0_2 : List (S61)) (a1 : Int) : Option (Int × Int × (List (S61)) × (List (S61)) × Int) := (handshakerref18_Right.f k a0_0 a0_1 l0_2).bind fun t308 => (if t308 = true then (handshakerref18_Give.j0 k a1 (decide (a1 < 1)) a0_0 a0_1 l0_2) else (handshakerref18_Give.j0 k a1 true a0_0 a0_1 l0_2))
theorem handshakerref18_Give.mono_l : ∀ k, (∀ y0 y1 y2 y3 y4, LeO (handshakerref18_Give.j0 k y0 y1 y2 y3 y4) (handshakerref18_Give.j0 (k + 1) y0 y1 y2 y3 y4))
 | 0 => fun _ _ _ _ _ r h => by simp [handshakerref18_Give.j0] at h
 | k + 1 => by
  have ih0 := handshakerref18_Give.mono_l k
  ·intro y0 y1 y2 y3 y4
   unfold handshakerref18_Give.j0
   repeat' first
   | (with_reducible exact ih0 _ _ _ _ _)
   | (with_reducible exact handshakerref18_Right.mono _ _ _ _)
   | (with_reducible exact handshakerref18_serve.mono _ _ _ _ _)
   | (with_reducible exact LeO.refl _)
   | (with_reducible exact LeO.none _)
   | (with_reducible refine LeO.ite ?_ ?_)
   | (with_reducible refine LeO.bind ?_ (fun _ => ?_))
   | exact ih0 _ _ _ _ _
   | exact handshakerref18_Right.mono _ _ _ _
   | exact handshakerref18_serve.mono _ _ _ _ _
   | exact LeO.none _
   | refine LeO.ite ?_ ?_
   | refine LeO.bind ?_ (fun _ => ?_)
theorem handshakerref18_Give.mono : ∀ a0 a1 a2 a3 k, LeO (handshakerref18_Give.f k a0 a1 a2 a3) (handshakerref18_Give.f (k + 1) a0 a1 a2 a3) := by
 intro a0 a1 a2 a3 k
 have ih0 := handshakerref18_Give.mono_l k
 unfold handshakerref18_Give.f
 repeat' first
   | (with_reducible exact ih0 _ _ _ _ _)
   | (with_reducible exact handshakerref18_Right.mono _ _ _ _)
   | (with_reducible exact handshakerref18_serve.mono _ _ _ _ _)
   | (with_reducible exact LeO.refl _)
   | (with_reducible exact LeO.none _)
   | (with_reducible refine LeO.ite ?_ ?_)
   | (with_reducible refine LeO.bind ?_ (fun _ => ?_))
   | exact ih0 _ _ _ _ _
   | exact handshakerref18_Right.mono _ _ _ _
   | exact handshakerref18_serve.mono _ _ _ _ _
   | exact LeO.none _
   | refine LeO.ite ?_ ?_
   | refine LeO.bind ?_ (fun _ => ?_)
set_option maxHeartbeats 8000000 in
set_option maxRecDepth 100000 in
theorem handshakerref18_Give.calls (k : Nat) (a0_0 : Int) (a0_1 : Int) (P0_2_ : Nat → Prop) (A0_2 : Option Addr) (c0_2 : Nat) (l0_2 : List (S61)) (a1 : Int) (r1 : Int) (r2 : Int) (r3 : List (S61)) (r4 : List (S61)) (r5 : Int) (w : World) (hs0_2 : Kd.V k61 61 w w.heap.size (fun k_ => P0_2_ k_) (.slice A0_2 l0_2.length c0_2) l0_2) (h : handshakerref18_Give.f k a0_0 a0_1 l0_2 a1 = some (r1, r2, r3, r4, r5)) :
  Calls Try.prog 14 #[.agg #[.int .i64 a0_0, .int .i64 a0_1, .slice A0_2 l0_2.length c0_2], .int .i64 a1] w fun e w' => ∃ v2_ v3_ : Value, e = .returned (.tuple #[.agg #[.int .i64 r1, .int .i64 r2, v2_], v3_, .int .i64 r5]) ∧ Kd.V k61 61 w' w.heap.size (fun k_ => (P0_2_ k_ ∨ w.heap.size ≤ k_) ∧ some k_ ≠ (v3_ : Value).ownBlock) v2_ r3 ∧ Kd.R k61 61 w' w.heap.size (fun k_ => (w.heap.size ≤ k_)) v3_ r4 ∧ Below w.heap.size w w' := by
 have hu28 := Try.underlying28
 have HO0_2 := am (show Kd.V k61 61 w w.heap.size (fun k_ => (P0_2_ k_ ∨ w.heap.size ≤ k_)) (.slice A0_2 l0_2.length c0_2) l0_2 from Kd.V_mono hs0_2 (fun k_ hk => .inl hk))
 have HB := am (Below.refl w.heap.size w)
 have H : ((handshakerref18_Right.f k a0_0 a0_1 l0_2).bind fun t308 => (if t308 = true then (handshakerref18_Give.j0 k a1 (decide (a1 < 1)) a0_0 a0_1 l0_2) else (handshakerref18_Give.j0 k a1 true a0_0 a0_1 l0_2))) = some (r1, r2, r3, r4, r5) := h
 clear h
 replace H := Option.bind_eq_some_iff.mp H
 obtain ⟨t308, A30, H⟩ := H
 try dsimp only at H
 have A3 := am A30
 clear A30
 have HC4 := am H
 clear H
 go_enter Try.func14, Try.ntmps14
 go_upto_region 2 with (first | ((with_reducible refine gate_dst (N := 2) rfl ?_); refine box_event ?hg (N := 2) ?hd (cs := #[.int .i64 a0_0, .int .i64 a0_1, .slice A0_2 l0_2.length c0_2]) (t := 28) ?hr ?_; (case hd => rfl); (case hg => rfl); (case hr => first | (go_simp; done) | (go_simp; rfl)); intro gb306 hg w5 hbox hb; replace HO0_2 := zVe HO0_2 hg hb; have BK306 := am (hbox); have GW306 := zsz hg (zc0 HB); have GE306 := zsz hg (zc0 HB); replace HB := am (below_step (zc0 HB) hb); clear hb hbox hg) | ((with_reducible refine gate_dst (N := 4) rfl ?_); refine box_event ?hg (N := 4) ?hd (cs := #[.int .i64 0, .int .i64 0, .slice none 0 0]) (t := 28) ?hr ?_; (case hd => rfl); (case hg => rfl); (case hr => first | (go_simp; done) | (go_simp; rfl)); intro gb307 hg w6 hbox hb; replace HO0_2 := zVe HO0_2 hg hb; have BK307 := am (hbox); have GW307 := zsz hg (zc1 HB GE306); have GE307 := zsz hg (zc1 HB GE306); replace HB := am (below_step (zc1 HB GE306) hb); have NB306_307 := znt BK306 hg; have NB307_306 := zng BK306 hg; replace BK306 := zbb BK306 hb; clear hb hbox hg; have hnb7 := NB306_307.out; have hnc7 := NB307_306.out; have hcz8_0 : w6.cell? ⟨gb306, 0, none⟩ = some (.int .i64 a0_0) := (blk_cell BK306.out 0).trans rfl; have hcz8_1 : w6.cell? ⟨gb306, 1, none⟩ = some (.int .i64 a0_1) := (blk_cell BK306.out 1).trans rfl; have hcz8_2 : w6.cell? ⟨gb306, 2, none⟩ = some (.slice A0_2 l0_2.length c0_2) := (blk_cell BK306.out 2).trans rfl; have hfz8_0 := blk_frozen BK306.out 0; have hfz8_1 := blk_frozen BK306.out 1; have hfz8_2 := blk_frozen BK306.out 2) | ((with_reducible refine gate_callee (f := 18) rfl ?_); refine goesL_ (some 11) rfl rfl Try.func18 (by kernel_rfl) rfl #[.agg #[.int .i64 a0_0, .int .i64 a0_1, .slice A0_2 l0_2.length c0_2]] rfl zm ?_; (with_reducible refine (handshakerref18_Right.calls k a0_0 a0_1 _ _ l0_2 t308 _ ?side1 ?side2 A3.out).mono ?_); (case side1 => repeat (first | exact (Kd.V_reads' HO0_2.out).2.2 | (with_reducible refine Kd.C_alloc ?_ _) | (with_reducible refine Kd.C_drewN ?_ _) | (with_reducible refine Kd.C_drew ?_))); (case side2 => exact (Kd.V_reads' HO0_2.out).2.1); rintro e w9 ⟨rfl, hb⟩; refine ⟨_, rfl, ?_⟩; replace HO0_2 := zVb HO0_2 hb; replace BK306 := zbb BK306 hb; replace BK307 := zbb BK307 hb; replace HB := am (below_step (zc2 HB GE306 GE307) hb); (try clear hb); (try clear hb2); (try clear hk); (try clear hi)))
 (try simp only [Act.put, List.setIfInBounds_toArray, List.set_cons_zero, List.set_cons_succ])
 go_cut [17] (fun v17 wc => ∃ (kq : Nat) (x17_3 : Bool), v17 = .bool x17_3 ∧ Aside0 (handshakerref18_Give.j0 kq a1 x17_3 a0_0 a0_1 l0_2 = some (r1, r2, r3, r4, r5)) ∧ Aside0 (kq ≤ k) ∧ Aside0 (Kd.V k61 61 wc w.heap.size (fun k_ => (P0_2_ k_ ∨ w.heap.size ≤ k_) ∧ k_ ≠ gb306 ∧ k_ ≠ gb307) (.slice A0_2 l0_2.length c0_2) l0_2) ∧ Aside0 (wc.heap[gb306]? = some (.cells #[.int .i64 a0_0, .int .i64 a0_1, (.slice A0_2 l0_2.length c0_2)] 28 (0, 0))) ∧ Aside0 (wc.heap[gb307]? = some (.cells #[.int .i64 0, .int .i64 0, (.slice none 0 0)] 28 (0, 0))) ∧ Aside0 (Below w.heap.size w wc))
 case first =>
  have H := HC4.out
  clear HC4
  by_cases c10 : t308 = true
  ·subst c10
   have H1 : (handshakerref18_Give.j0 k a1 (decide (a1 < 1)) a0_0 a0_1 l0_2) = some (r1, r2, r3, r4, r5) := by rw [if_pos rfl] at H; exact H
   clear H
   have H := H1
   clear H1
   have H' := am H
   clear H
   go_wp2
   go_meet
   case rel => exact ⟨_, (decide (a1 < 1)), (by first | rfl | (simp; done) | (simp [*]; done)), H', ⟨by first | omega | exact Nat.le_refl _⟩, ⟨by (with_reducible repeat (first | apply Kd.V_alloc | apply Kd.V_drewN | apply Kd.V_drew)); exact Kd.V_mono HO0_2.out (fun _ hk => ⟨hk.1.1, ⟨hk.1.2, hk.2⟩⟩)⟩, ⟨by (with_reducible repeat (first | refine blk_drewN ?_ _ | refine blk_drew ?_ | refine blk_alloc ?_ _)); exact BK306.out⟩, ⟨by (with_reducible repeat (first | refine blk_drewN ?_ _ | refine blk_drew ?_ | refine blk_alloc ?_ _)); exact BK307.out⟩, ⟨by repeat (first | (with_reducible first | exact HB.out | apply below_alloc | apply pw_below_drewN | apply below_drew1 | refine below_set ?_ GE306.out | refine below_set ?_ GE307.out) | exact HB.out)⟩⟩
  ·replace c10 := Bool.eq_false_iff.mpr c10
   subst c10
   have H1 : (handshakerref18_Give.j0 k a1 true a0_0 a0_1 l0_2) = some (r1, r2, r3, r4, r5) := by rw [if_neg (show ¬ (false = true) by decide)] at H; exact H
   clear H
   have H := H1
   clear H1
   have H' := am H
   clear H
   go_wp2
   go_meet
   case rel => exact ⟨_, (true), (by first | rfl | (simp; done) | (simp [*]; done)), H', ⟨by first | omega | exact Nat.le_refl _⟩, ⟨by (with_reducible repeat (first | apply Kd.V_alloc | apply Kd.V_drewN | apply Kd.V_drew)); exact Kd.V_mono HO0_2.out (fun _ hk => ⟨hk.1.1, ⟨hk.1.2, hk.2⟩⟩)⟩, ⟨by (with_reducible repeat (first | refine blk_drewN ?_ _ | refine blk_drew ?_ | refine blk_alloc ?_ _)); exact BK306.out⟩, ⟨by (with_reducible repeat (first | refine blk_drewN ?_ _ | refine blk_drew ?_ | refine blk_alloc ?_ _)); exact BK307.out⟩, ⟨by repeat (first | (with_reducible first | exact HB.out | apply below_alloc | apply pw_below_drewN | apply below_drew1 | refine below_set ?_ GE306.out | refine below_set ?_ GE307.out) | exact HB.out)⟩⟩
 case rest =>
  clear HC4
  try clear c1
  try clear p2
  try clear c7
  try clear c10
  try clear hcz8_0
  try clear hcz8_1
  try clear hcz8_2
  try clear hfz8_0
  try clear hfz8_1
  try clear hfz8_2
  obtain ⟨kq, x17_3, rfl, HA, HJ3, HO_307002, BK306, BK307, HB⟩ := hcut
  cases kq with
  | zero => exact absurd HA.out (by simp [handshakerref18_Give.j0])
  | succ kj3 =>
   have H := HA.out
   clear HA
   simp only [handshakerref18_Give.j0] at H
   by_cases c11 : x17_3 = true
   ·subst c11
    have H1 : (some (a0_0, a0_1, l0_2, ([] : List (S61)), 1)) = some (r1, r2, r3, r4, r5) := by rw [if_pos rfl] at H; exact H
    clear H
    have H := H1
    clear H1
    simp only [Option.some.injEq, Prod.mk.injEq] at H
    obtain ⟨rfl, rfl, rfl, rfl, rfl⟩ := H
    have hnb12 := NB306_307.out
    have hnc12 := NB307_306.out
    have hcz13_0 : wc.cell? ⟨gb306, 0, none⟩ = some (.int .i64 a0_0) := (blk_cell BK306.out 0).trans rfl
    have hcz13_1 : wc.cell? ⟨gb306, 1, none⟩ = some (.int .i64 a0_1) := (blk_cell BK306.out 1).trans rfl
    have hcz13_2 : wc.cell? ⟨gb306, 2, none⟩ = some (.slice A0_2 l0_2.length c0_2) := (blk_cell BK306.out 2).trans rfl
    have hfz13_0 := blk_frozen BK306.out 0
    have hfz13_1 := blk_frozen BK306.out 1
    have hfz13_2 := blk_frozen BK306.out 2
    have hcz14_0 : wc.cell? ⟨gb307, 0, none⟩ = some (.int .i64 0) := (blk_cell BK307.out 0).trans rfl
    have hcz14_1 : wc.cell? ⟨gb307, 1, none⟩ = some (.int .i64 0) := (blk_cell BK307.out 1).trans rfl
    have hcz14_2 : wc.cell? ⟨gb307, 2, none⟩ = some (.slice none 0 0) := (blk_cell BK307.out 2).trans rfl
    have hfz14_0 := blk_frozen BK307.out 0
    have hfz14_1 := blk_frozen BK307.out 1
    have hfz14_2 := blk_frozen BK307.out 2
    go_wp2
    refine bodyPost_ret (results_ctt rfl _ _ gb307 28 #[.int .i64 a0_0, .int .i64 a0_1, .slice A0_2 l0_2.length c0_2] (0, 0) _ rfl (by (with_reducible repeat (first | refine blk_drewN ?_ _ | refine blk_drew ?_ | refine blk_alloc ?_ _)); refine blk_put (cs := #[.int .i64 a0_0, .int .i64 a0_1, .slice none 0 0]) ?_ 2 _ rfl; (with_reducible repeat (first | refine blk_drewN ?_ _ | refine blk_drew ?_ | refine blk_alloc ?_ _)); refine blk_put (cs := #[.int .i64 a0_0, .int .i64 0, .slice none 0 0]) ?_ 1 _ rfl; (with_reducible repeat (first | refine blk_drewN ?_ _ | refine blk_drew ?_ | refine blk_alloc ?_ _)); refine blk_put (cs := #[.int .i64 0, .int .i64 0, .slice none 0 0]) ?_ 0 _ rfl; (with_reducible repeat (first | refine blk_drewN ?_ _ | refine blk_drew ?_ | refine blk_alloc ?_ _)); exact BK307.out) Try.underlying28 rfl (by kernel_rfl)) rfl ?_
    exact ⟨_, _, by first | rfl | (simp [errW_none, errW_some] <;> rfl) | (simp [*, errW_none, errW_some] <;> rfl), by (with_reducible repeat (first | apply Kd.V_alloc | apply Kd.V_drewN | apply Kd.V_drew)); exact Kd.V_mono (Kd.V_far (p := ⟨gb307, 2, none⟩) (Kd.V_far (p := ⟨gb307, 1, none⟩) (Kd.V_far (p := ⟨gb307, 0, none⟩) (Kd.V_mono HO_307002.out (fun k_ hk => (⟨hk, hk.2.2⟩ : _ ∧ k_ ≠ gb307))) (fun _ hk => hk.2) (.int .i64 a0_0)) (fun _ hk => hk.2) (.int .i64 a0_1)) (fun _ hk => hk.2) (.slice A0_2 l0_2.length c0_2)) (fun _ hk => ⟨hk.1.1, (by simp [Value.ownBlock])⟩), by first | exact Kd.R_nil _ _ _ _ _ | exact Kd.N_nil _ _ _ _ _ | exact Kd.V_nil _ _ _ _ _ | exact Kd.Q_nil _ _ _ _ _ | exact Kd.S_nil _ _ _ _ _, by repeat (first | (with_reducible first | exact HB.out | apply below_alloc | apply pw_below_drewN | apply below_drew1 | refine below_set ?_ GE306.out | refine below_set ?_ GE307.out) | exact HB.out)⟩
   ·replace c11 := Bool.eq_false_iff.mpr c11
    subst c11
    have H1 : (if a1 > 100 then (some (a0_0, a0_1, l0_2, ([] : List (S61)), 4)) else (if (wrap64 (a0_1 + a1)) > a0_0 then (some (a0_0, a0_1, l0_2, ([] : List (S61)), 4)) else ((handshakerref18_serve.f kj3 a0_0 (wrap64 (a0_1 + a1)) l0_2 ([] : List (S61))).bind fun bt309 => (some (bt309.1, bt309.2.1, bt309.2.2.1, bt309.2.2.2, 0))))) = some (r1, r2, r3, r4, r5) := by rw [if_neg (show ¬ (false = true) by decide)] at H; exact H
    clear H
    have H := H1
    clear H1
    by_cases c15 : a1 > 100
    ·rw [if_pos c15] at H
     have c15b0 : decide (100 < a1) = true := decide_eq_true c15
     clear c15
     simp only [Option.some.injEq, Prod.mk.injEq] at H
     obtain ⟨rfl, rfl, rfl, rfl, rfl⟩ := H
     have hnb16 := NB306_307.out
     have hnc16 := NB307_306.out
     have hcz17_0 : wc.cell? ⟨gb306, 0, none⟩ = some (.int .i64 a0_0) := (blk_cell BK306.out 0).trans rfl
     have hcz17_1 : wc.cell? ⟨gb306, 1, none⟩ = some (.int .i64 a0_1) := (blk_cell BK306.out 1).trans rfl
     have hcz17_2 : wc.cell? ⟨gb306, 2, none⟩ = some (.slice A0_2 l0_2.length c0_2) := (blk_cell BK306.out 2).trans rfl
     have hfz17_0 := blk_frozen BK306.out 0
     have hfz17_1 := blk_frozen BK306.out 1
     have hfz17_2 := blk_frozen BK306.out 2
     have hcz18_0 : wc.cell? ⟨gb307, 0, none⟩ = some (.int .i64 0) := (blk_cell BK307.out 0).trans rfl
     have hcz18_1 : wc.cell? ⟨gb307, 1, none⟩ = some (.int .i64 0) := (blk_cell BK307.out 1).trans rfl
     have hcz18_2 : wc.cell? ⟨gb307, 2, none⟩ = some (.slice none 0 0) := (blk_cell BK307.out 2).trans rfl
     have hfz18_0 := blk_frozen BK307.out 0
     have hfz18_1 := blk_frozen BK307.out 1
     have hfz18_2 := blk_frozen BK307.out 2
     go_wp2
     refine bodyPost_ret (results_ctt rfl _ _ gb307 28 #[.int .i64 a0_0, .int .i64 a0_1, .slice A0_2 l0_2.length c0_2] (0, 0) _ rfl (by (with_reducible repeat (first | refine blk_drewN ?_ _ | refine blk_drew ?_ | refine blk_alloc ?_ _)); refine blk_put (cs := #[.int .i64 a0_0, .int .i64 a0_1, .slice none 0 0]) ?_ 2 _ rfl; (with_reducible repeat (first | refine blk_drewN ?_ _ | refine blk_drew ?_ | refine blk_alloc ?_ _)); refine blk_put (cs := #[.int .i64 a0_0, .int .i64 0, .slice none 0 0]) ?_ 1 _ rfl; (with_reducible repeat (first | refine blk_drewN ?_ _ | refine blk_drew ?_ | refine blk_alloc ?_ _)); refine blk_put (cs := #[.int .i64 0, .int .i64 0, .slice none 0 0]) ?_ 0 _ rfl; (with_reducible repeat (first | refine blk_drewN ?_ _ | refine blk_drew ?_ | refine blk_alloc ?_ _)); exact BK307.out) Try.underlying28 rfl (by kernel_rfl)) rfl ?_
     exact ⟨_, _, by first | rfl | (simp [errW_none, errW_some] <;> rfl) | (simp [*, errW_none, errW_some] <;> rfl), by (with_reducible repeat (first | apply Kd.V_alloc | apply Kd.V_drewN | apply Kd.V_drew)); exact Kd.V_mono (Kd.V_far (p := ⟨gb307, 2, none⟩) (Kd.V_far (p := ⟨gb307, 1, none⟩) (Kd.V_far (p := ⟨gb307, 0, none⟩) (Kd.V_mono HO_307002.out (fun k_ hk => (⟨hk, hk.2.2⟩ : _ ∧ k_ ≠ gb307))) (fun _ hk => hk.2) (.int .i64 a0_0)) (fun _ hk => hk.2) (.int .i64 a0_1)) (fun _ hk => hk.2) (.slice A0_2 l0_2.length c0_2)) (fun _ hk => ⟨hk.1.1, (by simp [Value.ownBlock])⟩), by first | exact Kd.R_nil _ _ _ _ _ | exact Kd.N_nil _ _ _ _ _ | exact Kd.V_nil _ _ _ _ _ | exact Kd.Q_nil _ _ _ _ _ | exact Kd.S_nil _ _ _ _ _, by repeat (first | (with_reducible first | exact HB.out | apply below_alloc | apply pw_below_drewN | apply below_drew1 | refine below_set ?_ GE306.out | refine below_set ?_ GE307.out) | exact HB.out)⟩
    ·rw [if_neg c15] at H
     have c15b0 : decide (100 < a1) = false := decide_eq_false c15
     clear c15
     by_cases c19 : (wrap64 (a0_1 + a1)) > a0_0
     ·rw [if_pos c19] at H
      have c19b0 : decide (a0_0 < (wrap64 (a0_1 + a1))) = true := decide_eq_true c19
      clear c19
      simp only [Option.some.injEq, Prod.mk.injEq] at H
      obtain ⟨rfl, rfl, rfl, rfl, rfl⟩ := H
      have hnb20 := NB306_307.out
      have hnc20 := NB307_306.out
      have hcz21_0 : wc.cell? ⟨gb306, 0, none⟩ = some (.int .i64 a0_0) := (blk_cell BK306.out 0).trans rfl
      have hcz21_1 : wc.cell? ⟨gb306, 1, none⟩ = some (.int .i64 a0_1) := (blk_cell BK306.out 1).trans rfl
      have hcz21_2 : wc.cell? ⟨gb306, 2, none⟩ = some (.slice A0_2 l0_2.length c0_2) := (blk_cell BK306.out 2).trans rfl
      have hfz21_0 := blk_frozen BK306.out 0
      have hfz21_1 := blk_frozen BK306.out 1
      have hfz21_2 := blk_frozen BK306.out 2
      have hcz22_0 : wc.cell? ⟨gb307, 0, none⟩ = some (.int .i64 0) := (blk_cell BK307.out 0).trans rfl
      have hcz22_1 : wc.cell? ⟨gb307, 1, none⟩ = some (.int .i64 0) := (blk_cell BK307.out 1).trans rfl
      have hcz22_2 : wc.cell? ⟨gb307, 2, none⟩ = some (.slice none 0 0) := (blk_cell BK307.out 2).trans rfl
      have hfz22_0 := blk_frozen BK307.out 0
      have hfz22_1 := blk_frozen BK307.out 1
      have hfz22_2 := blk_frozen BK307.out 2
      go_wp2
      refine bodyPost_ret (results_ctt rfl _ _ gb307 28 #[.int .i64 a0_0, .int .i64 a0_1, .slice A0_2 l0_2.length c0_2] (0, 0) _ rfl (by (with_reducible repeat (first | refine blk_drewN ?_ _ | refine blk_drew ?_ | refine blk_alloc ?_ _)); refine blk_put (cs := #[.int .i64 a0_0, .int .i64 a0_1, .slice none 0 0]) ?_ 2 _ rfl; (with_reducible repeat (first | refine blk_drewN ?_ _ | refine blk_drew ?_ | refine blk_alloc ?_ _)); refine blk_put (cs := #[.int .i64 a0_0, .int .i64 0, .slice none 0 0]) ?_ 1 _ rfl; (with_reducible repeat (first | refine blk_drewN ?_ _ | refine blk_drew ?_ | refine blk_alloc ?_ _)); refine blk_put (cs := #[.int .i64 0, .int .i64 0, .slice none 0 0]) ?_ 0 _ rfl; (with_reducible repeat (first | refine blk_drewN ?_ _ | refine blk_drew ?_ | refine blk_alloc ?_ _)); exact BK307.out) Try.underlying28 rfl (by kernel_rfl)) rfl ?_
      exact ⟨_, _, by first | rfl | (simp [errW_none, errW_some] <;> rfl) | (simp [*, errW_none, errW_some] <;> rfl), by (with_reducible repeat (first | apply Kd.V_alloc | apply Kd.V_drewN | apply Kd.V_drew)); exact Kd.V_mono (Kd.V_far (p := ⟨gb307, 2, none⟩) (Kd.V_far (p := ⟨gb307, 1, none⟩) (Kd.V_far (p := ⟨gb307, 0, none⟩) (Kd.V_mono HO_307002.out (fun k_ hk => (⟨hk, hk.2.2⟩ : _ ∧ k_ ≠ gb307))) (fun _ hk => hk.2) (.int .i64 a0_0)) (fun _ hk => hk.2) (.int .i64 a0_1)) (fun _ hk => hk.2) (.slice A0_2 l0_2.length c0_2)) (fun _ hk => ⟨hk.1.1, (by simp [Value.ownBlock])⟩), by first | exact Kd.R_nil _ _ _ _ _ | exact Kd.N_nil _ _ _ _ _ | exact Kd.V_nil _ _ _ _ _ | exact Kd.Q_nil _ _ _ _ _ | exact Kd.S_nil _ _ _ _ _, by repeat (first | (with_reducible first | exact HB.out | apply below_alloc | apply pw_below_drewN | apply below_drew1 | refine below_set ?_ GE306.out | refine below_set ?_ GE307.out) | exact HB.out)⟩
     ·rw [if_neg c19] at H
      have c19b0 : decide (a0_0 < (wrap64 (a0_1 + a1))) = false := decide_eq_false c19
      clear c19
      replace H := Option.bind_eq_some_iff.mp H
      obtain ⟨⟨t309, t310, t311, t314⟩, A230, H⟩ := H
      try dsimp only at H
      have A23 := am A230
      clear A230
      simp only [Option.some.injEq, Prod.mk.injEq] at H
      obtain ⟨rfl, rfl, rfl, rfl, rfl⟩ := H
      have hnb24 := NB306_307.out
      have hnc24 := NB307_306.out
      have hcz25_0 : wc.cell? ⟨gb306, 0, none⟩ = some (.int .i64 a0_0) := (blk_cell BK306.out 0).trans rfl
      have hcz25_1 : wc.cell? ⟨gb306, 1, none⟩ = some (.int .i64 a0_1) := (blk_cell BK306.out 1).trans rfl
      have hcz25_2 : wc.cell? ⟨gb306, 2, none⟩ = some (.slice A0_2 l0_2.length c0_2) := (blk_cell BK306.out 2).trans rfl
      have hfz25_0 := blk_frozen BK306.out 0
      have hfz25_1 := blk_frozen BK306.out 1
      have hfz25_2 := blk_frozen BK306.out 2
      go_wp2_with (first | ((with_reducible refine gate_callee (f := 30) rfl ?_); refine goesL_ (some 41) rfl rfl Try.func30 (by kernel_rfl) rfl #[.agg #[.int .i64 a0_0, .int .i64 (wrap64 (a0_1 + a1)), .slice A0_2 l0_2.length c0_2], .slice none 0 0] rfl zm ?_; (refine (handshakerref18_serve.calls kj3 a0_0 (wrap64 (a0_1 + a1)) (fun k_ => ((P0_2_ k_ ∨ w.heap.size ≤ k_) ∧ (k_ ≠ gb306 ∧ k_ ≠ gb307))) _ _ l0_2 (fun k_ => some k_ = (.slice none 0 0 : Value).ownBlock) (.slice none 0 0) ([] : List (S61)) t309 t310 t311 t314 w _ ?side1 ?side2 ?side3 A23.out).mono ?_); (case side1 => repeat (first | (with_reducible first | exact HB.out | apply below_alloc | apply pw_below_drewN | apply below_drew1 | refine below_set ?_ GE306.out | refine below_set ?_ GE307.out) | exact HB.out)); (case side2 => exact Kd.V_mono (HO_307002.out) (fun k_ hk_ => ⟨hk_, (by simp [Value.ownBlock])⟩)); (case side3 => exact Kd.R_nil _ _ _ _ _); rintro e w26 ⟨v312, v315, rfl, ho0, ho1, hb, hkp⟩; refine ⟨_, rfl, ?_⟩; replace HO_307002 := am (Kd.V_mono (ok' := fun k_ => (P0_2_ k_ ∨ w.heap.size ≤ k_) ∧ k_ ≠ gb306 ∧ k_ ≠ gb307 ∧ some k_ ≠ (v315 : Value).ownBlock) (Kd.V_keptB (HO_307002.out) hkp (fun k_ hk_ hs_ => (fun e_ => by simp [Value.ownBlock] at e_) hs_)) (fun k_ hk_ => ⟨hk_.1.1, hk_.1.2.1, hk_.1.2.2, fun e_ => Or.elim (ho1.1 k_ e_.symm) (fun hs_ => hk_.2.1 hs_) (fun hn_ => Nat.not_le.2 hk_.2.2 hn_)⟩)); have HO313 := am (Kd.V_mono (ok' := fun k_ => (P0_2_ k_ ∨ w.heap.size ≤ k_) ∧ some k_ ≠ (v315 : Value).ownBlock ∧ k_ ≠ gb306 ∧ k_ ≠ gb307) ho0 (fun k_ hk_ => ⟨Or.elim hk_.1 (fun hs_ => Or.elim hs_ (fun hs_ => (.inr (absurd hs_ (by simp [Value.ownBlock])))) (fun hs_ => hs_.1)) (fun hn_ => (.inr (Nat.le_trans (below_size (zc2 HB GE306 GE307)) hn_))), hk_.2, Or.elim hk_.1 (fun hs_ => Or.elim hs_ (fun hs_ => absurd hs_ (by simp [Value.ownBlock])) (fun hs_ => hs_.2.1)) (fun hn_ => (zfr gb306 BK306 hn_)), Or.elim hk_.1 (fun hs_ => Or.elim hs_ (fun hs_ => absurd hs_ (by simp [Value.ownBlock])) (fun hs_ => hs_.2.2)) (fun hn_ => (zfr gb307 BK307 hn_))⟩)); replace BK306 := am (blk_kept (zb BK306) hkp (fun hs_ => (fun e_ => by simp [Value.ownBlock] at e_) hs_)); replace BK307 := am (blk_kept (zb BK307) hkp (fun hs_ => (fun e_ => by simp [Value.ownBlock] at e_) hs_)); have HO316 := am (Kd.R_mono (ok' := fun k_ => (w.heap.size ≤ k_)) ho1 (fun k_ hk_ => Or.elim hk_ (fun hs_ => absurd hs_ (by simp [Value.ownBlock])) (fun hn_ => (Nat.le_trans (below_size (zc2 HB GE306 GE307)) hn_)))); replace HB := am (hb); (try clear hb); (try clear hkp); (try clear ho0); (try clear ho1)) | ((with_reducible refine gate_dst (N := 8) rfl ?_); refine box_event ?hg (N := 8) ?hd (cs := #[.int .i64 0, .int .i64 0, .slice none 0 0]) (t := 28) ?hr ?_; (case hd => rfl); (case hg => rfl); (case hr => first | (go_simp; done) | (go_simp; rfl)); intro gb317 hg w27 hbox hb; replace HO_307002 := zVe HO_307002 hg hb; replace HO313 := zVe HO313 hg hb; replace HO316 := zRb HO316 hb; have BK317 := am (hbox); have GW317 := zsz hg (zc2 HB GE306 GE307); have GE317 := zsz hg (zc2 HB GE306 GE307); replace HB := am (below_step (zc2 HB GE306 GE307) hb); have NB306_317 := znt BK306 hg; have NB317_306 := zng BK306 hg; replace BK306 := zbb BK306 hb; have NB307_317 := znt BK307 hg; have NB317_307 := zng BK307 hg; replace BK307 := zbb BK307 hb; clear hb hbox hg; have hnb28 := NB317_306.out; have hnc28 := NB306_317.out; have hnb29 := NB317_307.out; have hnc29 := NB307_317.out; have hcz30_0 : w27.cell? ⟨gb317, 0, none⟩ = some (.int .i64 0) := (blk_cell BK317.out 0).trans rfl; have hcz30_1 : w27.cell? ⟨gb317, 1, none⟩ = some (.int .i64 0) := (blk_cell BK317.out 1).trans rfl; have hcz30_2 : w27.cell? ⟨gb317, 2, none⟩ = some (.slice none 0 0) := (blk_cell BK317.out 2).trans rfl; have hfz30_0 := blk_frozen BK317.out 0; have hfz30_1 := blk_frozen BK317.out 1; have hfz30_2 := blk_frozen BK317.out 2; obtain ⟨Ao31, co31, eo31⟩ := Kd.V_slice HO313.out; subst eo31; have hcz32_0 : w27.cell? ⟨gb307, 0, none⟩ = some (.int .i64 0) := (blk_cell BK307.out 0).trans rfl; have hcz32_1 : w27.cell? ⟨gb307, 1, none⟩ = some (.int .i64 0) := (blk_cell BK307.out 1).trans rfl; have hcz32_2 : w27.cell? ⟨gb307, 2, none⟩ = some (.slice none 0 0) := (blk_cell BK307.out 2).trans rfl; have hfz32_0 := blk_frozen BK307.out 0; have hfz32_1 := blk_frozen BK307.out 1; have hfz32_2 := blk_frozen BK307.out 2))
      refine bodyPost_ret (results_ctt rfl _ _ gb307 28 #[.int .i64 t309, .int .i64 t310, .slice Ao31 t311.length co31] (0, 0) _ rfl (by (with_reducible repeat (first | refine blk_drewN ?_ _ | refine blk_drew ?_ | refine blk_alloc ?_ _)); refine blk_put (cs := #[.int .i64 t309, .int .i64 t310, .slice none 0 0]) ?_ 2 _ rfl; (with_reducible repeat (first | refine blk_drewN ?_ _ | refine blk_drew ?_ | refine blk_alloc ?_ _)); refine blk_put (cs := #[.int .i64 t309, .int .i64 0, .slice none 0 0]) ?_ 1 _ rfl; (with_reducible repeat (first | refine blk_drewN ?_ _ | refine blk_drew ?_ | refine blk_alloc ?_ _)); refine blk_put (cs := #[.int .i64 0, .int .i64 0, .slice none 0 0]) ?_ 0 _ rfl; (with_reducible repeat (first | refine blk_drewN ?_ _ | refine blk_drew ?_ | refine blk_alloc ?_ _)); refine blk_far ?_ NB307_317.out _; (with_reducible repeat (first | refine blk_drewN ?_ _ | refine blk_drew ?_ | refine blk_alloc ?_ _)); refine blk_far ?_ NB307_317.out _; (with_reducible repeat (first | refine blk_drewN ?_ _ | refine blk_drew ?_ | refine blk_alloc ?_ _)); refine blk_far ?_ NB307_317.out _; (with_reducible repeat (first | refine blk_drewN ?_ _ | refine blk_drew ?_ | refine blk_alloc ?_ _)); exact BK307.out) Try.underlying28 rfl (by kernel_rfl)) rfl ?_
      exact ⟨_, _, by first | rfl | (simp [errW_none, errW_some] <;> rfl) | (simp [*, errW_none, errW_some] <;> rfl), by (with_reducible repeat (first | apply Kd.V_alloc | apply Kd.V_drewN | apply Kd.V_drew)); exact Kd.V_mono (Kd.V_far (p := ⟨gb307, 2, none⟩) (Kd.V_far (p := ⟨gb307, 1, none⟩) (Kd.V_far (p := ⟨gb307, 0, none⟩) (Kd.V_far (p := ⟨gb317, 2, none⟩) (Kd.V_far (p := ⟨gb317, 1, none⟩) (Kd.V_far (p := ⟨gb317, 0, none⟩) (Kd.V_mono (Kd.V_mono HO313.out (fun k_ hk => (⟨hk, hk.2⟩ : _ ∧ k_ ≠ gb317))) (fun k_ hk => (⟨hk, hk.1.1.2.2.2⟩ : _ ∧ k_ ≠ gb307))) (fun _ hk => hk.1.2) (.int .i64 t309)) (fun _ hk => hk.1.2) (.int .i64 t310)) (fun _ hk => hk.1.2) (.slice Ao31 t311.length co31)) (fun _ hk => hk.2) (.int .i64 t309)) (fun _ hk => hk.2) (.int .i64 t310)) (fun _ hk => hk.2) (.slice Ao31 t311.length co31)) (fun _ hk => ⟨hk.1.1.1.1, hk.1.1.1.2.1⟩), by (with_reducible repeat (first | apply Kd.R_alloc | apply Kd.R_drewN | apply Kd.R_drew)); exact Kd.R_mono (Kd.R_far (p := ⟨gb307, 2, none⟩) (Kd.R_far (p := ⟨gb307, 1, none⟩) (Kd.R_far (p := ⟨gb307, 0, none⟩) (Kd.R_far (p := ⟨gb317, 2, none⟩) (Kd.R_far (p := ⟨gb317, 1, none⟩) (Kd.R_far (p := ⟨gb317, 0, none⟩) (Kd.R_types (Kd.R_types HO316.out BK317.out (by decide)) BK307.out (by decide)) (fun _ hk => hk.1.2) (.int .i64 t309)) (fun _ hk => hk.1.2) (.int .i64 t310)) (fun _ hk => hk.1.2) (.slice Ao31 t311.length co31)) (fun _ hk => hk.2) (.int .i64 t309)) (fun _ hk => hk.2) (.int .i64 t310)) (fun _ hk => hk.2) (.slice Ao31 t311.length co31)) (fun _ hk => hk.1.1), by repeat (first | (with_reducible first | exact HB.out | apply below_alloc | apply pw_below_drewN | apply below_drew1 | refine below_set ?_ GE306.out | refine below_set ?_ GE307.out | refine below_set ?_ GE317.out) | exact HB.out)⟩

/-! ### handshakerref18_Leave: function 16 -/
def handshakerref18_Leave.f (k : Nat) (a0_0 : Int) (a0_1 : Int) (l0_2 : List (S61)) (a1 : Int) : Option (Int × Int × (List (S61)) × (List (S61)) × Int) := (handshakerref18_Right.f k a0_0 a0_1 l0_2).bind fun t320 => (if t320 = true then ((handshakerref18_find.f k l0_2 a1).bind fun t321 => (if t321 < 0 then (some (a0_0, a0_1, l0_2, ([] : List (S61)), 3)) else (if 0 ≤ t321 then (if t321 ≤ (l0_2.length : Int) then ((some (l0_2.take (t321 : Int).toNat : List (S61))).bind fun y322 => (if ([] : List (S61)).length + y322.length < 8796093022208 then ((some (([] : List (S61)) ++ y322 : List (S61))).bind fun y327 => (if 0 ≤ (wrap64 (t321 + 1)) then (if (wrap64 (t321 + 1)) ≤ (l0_2.length : Int) then ((some (l0_2.drop ((wrap64 (t321 + 1)) : Int).toNat : List (S61))).bind fun y330 => (if y327.length + y330.length < 8796093022208 then ((handshakerref18_serve.f k a0_0 a0_1 (y327 ++ y330) ([] : List (S61))).bind fun bt338 => (some (bt338.1, bt338.2.1, bt338.2.2.1, bt338.2.2.2, 0))) else (none))) else (none)) else (none))) else (none))) else (none)) else (none)))) else (some (a0_0, a0_1, l0_2, ([] : List (S61)), 1)))
theorem handshakerref18_Leave.mono : ∀ a0 a1 a2 a3 k, LeO (handshakerref18_Leave.f k a0 a1 a2 a3) (handshakerref18_Leave.f (k + 1) a0 a1 a2 a3) := by
 intro a0 a1 a2 a3 k
 unfold handshakerref18_Leave.f
 repeat' first
   | (with_reducible exact handshakerref18_Right.mono _ _ _ _)
   | (with_reducible exact handshakerref18_find.mono _ _ _)
   | (with_reducible exact handshakerref18_serve.mono _ _ _ _ _)
   | (with_reducible exact LeO.refl _)
   | (with_reducible exact LeO.none _)
   | (with_reducible refine LeO.ite ?_ ?_)
   | (with_reducible refine LeO.bind ?_ (fun _ => ?_))
   | exact handshakerref18_Right.mono _ _ _ _
   | exact handshakerref18_find.mono _ _ _
   | exact handshakerref18_serve.mono _ _ _ _ _
   | exact LeO.none _
   | refine LeO.ite ?_ ?_
   | refine LeO.bind ?_ (fun _ => ?_)
def handshakerref18_Leave.T9 : Bool × List (List Nat × List Nat) := (true, [([], []), ([0], [0]), ([], []), ([2], [2]), ([], []), ([], []), ([5], [5]), ([], []), ([7], [7]), ([6, 8], [6, 8]), ([4, 9], [4, 9]), ([1, 3, 10], [1, 3, 10]), ([11, 10], [11]), ([12], [12]), ([13], [13]), ([13], [13]), ([], []), ([16, 14, 12, 0, 1, 2, 3, 4, 5, 6, 7, 8, 9, 10, 11, 12, 13, 14, 16], [14, 16]), ([15, 17, 0, 1, 2, 3, 4, 5, 6, 7, 8, 9, 10, 11, 12, 13, 14, 15, 16, 17], [15])])
def handshakerref18_Leave.B9 : List Nat := [0, 1, 0, 4, 0, 0, 32, 0, 128, 480, 1008, 2047, 4095, 8191, 16383, 16383, 0, 98303, 262143]
theorem handshakerref18_Leave.tab9 : rtab .any (opsOf Try.f16 9) = handshakerref18_Leave.T9 := by kernel_rfl
theorem handshakerref18_Leave.bits9 : waitsOk handshakerref18_Leave.T9.2 handshakerref18_Leave.B9 = true := by kernel_rfl
set_option maxHeartbeats 8000000 in
set_option maxRecDepth 100000 in
theorem handshakerref18_Leave.calls (k : Nat) (a0_0 : Int) (a0_1 : Int) (P0_2_ : Nat → Prop) (A0_2 : Option Addr) (c0_2 : Nat) (l0_2 : List (S61)) (a1 : Int) (r1 : Int) (r2 : Int) (r3 : List (S61)) (r4 : List (S61)) (r5 : Int) (w : World) (hs0_2 : Kd.V k61 61 w w.heap.size (fun k_ => P0_2_ k_) (.slice A0_2 l0_2.length c0_2) l0_2) (h : handshakerref18_Leave.f k a0_0 a0_1 l0_2 a1 = some (r1, r2, r3, r4, r5)) :
  Calls Try.prog 16 #[.agg #[.int .i64 a0_0, .int .i64 a0_1, .slice A0_2 l0_2.length c0_2], .int .i64 a1] w fun e w' => ∃ v2_ v3_ : Value, e = .returned (.tuple #[.agg #[.int .i64 r1, .int .i64 r2, v2_], v3_, .int .i64 r5]) ∧ Kd.V k61 61 w' w.heap.size (fun k_ => (P0_2_ k_ ∨ w.heap.size ≤ k_) ∧ some k_ ≠ (v3_ : Value).ownBlock) v2_ r3 ∧ Kd.R k61 61 w' w.heap.size (fun k_ => (w.heap.size ≤ k_)) v3_ r4 ∧ Below w.heap.size w w' := by
 have hu28 := Try.underlying28
 have HO0_2 := am (show Kd.V k61 61 w w.heap.size (fun k_ => (P0_2_ k_ ∨ w.heap.size ≤ k_)) (.slice A0_2 l0_2.length c0_2) l0_2 from Kd.V_mono hs0_2 (fun k_ hk => .inl hk))
 have HB := am (Below.refl w.heap.size w)
 have H : ((handshakerref18_Right.f k a0_0 a0_1 l0_2).bind fun t320 => (if t320 = true then ((handshakerref18_find.f k l0_2 a1).bind fun t321 => (if t321 < 0 then (some (a0_0, a0_1, l0_2, ([] : List (S61)), 3)) else (if 0 ≤ t321 then (if t321 ≤ (l0_2.length : Int) then ((some (l0_2.take (t321 : Int).toNat : List (S61))).bind fun y322 => (if ([] : List (S61)).length + y322.length < 8796093022208 then ((some (([] : List (S61)) ++ y322 : List (S61))).bind fun y327 => (if 0 ≤ (wrap64 (t321 + 1)) then (if (wrap64 (t321 + 1)) ≤ (l0_2.length : Int) then ((some (l0_2.drop ((wrap64 (t321 + 1)) : Int).toNat : List (S61))).bind fun y330 => (if y327.length + y330.length < 8796093022208 then ((handshakerref18_serve.f k a0_0 a0_1 (y327 ++ y330) ([] : List (S61))).bind fun bt338 => (some (bt338.1, bt338.2.1, bt338.2.2.1, bt338.2.2.2, 0))) else (none))) else (none)) else (none))) else (none))) else (none)) else (none)))) else (some (a0_0, a0_1, l0_2, ([] : List (S61)), 1)))) = some (r1, r2, r3, r4, r5) := h
 clear h
 replace H := Option.bind_eq_some_iff.mp H
 obtain ⟨t320, A30, H⟩ := H
 try dsimp only at H
 have A3 := am A30
 clear A30
 by_cases c4 : t320 = true
 ·subst c4
  have H1 : ((handshakerref18_find.f k l0_2 a1).bind fun t321 => (if t321 < 0 then (some (a0_0, a0_1, l0_2, ([] : List (S61)), 3)) else (if 0 ≤ t321 then (if t321 ≤ (l0_2.length : Int) then ((some (l0_2.take (t321 : Int).toNat : List (S61))).bind fun y322 => (if ([] : List (S61)).length + y322.length < 8796093022208 then ((some (([] : List (S61)) ++ y322 : List (S61))).bind fun y327 => (if 0 ≤ (wrap64 (t321 + 1)) then (if (wrap64 (t321 + 1)) ≤ (l0_2.length : Int) then ((some (l0_2.drop ((wrap64 (t321 + 1)) : Int).toNat : List (S61))).bind fun y330 => (if y327.length + y330.length < 8796093022208 then ((handshakerref18_serve.f k a0_0 a0_1 (y327 ++ y330) ([] : List (S61))).bind fun bt338 => (some (bt338.1, bt338.2.1, bt338.2.2.1, bt338.2.2.2, 0))) else (none))) else (none)) else (none))) else (none))) else (none)) else (none)))) = some (r1, r2, r3, r4, r5) := by rw [if_pos rfl] at H; exact H
  clear H
  have H := H1
  clear H1
  replace H := Option.bind_eq_some_iff.mp H
  obtain ⟨t321, A50, H⟩ := H
  try dsimp only at H
  have A5 := am A50
  clear A50
  by_cases c6 : t321 < 0
  ·rw [if_pos c6] at H
   have c6b0 : decide (t321 < 0) = true := decide_eq_true c6
   clear c6
   simp only [Option.some.injEq, Prod.mk.injEq] at H
   obtain ⟨rfl, rfl, rfl, rfl, rfl⟩ := H
   go_enter Try.func16, Try.ntmps16
   go_wp2_with (first | ((with_reducible refine gate_dst (N := 2) rfl ?_); refine box_event ?hg (N := 2) ?hd (cs := #[.int .i64 a0_0, .int .i64 a0_1, .slice A0_2 l0_2.length c0_2]) (t := 28) ?hr ?_; (case hd => rfl); (case hg => rfl); (case hr => first | (go_simp; done) | (go_simp; rfl)); intro gb318 hg w7 hbox hb; replace HO0_2 := zVe HO0_2 hg hb; have BK318 := am (hbox); have GW318 := zsz hg (zc0 HB); have GE318 := zsz hg (zc0 HB); replace HB := am (below_step (zc0 HB) hb); clear hb hbox hg) | ((with_reducible refine gate_dst (N := 4) rfl ?_); refine box_event ?hg (N := 4) ?hd (cs := #[.int .i64 0, .int .i64 0, .slice none 0 0]) (t := 28) ?hr ?_; (case hd => rfl); (case hg => rfl); (case hr => first | (go_simp; done) | (go_simp; rfl)); intro gb319 hg w8 hbox hb; replace HO0_2 := zVe HO0_2 hg hb; have BK319 := am (hbox); have GW319 := zsz hg (zc1 HB GE318); have GE319 := zsz hg (zc1 HB GE318); replace HB := am (below_step (zc1 HB GE318) hb); have NB318_319 := znt BK318 hg; have NB319_318 := zng BK318 hg; replace BK318 := zbb BK318 hb; clear hb hbox hg; have hnb9 := NB318_319.out; have hnc9 := NB319_318.out; have hcz10_0 : w8.cell? ⟨gb318, 0, none⟩ = some (.int .i64 a0_0) := (blk_cell BK318.out 0).trans rfl; have hcz10_1 : w8.cell? ⟨gb318, 1, none⟩ = some (.int .i64 a0_1) := (blk_cell BK318.out 1).trans rfl; have hcz10_2 : w8.cell? ⟨gb318, 2, none⟩ = some (.slice A0_2 l0_2.length c0_2) := (blk_cell BK318.out 2).trans rfl; have hfz10_0 := blk_frozen BK318.out 0; have hfz10_1 := blk_frozen BK318.out 1; have hfz10_2 := blk_frozen BK318.out 2) | ((with_reducible refine gate_callee (f := 18) rfl ?_); refine goesL_ (some 13) rfl rfl Try.func18 (by kernel_rfl) rfl #[.agg #[.int .i64 a0_0, .int .i64 a0_1, .slice A0_2 l0_2.length c0_2]] rfl zm ?_; (with_reducible refine (handshakerref18_Right.calls k a0_0 a0_1 _ _ l0_2 true _ ?side1 ?side2 A3.out).mono ?_); (case side1 => repeat (first | exact (Kd.V_reads' HO0_2.out).2.2 | (with_reducible refine Kd.C_alloc ?_ _) | (with_reducible refine Kd.C_drewN ?_ _) | (with_reducible refine Kd.C_drew ?_))); (case side2 => exact (Kd.V_reads' HO0_2.out).2.1); rintro e w11 ⟨rfl, hb⟩; refine ⟨_, rfl, ?_⟩; replace HO0_2 := zVb HO0_2 hb; replace BK318 := zbb BK318 hb; replace BK319 := zbb BK319 hb; replace HB := am (below_step (zc2 HB GE318 GE319) hb); (try clear hb); (try clear hb2); (try clear hk); (try clear hi); have hcz12_0 : w11.cell? ⟨gb318, 0, none⟩ = some (.int .i64 a0_0) := (blk_cell BK318.out 0).trans rfl; have hcz12_1 : w11.cell? ⟨gb318, 1, none⟩ = some (.int .i64 a0_1) := (blk_cell BK318.out 1).trans rfl; have hcz12_2 : w11.cell? ⟨gb318, 2, none⟩ = some (.slice A0_2 l0_2.length c0_2) := (blk_cell BK318.out 2).trans rfl; have hfz12_0 := blk_frozen BK318.out 0; have hfz12_1 := blk_frozen BK318.out 1; have hfz12_2 := blk_frozen BK318.out 2) | ((with_reducible refine gate_callee (f := 28) rfl ?_); refine goesL_ (some 20) rfl rfl Try.func28 (by kernel_rfl) rfl #[.slice A0_2 l0_2.length c0_2, .int .i64 a1] rfl zm ?_; (with_reducible refine (handshakerref18_find.calls k _ _ l0_2 a1 t321 _ ?side1 ?side2 A5.out).mono ?_); (case side1 => repeat (first | exact (Kd.V_reads' HO0_2.out).2.2 | (with_reducible refine Kd.C_alloc ?_ _) | (with_reducible refine Kd.C_drewN ?_ _) | (with_reducible refine Kd.C_drew ?_))); (case side2 => exact (Kd.V_reads' HO0_2.out).2.1); rintro e w' ⟨rfl, ⟨nd, rfl⟩⟩; refine ⟨_, rfl, ?_⟩; (try (rw [drewN_self w11]; generalize hq_ : World.drewN w11 _ = w11; have n0_ : Aside0 (Kd.V k61 61 w11 w.heap.size (fun k_ => (P0_2_ k_ ∨ w.heap.size ≤ k_) ∧ k_ ≠ gb318 ∧ k_ ≠ gb319) (.slice A0_2 l0_2.length c0_2) l0_2) := ⟨by rw [← hq_]; exact (by (with_reducible repeat (first | apply Kd.V_alloc | apply Kd.V_drewN | apply Kd.V_drew)); exact Kd.V_mono HO0_2.out (fun _ hk => ⟨hk.1.1, ⟨hk.1.2, hk.2⟩⟩))⟩; have n1_ : Aside0 (w11.heap[gb318]? = some (.cells #[.int .i64 a0_0, .int .i64 a0_1, .slice A0_2 l0_2.length c0_2] 28 (0, 0))) := ⟨by rw [← hq_]; exact (zb BK318)⟩; have n2_ : Aside0 (w11.heap[gb319]? = some (.cells #[.int .i64 0, .int .i64 0, .slice none 0 0] 28 (0, 0))) := ⟨by rw [← hq_]; exact (zb BK319)⟩; have n3_ : Aside0 (Below w.heap.size w w11) := ⟨by rw [← hq_]; exact (zc2 HB GE318 GE319)⟩; clear HO0_2 BK318 BK319 HB hq_; have HO0_2 := n0_; have BK318 := n1_; have BK319 := n2_; have HB := n3_; clear n0_ n1_ n2_ n3_)); have n_ := am (Kd.V_mono (ok' := (fun k_ => (P0_2_ k_ ∨ w.heap.size ≤ k_) ∧ k_ ≠ gb318 ∧ k_ ≠ gb319)) HO0_2.out (fun k_ hk => by first | exact hk | exact ⟨hk.1.1, ⟨hk.1.2, hk.2⟩⟩)); clear HO0_2; have HO0_2 := n_; clear n_; have hcz13_0 : w11.cell? ⟨gb318, 0, none⟩ = some (.int .i64 a0_0) := (blk_cell BK318.out 0).trans rfl; have hcz13_1 : w11.cell? ⟨gb318, 1, none⟩ = some (.int .i64 a0_1) := (blk_cell BK318.out 1).trans rfl; have hcz13_2 : w11.cell? ⟨gb318, 2, none⟩ = some (.slice A0_2 l0_2.length c0_2) := (blk_cell BK318.out 2).trans rfl; have hfz13_0 := blk_frozen BK318.out 0; have hfz13_1 := blk_frozen BK318.out 1; have hfz13_2 := blk_frozen BK318.out 2; have hcz14_0 : w11.cell? ⟨gb319, 0, none⟩ = some (.int .i64 0) := (blk_cell BK319.out 0).trans rfl; have hcz14_1 : w11.cell? ⟨gb319, 1, none⟩ = some (.int .i64 0) := (blk_cell BK319.out 1).trans rfl; have hcz14_2 : w11.cell? ⟨gb319, 2, none⟩ = some (.slice none 0 0) := (blk_cell BK319.out 2).trans rfl; have hfz14_0 := blk_frozen BK319.out 0; have hfz14_1 := blk_frozen BK319.out 1; have hfz14_2 := blk_frozen BK319.out 2))
   refine bodyPost_ret (results_ctt rfl _ _ gb319 28 #[.int .i64 a0_0, .int .i64 a0_1, .slice A0_2 l0_2.length c0_2] (0, 0) _ rfl (by (with_reducible repeat (first | refine blk_drewN ?_ _ | refine blk_drew ?_ | refine blk_alloc ?_ _)); refine blk_put (cs := #[.int .i64 a0_0, .int .i64 a0_1, .slice none 0 0]) ?_ 2 _ rfl; (with_reducible repeat (first | refine blk_drewN ?_ _ | refine blk_drew ?_ | refine blk_alloc ?_ _)); refine blk_put (cs := #[.int .i64 a0_0, .int .i64 0, .slice none 0 0]) ?_ 1 _ rfl; (with_reducible repeat (first | refine blk_drewN ?_ _ | refine blk_drew ?_ | refine blk_alloc ?_ _)); refine blk_put (cs := #[.int .i64 0, .int .i64 0, .slice none 0 0]) ?_ 0 _ rfl; (with_reducible repeat (first | refine blk_drewN ?_ _ | refine blk_drew ?_ | refine blk_alloc ?_ _)); exact BK319.out) Try.underlying28 rfl (by kernel_rfl)) rfl ?_
   exact ⟨_, _, by first | rfl | (simp [errW_none, errW_some] <;> rfl) | (simp [*, errW_none, errW_some] <;> rfl), by (with_reducible repeat (first | apply Kd.V_alloc | apply Kd.V_drewN | apply Kd.V_drew)); exact Kd.V_mono (Kd.V_far (p := ⟨gb319, 2, none⟩) (Kd.V_far (p := ⟨gb319, 1, none⟩) (Kd.V_far (p := ⟨gb319, 0, none⟩) (Kd.V_mono HO0_2.out (fun k_ hk => (⟨hk, hk.2.2⟩ : _ ∧ k_ ≠ gb319))) (fun _ hk => hk.2) (.int .i64 a0_0)) (fun _ hk => hk.2) (.int .i64 a0_1)) (fun _ hk => hk.2) (.slice A0_2 l0_2.length c0_2)) (fun _ hk => ⟨hk.1.1, (by simp [Value.ownBlock])⟩), by first | exact Kd.R_nil _ _ _ _ _ | exact Kd.N_nil _ _ _ _ _ | exact Kd.V_nil _ _ _ _ _ | exact Kd.Q_nil _ _ _ _ _ | exact Kd.S_nil _ _ _ _ _, by repeat (first | (with_reducible first | exact HB.out | apply below_alloc | apply pw_below_drewN | apply below_drew1 | refine below_set ?_ GE318.out | refine below_set ?_ GE319.out) | exact HB.out)⟩
  ·rw [if_neg c6] at H
   have c6b0 : decide (t321 < 0) = false := decide_eq_false c6
   clear c6
   by_cases c15 : 0 ≤ t321
   ·rw [if_pos c15] at H
    have c15b0 := eq_true c15
    have c15b1 : decide (0 ≤ t321) = true := decide_eq_true c15
    clear c15
    by_cases c16 : t321 ≤ (l0_2.length : Int)
    ·rw [if_pos c16] at H
     have c16b0 := eq_true c16
     have c16b1 : decide (t321 ≤ (l0_2.length : Int)) = true := decide_eq_true c16
     clear c16
     obtain ⟨y322, hy322⟩ : ∃ y_ : List (S61), y_ = (l0_2.take (t321 : Int).toNat) := ⟨_, rfl⟩
     replace H : (if ([] : List (S61)).length + y322.length < 8796093022208 then ((some (([] : List (S61)) ++ y322 : List (S61))).bind fun y327 => (if 0 ≤ (wrap64 (t321 + 1)) then (if (wrap64 (t321 + 1)) ≤ (l0_2.length : Int) then ((some (l0_2.drop ((wrap64 (t321 + 1)) : Int).toNat : List (S61))).bind fun y330 => (if y327.length + y330.length < 8796093022208 then ((handshakerref18_serve.f k a0_0 a0_1 (y327 ++ y330) ([] : List (S61))).bind fun bt338 => (some (bt338.1, bt338.2.1, bt338.2.2.1, bt338.2.2.2, 0))) else (none))) else (none)) else (none))) else (none)) = some (r1, r2, r3, r4, r5) := by first | (rw [hy322]; with_reducible exact H) | (have H2_ := (Option.bind_some _ _).symm.trans H; rw [hy322]; with_reducible exact H2_) | (have H2_ := (Option.bind_some _ _).symm.trans H; with_reducible exact H2_) | with_reducible exact H | (rw [hy322]; exact H) | exact H
     have Ny322 := am hy322
     clear hy322
     by_cases c17 : ([] : List (S61)).length + y322.length < 8796093022208
     ·rw [if_pos c17] at H
      have LMc17 := am c17
      clear c17
      obtain ⟨y327, hy327⟩ : ∃ y_ : List (S61), y_ = (([] : List (S61)) ++ y322) := ⟨_, rfl⟩
      replace H : (if 0 ≤ (wrap64 (t321 + 1)) then (if (wrap64 (t321 + 1)) ≤ (l0_2.length : Int) then ((some (l0_2.drop ((wrap64 (t321 + 1)) : Int).toNat : List (S61))).bind fun y330 => (if y327.length + y330.length < 8796093022208 then ((handshakerref18_serve.f k a0_0 a0_1 (y327 ++ y330) ([] : List (S61))).bind fun bt338 => (some (bt338.1, bt338.2.1, bt338.2.2.1, bt338.2.2.2, 0))) else (none))) else (none)) else (none)) = some (r1, r2, r3, r4, r5) := by first | (rw [hy327]; with_reducible exact H) | (have H2_ := (Option.bind_some _ _).symm.trans H; rw [hy327]; with_reducible exact H2_) | (have H2_ := (Option.bind_some _ _).symm.trans H; with_reducible exact H2_) | with_reducible exact H | (rw [hy327]; exact H) | exact H
      have Ny327 := am hy327
      clear hy327
      obtain ⟨ji18, hji18⟩ : ∃ j_ : Int, (wrap64 (t321 + 1)) = j_ := ⟨_, rfl⟩
      replace H : (if 0 ≤ (ji18) then (if (ji18) ≤ (l0_2.length : Int) then ((some (l0_2.drop ((ji18) : Int).toNat : List (S61))).bind fun y330 => (if y327.length + y330.length < 8796093022208 then ((handshakerref18_serve.f k a0_0 a0_1 (y327 ++ y330) ([] : List (S61))).bind fun bt338 => (some (bt338.1, bt338.2.1, bt338.2.2.1, bt338.2.2.2, 0))) else (none))) else (none)) else (none)) = some (r1, r2, r3, r4, r5) := by first | (rw [hji18] at H; exact H) | (simp only [hji18] at H ⊢; exact H)
      (try rw [hji18] at A3)
      (try rw [hji18] at A5)
      have hji18w : (IntKind.i64.wrap (t321 + 1)) = ji18 := (i64_w _).trans hji18
      by_cases c19 : 0 ≤ (ji18)
      ·rw [if_pos c19] at H
       have c19b0 := eq_true c19
       have c19b1 : decide (0 ≤ (ji18)) = true := decide_eq_true c19
       clear c19
       by_cases c20 : (ji18) ≤ (l0_2.length : Int)
       ·rw [if_pos c20] at H
        have c20b0 := eq_true c20
        have c20b1 : decide ((ji18) ≤ (l0_2.length : Int)) = true := decide_eq_true c20
        clear c20
        obtain ⟨y330, hy330⟩ : ∃ y_ : List (S61), y_ = (l0_2.drop ((ji18) : Int).toNat) := ⟨_, rfl⟩
        replace H : (if y327.length + y330.length < 8796093022208 then ((handshakerref18_serve.f k a0_0 a0_1 (y327 ++ y330) ([] : List (S61))).bind fun bt338 => (some (bt338.1, bt338.2.1, bt338.2.2.1, bt338.2.2.2, 0))) else (none)) = some (r1, r2, r3, r4, r5) := by first | (rw [hy330]; with_reducible exact H) | (have H2_ := (Option.bind_some _ _).symm.trans H; rw [hy330]; with_reducible exact H2_) | (have H2_ := (Option.bind_some _ _).symm.trans H; with_reducible exact H2_) | with_reducible exact H | (rw [hy330]; exact H) | exact H
        have Ny330 := am hy330
        clear hy330
        by_cases c21 : y327.length + y330.length < 8796093022208
        ·rw [if_pos c21] at H
         have LMc21 := am c21
         clear c21
         obtain ⟨y335, hy335⟩ : ∃ y_ : List (S61), y_ = (y327 ++ y330) := ⟨_, rfl⟩
         replace H : ((handshakerref18_serve.f k a0_0 a0_1 y335 ([] : List (S61))).bind fun bt338 => (some (bt338.1, bt338.2.1, bt338.2.2.1, bt338.2.2.2, 0))) = some (r1, r2, r3, r4, r5) := by first | (rw [hy335]; with_reducible exact H) | (have H2_ := (Option.bind_some _ _).symm.trans H; rw [hy335]; with_reducible exact H2_) | (have H2_ := (Option.bind_some _ _).symm.trans H; with_reducible exact H2_) | with_reducible exact H | (rw [hy335]; exact H) | exact H
         have Ny335 := am hy335
         clear hy335
         replace H := Option.bind_eq_some_iff.mp H
         obtain ⟨⟨t338, t339, t340, t343⟩, A220, H⟩ := H
         try dsimp only at H
         have A22 := am A220
         clear A220
         simp only [Option.some.injEq, Prod.mk.injEq] at H
         obtain ⟨rfl, rfl, rfl, rfl, rfl⟩ := H
         go_enter Try.func16, Try.ntmps16
         try go_wp2_with (first | ((with_reducible refine gate_dst (N := 2) rfl ?_); refine box_event ?hg (N := 2) ?hd (cs := #[.int .i64 a0_0, .int .i64 a0_1, .slice A0_2 l0_2.length c0_2]) (t := 28) ?hr ?_; (case hd => rfl); (case hg => rfl); (case hr => first | (go_simp; done) | (go_simp; rfl)); intro gb318 hg w23 hbox hb; replace HO0_2 := zVe HO0_2 hg hb; have BK318 := am (hbox); have GW318 := zsz hg (zc0 HB); have GE318 := zsz hg (zc0 HB); replace HB := am (below_step (zc0 HB) hb); clear hb hbox hg) | ((with_reducible refine gate_dst (N := 4) rfl ?_); refine box_event ?hg (N := 4) ?hd (cs := #[.int .i64 0, .int .i64 0, .slice none 0 0]) (t := 28) ?hr ?_; (case hd => rfl); (case hg => rfl); (case hr => first | (go_simp; done) | (go_simp; rfl)); intro gb319 hg w24 hbox hb; replace HO0_2 := zVe HO0_2 hg hb; have BK319 := am (hbox); have GW319 := zsz hg (zc1 HB GE318); have GE319 := zsz hg (zc1 HB GE318); replace HB := am (below_step (zc1 HB GE318) hb); have NB318_319 := znt BK318 hg; have NB319_318 := zng BK318 hg; replace BK318 := zbb BK318 hb; clear hb hbox hg; have hnb25 := NB318_319.out; have hnc25 := NB319_318.out; have hcz26_0 : w24.cell? ⟨gb318, 0, none⟩ = some (.int .i64 a0_0) := (blk_cell BK318.out 0).trans rfl; have hcz26_1 : w24.cell? ⟨gb318, 1, none⟩ = some (.int .i64 a0_1) := (blk_cell BK318.out 1).trans rfl; have hcz26_2 : w24.cell? ⟨gb318, 2, none⟩ = some (.slice A0_2 l0_2.length c0_2) := (blk_cell BK318.out 2).trans rfl; have hfz26_0 := blk_frozen BK318.out 0; have hfz26_1 := blk_frozen BK318.out 1; have hfz26_2 := blk_frozen BK318.out 2) | ((with_reducible refine gate_callee (f := 18) rfl ?_); refine goesL_ (some 13) rfl rfl Try.func18 (by kernel_rfl) rfl #[.agg #[.int .i64 a0_0, .int .i64 a0_1, .slice A0_2 l0_2.length c0_2]] rfl zm ?_; (with_reducible refine (handshakerref18_Right.calls k a0_0 a0_1 _ _ l0_2 true _ ?side1 ?side2 A3.out).mono ?_); (case side1 => repeat (first | exact (Kd.V_reads' HO0_2.out).2.2 | (with_reducible refine Kd.C_alloc ?_ _) | (with_reducible refine Kd.C_drewN ?_ _) | (with_reducible refine Kd.C_drew ?_))); (case side2 => exact (Kd.V_reads' HO0_2.out).2.1); rintro e w27 ⟨rfl, hb⟩; refine ⟨_, rfl, ?_⟩; replace HO0_2 := zVb HO0_2 hb; replace BK318 := zbb BK318 hb; replace BK319 := zbb BK319 hb; replace HB := am (below_step (zc2 HB GE318 GE319) hb); (try clear hb); (try clear hb2); (try clear hk); (try clear hi); have hcz28_0 : w27.cell? ⟨gb318, 0, none⟩ = some (.int .i64 a0_0) := (blk_cell BK318.out 0).trans rfl; have hcz28_1 : w27.cell? ⟨gb318, 1, none⟩ = some (.int .i64 a0_1) := (blk_cell BK318.out 1).trans rfl; have hcz28_2 : w27.cell? ⟨gb318, 2, none⟩ = some (.slice A0_2 l0_2.length c0_2) := (blk_cell BK318.out 2).trans rfl; have hfz28_0 := blk_frozen BK318.out 0; have hfz28_1 := blk_frozen BK318.out 1; have hfz28_2 := blk_frozen BK318.out 2) | ((with_reducible refine gate_callee (f := 28) rfl ?_); refine goesL_ (some 20) rfl rfl Try.func28 (by kernel_rfl) rfl #[.slice A0_2 l0_2.length c0_2, .int .i64 a1] rfl zm ?_; (with_reducible refine (handshakerref18_find.calls k _ _ l0_2 a1 t321 _ ?side1 ?side2 A5.out).mono ?_); (case side1 => repeat (first | exact (Kd.V_reads' HO0_2.out).2.2 | (with_reducible refine Kd.C_alloc ?_ _) | (with_reducible refine Kd.C_drewN ?_ _) | (with_reducible refine Kd.C_drew ?_))); (case side2 => exact (Kd.V_reads' HO0_2.out).2.1); rintro e w' ⟨rfl, ⟨nd, rfl⟩⟩; refine ⟨_, rfl, ?_⟩; (try (rw [drewN_self w27]; generalize hq_ : World.drewN w27 _ = w27; have n0_ : Aside0 (Kd.V k61 61 w27 w.heap.size (fun k_ => (P0_2_ k_ ∨ w.heap.size ≤ k_) ∧ k_ ≠ gb318 ∧ k_ ≠ gb319) (.slice A0_2 l0_2.length c0_2) l0_2) := ⟨by rw [← hq_]; exact (by (with_reducible repeat (first | apply Kd.V_alloc | apply Kd.V_drewN | apply Kd.V_drew)); exact Kd.V_mono HO0_2.out (fun _ hk => ⟨hk.1.1, ⟨hk.1.2, hk.2⟩⟩))⟩; have n1_ : Aside0 (w27.heap[gb318]? = some (.cells #[.int .i64 a0_0, .int .i64 a0_1, .slice A0_2 l0_2.length c0_2] 28 (0, 0))) := ⟨by rw [← hq_]; exact (zb BK318)⟩; have n2_ : Aside0 (w27.heap[gb319]? = some (.cells #[.int .i64 0, .int .i64 0, .slice none 0 0] 28 (0, 0))) := ⟨by rw [← hq_]; exact (zb BK319)⟩; have n3_ : Aside0 (Below w.heap.size w w27) := ⟨by rw [← hq_]; exact (zc2 HB GE318 GE319)⟩; clear HO0_2 BK318 BK319 HB hq_; have HO0_2 := n0_; have BK318 := n1_; have BK319 := n2_; have HB := n3_; clear n0_ n1_ n2_ n3_)); have n_ := am (Kd.V_mono (ok' := (fun k_ => (P0_2_ k_ ∨ w.heap.size ≤ k_) ∧ k_ ≠ gb318 ∧ k_ ≠ gb319)) HO0_2.out (fun k_ hk => by first | exact hk | exact ⟨hk.1.1, ⟨hk.1.2, hk.2⟩⟩)); clear HO0_2; have HO0_2 := n_; clear n_; have hcz29_0 : w27.cell? ⟨gb318, 0, none⟩ = some (.int .i64 a0_0) := (blk_cell BK318.out 0).trans rfl; have hcz29_1 : w27.cell? ⟨gb318, 1, none⟩ = some (.int .i64 a0_1) := (blk_cell BK318.out 1).trans rfl; have hcz29_2 : w27.cell? ⟨gb318, 2, none⟩ = some (.slice A0_2 l0_2.length c0_2) := (blk_cell BK318.out 2).trans rfl; have hfz29_0 := blk_frozen BK318.out 0; have hfz29_1 := blk_frozen BK318.out 1; have hfz29_2 := blk_frozen BK318.out 2; have q30 : (t321 : Int) ≤ ((l0_2.length : Int) : Int) := of_decide_eq_true (by first | (with_reducible assumption) | assumption); obtain ⟨i030, hi030, _, hsz30, _⟩ := info_parts info61; have hroom30 : l0_2.length ≤ c0_2 := (Kd.V_reads' HO0_2.out).2.1; have hC30 : Kd.F k61 _ _ A0_2 l0_2.length l0_2 := (Kd.V_at (base := w.heap.size) HO0_2.out).2.2; have hcut30 := cut_to (P := Try.prog) 26 61 .i64 Try.underlying26 hi030 A0_2 l0_2.length c0_2 t321 (of_decide_eq_true (by first | (with_reducible assumption) | assumption)) q30 hroom30; have hr30 := Kd.F_take (m := (t321 : Int).toNat) hC30 (by omega); have hy30 : y322.length = (t321 : Int).toNat := (by rw [Ny322.out, List.length_take]; omega); rw [← Ny322.out] at hr30; rw [← hy30] at hcut30; have HO326 := am (show Kd.V k61 61 _ w.heap.size _ (.slice A0_2 y322.length c0_2) y322 from Kd.V_mk (by omega) hr30); have HC326 := am (show y322.length ≤ c0_2 from by omega); clear hr30 hC30 hroom30 hi030 hsz30; have KY30 := am hy30; clear hy30; replace q30 := eq_true q30) | ((with_reducible refine gate_builtin (b := .append) (xs := #[.tmp 24, .tmp 28]) rfl ?_); at_builtin; refine Kd.R_append_rows k61 (w0 := w) w.heap.size rfl (.tmp 24) (.tmp 28) 26 61 (.agg #[(.int .i64 0), (.int .i64 0)]) 16 rfl Try.underlying26 info61 rfl (by decide) (by omega) (.slice none 0 0) ([] : List (S61)) y322 _ _ _ (fun k_ => (w.heap.size ≤ k_)) (fun _ => False) rfl rfl ?aO ?aR (fun _ _ h => h) (fun _ h => h.elim) ?aF ?aB ?aS ?aL ?_; (case aR => repeat (first | exact (Kd.V_reads' HO326.out).2.2 | (with_reducible refine Kd.C_alloc ?_ _) | (with_reducible refine Kd.C_drewN ?_ _) | (with_reducible refine Kd.C_drew ?_))); (case aB => exact (zc2 HB GE318 GE319)); (case aF => exact (fun k_ hk => (Nat.le_trans (below_size (zc2 HB GE318 GE319)) hk))); (case aO => exact ((Kd.R_nil _ _ _ _ (fun k_ => (w.heap.size ≤ k_))))); (case aS => exact (below_size (zc2 HB GE318 GE319))); (case aL => have := LMc17.out; omega); intro v328 w31 ho hb hg hat; rw [← Ny327.out] at ho; replace HO0_2 := am (Kd.V_afterv (Kd.V_apart_nil (zV HO0_2)) hg hat); replace BK318 := am (blk_grown (g := gb318) (o := .cells #[.int .i64 a0_0, .int .i64 a0_1, .slice A0_2 l0_2.length c0_2] 28 (0, 0)) (zb BK318) hg (by simp [Value.ownBlock])); replace BK319 := am (blk_grown (g := gb319) (o := .cells #[.int .i64 0, .int .i64 0, .slice none 0 0] 28 (0, 0)) (zb BK319) hg (by simp [Value.ownBlock])); replace HO326 := am (Kd.V_afterv (Kd.V_apart_nil (zV HO326)) hg hat); replace HB := am (hb); have HO329 := am (ho); clear ho hb hg hat; obtain ⟨Ao32, co32, eo32⟩ := Kd.R_slice HO329.out; subst eo32))
         replace HO0_2 := am (Kd.V_drew HO0_2.out)
         replace HO326 := am (Kd.V_drew HO326.out)
         replace HO329 := am (Kd.R_drew HO329.out)
         replace BK318 := am (blk_drew BK318.out)
         replace BK319 := am (blk_drew BK319.out)
         replace HB := am (below_drew1 HB.out)
         have q34 : ((ji18) : Int) ≤ ((l0_2.length : Int) : Int) := of_decide_eq_true (by first | (with_reducible assumption) | assumption)
         obtain ⟨i034, hi034, _, hsz34, _⟩ := info_parts info61
         have hroom34 : l0_2.length ≤ c0_2 := (Kd.V_reads' HO0_2.out).2.1
         have hC34 : Kd.F k61 _ _ A0_2 l0_2.length l0_2 := (Kd.V_at (base := w.heap.size) HO0_2.out).2.2
         have q034 : (0 : Int) ≤ ((ji18) : Int) := of_decide_eq_true (by first | (with_reducible assumption) | assumption)
         have hcut34 := cut_from (P := Try.prog) 26 61 .i64 Try.underlying26 hi034 2 hsz34 A0_2 l0_2.length c0_2 (ji18) q034 q34
         have hr34 := Kd.F_cut (m := ((ji18) : Int).toNat) (c := c0_2) hC34 (by omega) hroom34
         obtain ⟨A34, hA34⟩ : ∃ A1, A1 = (if c0_2 = ((ji18) : Int).toNat then A0_2 else (A0_2 : Option Addr).map (·.add (((ji18) : Int).toNat * 2))) := ⟨_, rfl⟩
         obtain ⟨c34, hc34⟩ : ∃ c1, c1 = c0_2 - ((ji18) : Int).toNat := ⟨_, rfl⟩
         have hy34 : y330.length = l0_2.length - ((ji18) : Int).toNat := (by rw [Ny330.out, List.length_drop] <;> omega)
         rw [show (l0_2).drop ((ji18) : Int).toNat = y330 from Ny330.out.symm] at hr34
         replace hr34 : Kd.F k61 _ _ A34 y330.length y330 := (by rw [hA34]; exact hr34)
         rw [← hy34, ← hA34, ← hc34] at hcut34
         have HO334 := am (show Kd.V k61 61 _ w.heap.size _ (.slice A34 y330.length c34) y330 from Kd.V_mk (by rw [hy34, hc34]; exact Nat.sub_le_sub_right hroom34 _) hr34)
         have HC334 := am (show y330.length ≤ c34 from by rw [hy34, hc34]; exact Nat.sub_le_sub_right hroom34 _)
         clear hr34 hC34 hroom34 hi034 hsz34 hc34
         have KY34 := am hy34
         have KA34 := am hA34
         clear hy34 hA34
         replace q34 := eq_true q34
         refine start_ (n := 19) (S := fun w' => w'.cell? ⟨gb318, 0, none⟩ = some (.int .i64 a0_0) ∧ w'.cell? ⟨gb318, 1, none⟩ = some (.int .i64 a0_1) ∧ w'.cell? ⟨gb318, 2, none⟩ = some (.slice A0_2 l0_2.length c0_2)) (ds := []) #[false, false, false, false, false, false, false, false, false, false, false, false, false, false, false, false, false, false, false] (by kernel_rfl) rfl rfl ⟨(blk_cell BK318.out 0).trans rfl, (blk_cell BK318.out 1).trans rfl, (blk_cell BK318.out 2).trans rfl⟩ (fun hHeld => ?_); refine with_tabW handshakerref18_Leave.tab9 handshakerref18_Leave.bits9 (fun HT_ HW_ => ?_)
         generalize w31.drew = w33 at HO0_2 HO326 HO329 BK318 BK319 HB HO334 hHeld ⊢
         refine pure_ (i := 0) (N := some 31) (v := ?_) (a' := ?_) #[true, false, false, false, false, false, false, false, false, false, false, false, false, false, false, false, false, false, false] rfl rfl (any_of HT_.out (by kernel_rfl)) (fun _ _ _ h => h) (Or.inl ⟨by rfl, ?_⟩) ?_ ?_
         rotate_left
         ·intro w'
          go_simp
          with_reducible rfl
         rotate_left
         ·simp only [Act.put, List.setIfInBounds_toArray, List.set_cons_zero, List.set_cons_succ, i64_w, i32_w]
          rfl
         refine pure_ (i := 2) (N := some 33) (v := ?_) (a' := ?_) #[true, false, true, false, false, false, false, false, false, false, false, false, false, false, false, false, false, false, false] rfl rfl (any_of HT_.out (by kernel_rfl)) (fun _ _ _ h => h) (Or.inl ⟨by rfl, ?_⟩) ?_ ?_
         rotate_left
         ·intro w'
          go_simp
          with_reducible rfl
         rotate_left
         ·simp only [Act.put, List.setIfInBounds_toArray, List.set_cons_zero, List.set_cons_succ, i64_w, i32_w]
          rfl
         refine pure_ (i := 4) (N := some 35) (v := ?_) (a' := ?_) #[true, false, true, false, true, false, false, false, false, false, false, false, false, false, false, false, false, false, false] rfl rfl (any_of HT_.out (by kernel_rfl)) (fun _ _ _ h => h) (Or.inl ⟨by rfl, ?_⟩) ?_ ?_
         rotate_left
         ·intro w'
          go_simp
          with_reducible rfl
         rotate_left
         ·simp only [Act.put, List.setIfInBounds_toArray, List.set_cons_zero, List.set_cons_succ, i64_w, i32_w]
          rfl
         refine pure_ (i := 5) (N := some 36) (v := ?_) (a' := ?_) #[true, false, true, false, true, true, false, false, false, false, false, false, false, false, false, false, false, false, false] rfl rfl (any_of HT_.out (by kernel_rfl)) (fun _ _ _ h => h) (Or.inl ⟨by rfl, ?_⟩) ?_ ?_
         rotate_left
         ·intro w'
          go_simp
          with_reducible rfl
         rotate_left
         ·simp only [Act.put, List.setIfInBounds_toArray, List.set_cons_zero, List.set_cons_succ, i64_w, i32_w]
          rfl
         refine pure_ (i := 7) (N := some 38) (v := ?_) (a' := ?_) #[true, false, true, false, true, true, false, true, false, false, false, false, false, false, false, false, false, false, false] rfl rfl (any_of HT_.out (by kernel_rfl)) (fun _ _ _ h => h) (Or.inl ⟨by rfl, ?_⟩) ?_ ?_
         rotate_left
         ·intro w'
          go_simp
          with_reducible rfl
         rotate_left
         ·simp only [Act.put, List.setIfInBounds_toArray, List.set_cons_zero, List.set_cons_succ, i64_w, i32_w]
          rfl
         refine pure_ (i := 8) (N := some 39) (v := ?_) (a' := ?_) #[true, false, true, false, true, true, false, true, true, false, false, false, false, false, false, false, false, false, false] rfl rfl (any_of HT_.out (by kernel_rfl)) (fun _ _ _ h => h) (Or.inl ⟨by rfl, ?_⟩) ?_ ?_
         rotate_left
         ·intro w'
          go_simp
          with_reducible rfl
         rotate_left
         ·simp only [Act.put, List.setIfInBounds_toArray, List.set_cons_zero, List.set_cons_succ, i64_w, i32_w]
          rfl
         refine take_ (i := 1) (N := some 32) (v := ?_) (a' := ?_) #[true, true, true, false, true, true, false, true, true, false, false, false, false, false, false, false, false, false, false] rfl rfl (take_ofW HT_.out HW_.out (by kernel_rfl)) (fun _ _ _ h => h) (Or.inl ⟨by rfl, ?_⟩) hHeld ?_ ?_
         rotate_left
         ·rintro w' ⟨s0, s1, s2⟩
          go_simp
          with_reducible rfl
         rotate_left
         ·simp only [Act.put, List.setIfInBounds_toArray, List.set_cons_zero, List.set_cons_succ, i64_w, i32_w]
          rfl
         refine take_ (i := 3) (N := some 34) (v := ?_) (a' := ?_) #[true, true, true, true, true, true, false, true, true, false, false, false, false, false, false, false, false, false, false] rfl rfl (take_ofW HT_.out HW_.out (by kernel_rfl)) (fun _ _ _ h => h) (Or.inl ⟨by rfl, ?_⟩) hHeld ?_ ?_
         rotate_left
         ·rintro w' ⟨s0, s1, s2⟩
          go_simp
          with_reducible rfl
         rotate_left
         ·simp only [Act.put, List.setIfInBounds_toArray, List.set_cons_zero, List.set_cons_succ, i64_w, i32_w]
          rfl
         refine take_ (i := 6) (N := some 37) (v := ?_) (a' := ?_) #[true, true, true, true, true, true, true, true, true, false, false, false, false, false, false, false, false, false, false] rfl rfl (take_ofW HT_.out HW_.out (by kernel_rfl)) (fun _ _ _ h => h) (Or.inl ⟨by rfl, ?_⟩) hHeld ?_ ?_
         rotate_left
         ·rintro w' ⟨s0, s1, s2⟩
          go_simp
          with_reducible rfl
         rotate_left
         ·simp only [Act.put, List.setIfInBounds_toArray, List.set_cons_zero, List.set_cons_succ, i64_w, i32_w]
          rfl
         refine pure_ (i := 9) (N := some 40) (v := ?_) (a' := ?_) #[true, true, true, true, true, true, true, true, true, true, false, false, false, false, false, false, false, false, false] rfl rfl (any_of HT_.out (by kernel_rfl)) (fun _ _ _ h => h) (Or.inl ⟨by rfl, ?_⟩) ?_ ?_
         rotate_left
         ·intro w'
          go_simp
          with_reducible rfl
         rotate_left
         ·simp only [Act.put, List.setIfInBounds_toArray, List.set_cons_zero, List.set_cons_succ, i64_w, i32_w]
          rfl
         refine join_ (σ := Value × Value × Value × Nat) 2 #[true, true, true, true, true, true, true, true, true, true, true, true, true, true, true, true, true, false, false] (fun s_ => [(41, s_.1), (43, .tuple #[.agg #[.int .i64 t338, .int .i64 t339, s_.2.1], s_.2.2.1]), (10, .pointer (some ⟨s_.2.2.2, 0, none⟩)), (42, .agg #[.int .i64 a0_0, .int .i64 a0_1, s_.1]), (30, .tuple #[.agg #[.int .i64 t338, .int .i64 t339, s_.2.1], s_.2.2.1]), (44, .agg #[.int .i64 t338, .int .i64 t339, s_.2.1]), (45, s_.2.2.1)]) (fun s_ w' => (w'.cell? ⟨gb318, 0, none⟩ = some (.int .i64 a0_0) ∧ w'.cell? ⟨gb318, 1, none⟩ = some (.int .i64 a0_1) ∧ w'.cell? ⟨gb318, 2, none⟩ = some (.slice A0_2 l0_2.length c0_2)) ∧ (Kd.V k61 61 w' w.heap.size (fun k_ => (P0_2_ k_ ∨ w.heap.size ≤ k_) ∧ some k_ ≠ (s_.1 : Value).ownBlock ∧ some k_ ≠ (s_.2.2.1 : Value).ownBlock ∧ k_ ≠ gb318 ∧ k_ ≠ gb319 ∧ k_ ≠ s_.2.2.2) (.slice A0_2 l0_2.length c0_2) l0_2) ∧ (Kd.V k61 61 w' w.heap.size (fun k_ => (P0_2_ k_ ∨ w.heap.size ≤ k_) ∧ some k_ ≠ (s_.1 : Value).ownBlock ∧ some k_ ≠ (s_.2.2.1 : Value).ownBlock ∧ k_ ≠ gb318 ∧ k_ ≠ gb319 ∧ k_ ≠ s_.2.2.2) (.slice A0_2 y322.length c0_2) y322) ∧ (Kd.V k61 61 w' w.heap.size (fun k_ => (P0_2_ k_ ∨ w.heap.size ≤ k_) ∧ some k_ ≠ (s_.1 : Value).ownBlock ∧ some k_ ≠ (s_.2.2.1 : Value).ownBlock ∧ k_ ≠ gb318 ∧ k_ ≠ gb319 ∧ k_ ≠ s_.2.2.2) (.slice A34 y330.length c34) y330) ∧ (Kd.R k61 61 w' w.heap.size (fun k_ => (w.heap.size ≤ k_) ∧ some k_ ≠ (s_.2.2.1 : Value).ownBlock) s_.1 y335) ∧ (Kd.V k61 61 w' w.heap.size (fun k_ => (P0_2_ k_ ∨ w.heap.size ≤ k_) ∧ some k_ ≠ (s_.2.2.1 : Value).ownBlock ∧ k_ ≠ gb318 ∧ k_ ≠ gb319 ∧ k_ ≠ s_.2.2.2) s_.2.1 t340) ∧ (Kd.R k61 61 w' w.heap.size (fun k_ => (w.heap.size ≤ k_)) s_.2.2.1 t343) ∧ (w'.heap[gb318]? = some (.cells #[.int .i64 a0_0, .int .i64 a0_1, .slice A0_2 l0_2.length c0_2] 28 (0, 0))) ∧ (w'.heap[gb319]? = some (.cells #[.int .i64 0, .int .i64 0, .slice none 0 0] 28 (0, 0))) ∧ (w'.heap[s_.2.2.2]? = some (.cells #[.int .i64 0, .int .i64 0, .slice none 0 0] 28 (0, 0))) ∧ (w.heap.size ≤ s_.2.2.2) ∧ (w.heap.size ≤ s_.2.2.2) ∧ (gb318 ≠ s_.2.2.2) ∧ (s_.2.2.2 ≠ gb318) ∧ (gb319 ≠ s_.2.2.2) ∧ (s_.2.2.2 ≠ gb319) ∧ (Below w.heap.size w w')) ?_ ?_
         rotate_left
         ·intro hCont
          refine two_ (i := 10) (j := 16) (Ni := some 41) (Nj := some 10) #[true, true, true, true, true, true, true, true, true, true, true, false, false, false, false, false, false, false, false] #[true, true, true, true, true, true, true, true, true, true, false, false, false, false, false, false, true, false, false] rfl rfl rfl rfl (two_of HT_.out (by kernel_rfl)) (by decide) (by decide) (fun K hK => ?_) (fun K hK => ?_)
          ·skip
           refine Kd.R_append_rows_step k61 (w0 := w) w.heap.size (by rfl) (.tmp 35) (.tmp 40) 26 61 (.agg #[(.int .i64 0), (.int .i64 0)]) 16 rfl Try.underlying26 info61 rfl (by decide) (by omega) (.slice Ao32 y327.length co32) y327 y330 _ _ _ (fun k_ => (w.heap.size ≤ k_)) (fun _ => False) rfl rfl ?aO ?aR (fun _ _ h => h) (fun _ h => h.elim) ?aF ?aB ?aS ?aL ?_
           (case aR => repeat (first | exact (Kd.V_reads' HO334.out).2.2 | (with_reducible refine Kd.C_alloc ?_ _) | (with_reducible refine Kd.C_drewN ?_ _) | (with_reducible refine Kd.C_drew ?_)))
           (case aB => exact (zc2 HB GE318 GE319))
           (case aF => exact (fun k_ hk => (Nat.le_trans (below_size (zc2 HB GE318 GE319)) hk)))
           (case aO => exact (zR HO329))
           (case aS => exact (below_size (zc2 HB GE318 GE319)))
           (case aL => have := LMc21.out; omega)
           intro v336 w35 ho hb hg hat
           rw [← Ny335.out] at ho
           replace HO0_2 := am (Kd.V_afterv (ok := (fun k_ => (P0_2_ k_ ∨ w.heap.size ≤ k_) ∧ k_ ≠ gb318 ∧ k_ ≠ gb319)) (zV HO0_2) hg hat)
           replace BK318 := am (blk_grown (g := gb318) (o := .cells #[.int .i64 a0_0, .int .i64 a0_1, .slice A0_2 l0_2.length c0_2] 28 (0, 0)) (zb BK318) hg (Kd.R_ne HO329.out BK318.out (by decide)))
           replace BK319 := am (blk_grown (g := gb319) (o := .cells #[.int .i64 0, .int .i64 0, .slice none 0 0] 28 (0, 0)) (zb BK319) hg (Kd.R_ne HO329.out BK319.out (by decide)))
           replace HO326 := am (Kd.V_afterv (ok := (fun k_ => (P0_2_ k_ ∨ w.heap.size ≤ k_) ∧ k_ ≠ gb318 ∧ k_ ≠ gb319)) (zV HO326) hg hat)
           replace HO334 := am (Kd.V_afterv (ok := (fun k_ => (P0_2_ k_ ∨ w.heap.size ≤ k_) ∧ k_ ≠ gb318 ∧ k_ ≠ gb319)) (zV HO334) hg hat)
           replace HB := am (hb)
           have HO337 := am (ho)
           clear HO329
           clear ho hb hg hat
           obtain ⟨Ao36, co36, eo36⟩ := Kd.R_slice HO337.out
           (first | subst eo36 | (injection eo36 with f1_ f2_ f3_; have f4_ := f1_.symm; have f5_ := f3_.symm; clear f1_ f2_ f3_; subst f4_; subst f5_))
           refine hK.out _ _ ⟨(blk_cell BK318.out 0).trans rfl, (blk_cell BK318.out 1).trans rfl, (blk_cell BK318.out 2).trans rfl⟩ (fun hHeld => ?_)
           clear hK K
           refine norm_ (a' := ?_) ?_ ?_
           rotate_left
           ·show Act.put _ (some 41) _ = _
            simp only [Act.put, List.setIfInBounds_toArray, List.set_cons_zero, List.set_cons_succ, i64_w, i32_w]
            rfl
           refine pure_ (i := 11) (N := some 42) (v := ?_) (a' := ?_) #[true, true, true, true, true, true, true, true, true, true, true, true, false, false, false, false, false, false, false] rfl rfl (any_of HT_.out (by kernel_rfl)) (fun _ _ _ h => h) (Or.inl ⟨by rfl, ?_⟩) ?_ ?_
           rotate_left
           ·intro w'
            go_simp
            with_reducible rfl
           rotate_left
           ·simp only [Act.put, List.setIfInBounds_toArray, List.set_cons_zero, List.set_cons_succ, i64_w, i32_w]
            rfl
           refine two_ (i := 12) (j := 16) (Ni := some 43) (Nj := some 10) #[true, true, true, true, true, true, true, true, true, true, true, true, true, false, false, false, false, false, false] #[true, true, true, true, true, true, true, true, true, true, true, true, false, false, false, false, true, false, false] rfl rfl rfl rfl (two_of HT_.out (by kernel_rfl)) (by decide) (by decide) (fun K hK => ?_) (fun K hK => ?_)
           ·skip
            refine goes_ Try.func30 (by kernel_rfl) rfl #[.agg #[.int .i64 a0_0, .int .i64 a0_1, .slice Ao36 y335.length co36], .slice none 0 0] (by rfl) rfl rfl zm ?_
            refine (handshakerref18_serve.calls k a0_0 a0_1 (fun k_ => some k_ = (.slice Ao36 y335.length co36 : Value).ownBlock) _ _ y335 (fun k_ => some k_ = (.slice none 0 0 : Value).ownBlock) (.slice none 0 0) ([] : List (S61)) t338 t339 t340 t343 w _ ?side1 ?side2 ?side3 A22.out).mono ?_
            (case side1 => repeat (first | (with_reducible first | exact HB.out | apply below_alloc | apply pw_below_drewN | apply below_drew1 | refine below_set ?_ GE318.out | refine below_set ?_ GE319.out) | exact HB.out))
            (case side2 => exact Kd.V_mono (Kd.R_V (Kd.R_tight rfl (Kd.R_types (Kd.R_types (HO337.out) BK318.out (by decide)) BK319.out (by decide)))) (fun k_ hk_ => ⟨hk_, (by simp [Value.ownBlock])⟩))
            (case side3 => exact Kd.R_nil _ _ _ _ _)
            rintro e w37 ⟨v341, v344, rfl, ho0, ho1, hb, hkp⟩
            refine ⟨_, rfl, ?_⟩
            replace HO0_2 := am (Kd.V_mono (ok' := fun k_ => (P0_2_ k_ ∨ w.heap.size ≤ k_) ∧ some k_ ≠ (.slice Ao36 y335.length co36 : Value).ownBlock ∧ k_ ≠ gb318 ∧ k_ ≠ gb319 ∧ some k_ ≠ (v344 : Value).ownBlock) (Kd.V_keptB (HO0_2.out) hkp (fun k_ hk_ hs_ => (fun e_ => by simp [Value.ownBlock] at e_) hs_)) (fun k_ hk_ => ⟨hk_.1.1.1, hk_.1.2, hk_.1.1.2.1, hk_.1.1.2.2, fun e_ => Or.elim (ho1.1 k_ e_.symm) (fun hs_ => hk_.2.1 hs_) (fun hn_ => Nat.not_le.2 hk_.2.2 hn_)⟩))
            replace HO326 := am (Kd.V_mono (ok' := fun k_ => (P0_2_ k_ ∨ w.heap.size ≤ k_) ∧ some k_ ≠ (.slice Ao36 y335.length co36 : Value).ownBlock ∧ k_ ≠ gb318 ∧ k_ ≠ gb319 ∧ some k_ ≠ (v344 : Value).ownBlock) (Kd.V_keptB (HO326.out) hkp (fun k_ hk_ hs_ => (fun e_ => by simp [Value.ownBlock] at e_) hs_)) (fun k_ hk_ => ⟨hk_.1.1.1, hk_.1.2, hk_.1.1.2.1, hk_.1.1.2.2, fun e_ => Or.elim (ho1.1 k_ e_.symm) (fun hs_ => hk_.2.1 hs_) (fun hn_ => Nat.not_le.2 hk_.2.2 hn_)⟩))
            replace HO334 := am (Kd.V_mono (ok' := fun k_ => (P0_2_ k_ ∨ w.heap.size ≤ k_) ∧ some k_ ≠ (.slice Ao36 y335.length co36 : Value).ownBlock ∧ k_ ≠ gb318 ∧ k_ ≠ gb319 ∧ some k_ ≠ (v344 : Value).ownBlock) (Kd.V_keptB (HO334.out) hkp (fun k_ hk_ hs_ => (fun e_ => by simp [Value.ownBlock] at e_) hs_)) (fun k_ hk_ => ⟨hk_.1.1.1, hk_.1.2, hk_.1.1.2.1, hk_.1.1.2.2, fun e_ => Or.elim (ho1.1 k_ e_.symm) (fun hs_ => hk_.2.1 hs_) (fun hn_ => Nat.not_le.2 hk_.2.2 hn_)⟩))
            have HO342 := am (Kd.V_mono (ok' := fun k_ => (P0_2_ k_ ∨ w.heap.size ≤ k_) ∧ some k_ ≠ (v344 : Value).ownBlock ∧ k_ ≠ gb318 ∧ k_ ≠ gb319) ho0 (fun k_ hk_ => ⟨Or.elim hk_.1 (fun hs_ => Or.elim hs_ (fun hs_ => (.inr (absurd hs_ (by simp [Value.ownBlock])))) (fun hs_ => (.inr (((Kd.R_types (Kd.R_types (HO337.out) BK318.out (by decide)) BK319.out (by decide)).1 k_ hs_.symm).1.1)))) (fun hn_ => (.inr (Nat.le_trans (below_size (zc2 HB GE318 GE319)) hn_))), hk_.2, Or.elim hk_.1 (fun hs_ => Or.elim hs_ (fun hs_ => absurd hs_ (by simp [Value.ownBlock])) (fun hs_ => ((Kd.R_types (Kd.R_types (HO337.out) BK318.out (by decide)) BK319.out (by decide)).1 k_ hs_.symm).1.2)) (fun hn_ => (zfr gb318 BK318 hn_)), Or.elim hk_.1 (fun hs_ => Or.elim hs_ (fun hs_ => absurd hs_ (by simp [Value.ownBlock])) (fun hs_ => ((Kd.R_types (Kd.R_types (HO337.out) BK318.out (by decide)) BK319.out (by decide)).1 k_ hs_.symm).2)) (fun hn_ => (zfr gb319 BK319 hn_))⟩))
            replace BK318 := am (blk_kept (zb BK318) hkp (fun hs_ => (fun e_ => by simp [Value.ownBlock] at e_) hs_))
            replace BK319 := am (blk_kept (zb BK319) hkp (fun hs_ => (fun e_ => by simp [Value.ownBlock] at e_) hs_))
            replace HO337 := am (Kd.R_mono (ok' := fun k_ => (w.heap.size ≤ k_) ∧ some k_ ≠ (v344 : Value).ownBlock) (Kd.R_keptB (HO337.out) hkp (fun k_ hk_ hs_ => (fun e_ => by simp [Value.ownBlock] at e_) hs_)) (fun k_ hk_ => ⟨hk_.1, fun e_ => Or.elim (ho1.1 k_ e_.symm) (fun hs_ => hk_.2.1 hs_) (fun hn_ => Nat.not_le.2 hk_.2.2 hn_)⟩))
            have HO345 := am (Kd.R_mono (ok' := fun k_ => (w.heap.size ≤ k_)) ho1 (fun k_ hk_ => Or.elim hk_ (fun hs_ => absurd hs_ (by simp [Value.ownBlock])) (fun hn_ => (Nat.le_trans (below_size (zc2 HB GE318 GE319)) hn_))))
            replace HB := am (hb)
            (try clear hb)
            (try clear hkp)
            (try clear ho0)
            (try clear ho1)
            refine hK.out _ _ ⟨(blk_cell BK318.out 0).trans rfl, (blk_cell BK318.out 1).trans rfl, (blk_cell BK318.out 2).trans rfl⟩ (fun hHeld => ?_)
            clear hK K
            refine norm_ (a' := ?_) ?_ ?_
            rotate_left
            ·show Act.put _ (some 43) _ = _
             simp only [Act.put, List.setIfInBounds_toArray, List.set_cons_zero, List.set_cons_succ, i64_w, i32_w]
             rfl
            refine pure_ (i := 13) (N := some 30) (v := ?_) (a' := ?_) #[true, true, true, true, true, true, true, true, true, true, true, true, true, true, false, false, false, false, false] rfl rfl (any_of HT_.out (by kernel_rfl)) (fun _ _ _ h => h) (Or.inl ⟨by rfl, ?_⟩) ?_ ?_
            rotate_left
            ·intro w'
             go_simp
             with_reducible rfl
            rotate_left
            ·simp only [Act.put, List.setIfInBounds_toArray, List.set_cons_zero, List.set_cons_succ, i64_w, i32_w]
             rfl
            refine pure_ (i := 14) (N := some 44) (v := ?_) (a' := ?_) #[true, true, true, true, true, true, true, true, true, true, true, true, true, true, true, false, false, false, false] rfl rfl (any_of HT_.out (by kernel_rfl)) (fun _ _ _ h => h) (Or.inl ⟨by rfl, ?_⟩) ?_ ?_
            rotate_left
            ·intro w'
             go_simp
             with_reducible rfl
            rotate_left
            ·simp only [Act.put, List.setIfInBounds_toArray, List.set_cons_zero, List.set_cons_succ, i64_w, i32_w]
             rfl
            refine pure_ (i := 15) (N := some 45) (v := ?_) (a' := ?_) #[true, true, true, true, true, true, true, true, true, true, true, true, true, true, true, true, false, false, false] rfl rfl (any_of HT_.out (by kernel_rfl)) (fun _ _ _ h => h) (Or.inl ⟨by rfl, ?_⟩) ?_ ?_
            rotate_left
            ·intro w'
             go_simp
             with_reducible rfl
            rotate_left
            ·simp only [Act.put, List.setIfInBounds_toArray, List.set_cons_zero, List.set_cons_succ, i64_w, i32_w]
             rfl
            refine one_ (i := 16) (N := some 10) #[true, true, true, true, true, true, true, true, true, true, true, true, true, true, true, true, true, false, false] rfl rfl (one_of HT_.out (by kernel_rfl)) (by decide) (fun K hK => ?_)
            refine box_step ?hg (N := 10) ?hd (cs := #[.int .i64 0, .int .i64 0, .slice none 0 0]) (t := 28) ?hr ?_; (case hd => rfl); (case hg => rfl); (case hr => first | (go_simp; done) | (go_simp; rfl))
            intro gb346 hg w38 hbox hb
            replace HO0_2 := zVe HO0_2 hg hb
            replace HO326 := zVe HO326 hg hb
            replace HO334 := zVe HO334 hg hb
            replace HO337 := zRb HO337 hb
            replace HO342 := zVe HO342 hg hb
            replace HO345 := zRb HO345 hb
            have BK346 := am (hbox)
            have GW346 := zsz hg (zc2 HB GE318 GE319)
            have GE346 := zsz hg (zc2 HB GE318 GE319)
            replace HB := am (below_step (zc2 HB GE318 GE319) hb)
            have NB318_346 := znt BK318 hg
            have NB346_318 := zng BK318 hg
            replace BK318 := zbb BK318 hb
            have NB319_346 := znt BK319 hg
            have NB346_319 := zng BK319 hg
            replace BK319 := zbb BK319 hb
            clear hb hbox hg
            refine hK.out _ _ ⟨(blk_cell BK318.out 0).trans rfl, (blk_cell BK318.out 1).trans rfl, (blk_cell BK318.out 2).trans rfl⟩ (fun hHeld => ?_)
            clear hK K
            refine norm_ (a' := ?_) ?_ ?_
            rotate_left
            ·show Act.put _ (some 10) _ = _
             simp only [Act.put, List.setIfInBounds_toArray, List.set_cons_zero, List.set_cons_succ, i64_w, i32_w]
             rfl
            exact norm_ (by simp only [putAll, Act.put, List.setIfInBounds_toArray, List.set_cons_zero, List.set_cons_succ]) (hCont (.slice Ao36 y335.length co36, v341, v344, gb346) _ ⟨hHeld, (by (with_reducible repeat (first | apply Kd.V_alloc | apply Kd.V_drewN | apply Kd.V_drew)); exact Kd.V_mono HO0_2.out (fun _ hk => ⟨hk.1.1, ⟨hk.1.2.1, ⟨hk.1.2.2.2.2, ⟨hk.1.2.2.1, ⟨hk.1.2.2.2.1, hk.2⟩⟩⟩⟩⟩)), (by (with_reducible repeat (first | apply Kd.V_alloc | apply Kd.V_drewN | apply Kd.V_drew)); exact Kd.V_mono HO326.out (fun _ hk => ⟨hk.1.1, ⟨hk.1.2.1, ⟨hk.1.2.2.2.2, ⟨hk.1.2.2.1, ⟨hk.1.2.2.2.1, hk.2⟩⟩⟩⟩⟩)), (by (with_reducible repeat (first | apply Kd.V_alloc | apply Kd.V_drewN | apply Kd.V_drew)); exact Kd.V_mono HO334.out (fun _ hk => ⟨hk.1.1, ⟨hk.1.2.1, ⟨hk.1.2.2.2.2, ⟨hk.1.2.2.1, ⟨hk.1.2.2.2.1, hk.2⟩⟩⟩⟩⟩)), (zR HO337), (by (with_reducible repeat (first | apply Kd.V_alloc | apply Kd.V_drewN | apply Kd.V_drew)); exact Kd.V_mono HO342.out (fun _ hk => ⟨hk.1.1, ⟨hk.1.2.1, ⟨hk.1.2.2.1, ⟨hk.1.2.2.2, hk.2⟩⟩⟩⟩)), (zR HO345), (zb BK318), (zb BK319), (zb BK346), GW346.out, GE346.out, NB318_346.out, NB346_318.out, NB319_346.out, NB346_319.out, (zc3 HB GE318 GE319 GE346)⟩)
           ·skip
            refine box_step ?hg (N := 10) ?hd (cs := #[.int .i64 0, .int .i64 0, .slice none 0 0]) (t := 28) ?hr ?_; (case hd => rfl); (case hg => rfl); (case hr => first | (go_simp; done) | (go_simp; rfl))
            intro gb346 hg w37 hbox hb
            replace HO0_2 := zVe HO0_2 hg hb
            replace HO326 := zVe HO326 hg hb
            replace HO334 := zVe HO334 hg hb
            replace HO337 := zRb HO337 hb
            have BK346 := am (hbox)
            have GW346 := zsz hg (zc2 HB GE318 GE319)
            have GE346 := zsz hg (zc2 HB GE318 GE319)
            replace HB := am (below_step (zc2 HB GE318 GE319) hb)
            have NB318_346 := znt BK318 hg
            have NB346_318 := zng BK318 hg
            replace BK318 := zbb BK318 hb
            have NB319_346 := znt BK319 hg
            have NB346_319 := zng BK319 hg
            replace BK319 := zbb BK319 hb
            clear hb hbox hg
            refine hK.out _ _ ⟨(blk_cell BK318.out 0).trans rfl, (blk_cell BK318.out 1).trans rfl, (blk_cell BK318.out 2).trans rfl⟩ (fun hHeld => ?_)
            clear hK K
            refine norm_ (a' := ?_) ?_ ?_
            rotate_left
            ·show Act.put _ (some 10) _ = _
             simp only [Act.put, List.setIfInBounds_toArray, List.set_cons_zero, List.set_cons_succ, i64_w, i32_w]
             rfl
            refine one_ (i := 12) (N := some 43) #[true, true, true, true, true, true, true, true, true, true, true, true, true, false, false, false, true, false, false] rfl rfl (one_of HT_.out (by kernel_rfl)) (by decide) (fun K hK => ?_)
            refine goes_ Try.func30 (by kernel_rfl) rfl #[.agg #[.int .i64 a0_0, .int .i64 a0_1, .slice Ao36 y335.length co36], .slice none 0 0] (by rfl) rfl rfl zm ?_
            refine (handshakerref18_serve.calls k a0_0 a0_1 (fun k_ => some k_ = (.slice Ao36 y335.length co36 : Value).ownBlock) _ _ y335 (fun k_ => some k_ = (.slice none 0 0 : Value).ownBlock) (.slice none 0 0) ([] : List (S61)) t338 t339 t340 t343 w _ ?side1 ?side2 ?side3 A22.out).mono ?_
            (case side1 => repeat (first | (with_reducible first | exact HB.out | apply below_alloc | apply pw_below_drewN | apply below_drew1 | refine below_set ?_ GE318.out | refine below_set ?_ GE319.out | refine below_set ?_ GE346.out) | exact HB.out))
            (case side2 => exact Kd.V_mono (Kd.R_V (Kd.R_tight rfl (Kd.R_types (Kd.R_types (Kd.R_types (HO337.out) BK318.out (by decide)) BK319.out (by decide)) BK346.out (by decide)))) (fun k_ hk_ => ⟨hk_, (by simp [Value.ownBlock])⟩))
            (case side3 => exact Kd.R_nil _ _ _ _ _)
            rintro e w38 ⟨v341, v344, rfl, ho0, ho1, hb, hkp⟩
            refine ⟨_, rfl, ?_⟩
            replace HO0_2 := am (Kd.V_mono (ok' := fun k_ => (P0_2_ k_ ∨ w.heap.size ≤ k_) ∧ some k_ ≠ (.slice Ao36 y335.length co36 : Value).ownBlock ∧ k_ ≠ gb318 ∧ k_ ≠ gb319 ∧ k_ ≠ gb346 ∧ some k_ ≠ (v344 : Value).ownBlock) (Kd.V_keptB (HO0_2.out) hkp (fun k_ hk_ hs_ => (fun e_ => by simp [Value.ownBlock] at e_) hs_)) (fun k_ hk_ => ⟨hk_.1.1.1.1, hk_.1.1.2, hk_.1.1.1.2.1, hk_.1.1.1.2.2, hk_.1.2, fun e_ => Or.elim (ho1.1 k_ e_.symm) (fun hs_ => hk_.2.1 hs_) (fun hn_ => Nat.not_le.2 hk_.2.2 hn_)⟩))
            replace HO326 := am (Kd.V_mono (ok' := fun k_ => (P0_2_ k_ ∨ w.heap.size ≤ k_) ∧ some k_ ≠ (.slice Ao36 y335.length co36 : Value).ownBlock ∧ k_ ≠ gb318 ∧ k_ ≠ gb319 ∧ k_ ≠ gb346 ∧ some k_ ≠ (v344 : Value).ownBlock) (Kd.V_keptB (HO326.out) hkp (fun k_ hk_ hs_ => (fun e_ => by simp [Value.ownBlock] at e_) hs_)) (fun k_ hk_ => ⟨hk_.1.1.1.1, hk_.1.1.2, hk_.1.1.1.2.1, hk_.1.1.1.2.2, hk_.1.2, fun e_ => Or.elim (ho1.1 k_ e_.symm) (fun hs_ => hk_.2.1 hs_) (fun hn_ => Nat.not_le.2 hk_.2.2 hn_)⟩))
            replace HO334 := am (Kd.V_mono (ok' := fun k_ => (P0_2_ k_ ∨ w.heap.size ≤ k_) ∧ some k_ ≠ (.slice Ao36 y335.length co36 : Value).ownBlock ∧ k_ ≠ gb318 ∧ k_ ≠ gb319 ∧ k_ ≠ gb346 ∧ some k_ ≠ (v344 : Value).ownBlock) (Kd.V_keptB (HO334.out) hkp (fun k_ hk_ hs_ => (fun e_ => by simp [Value.ownBlock] at e_) hs_)) (fun k_ hk_ => ⟨hk_.1.1.1.1, hk_.1.1.2, hk_.1.1.1.2.1, hk_.1.1.1.2.2, hk_.1.2, fun e_ => Or.elim (ho1.1 k_ e_.symm) (fun hs_ => hk_.2.1 hs_) (fun hn_ => Nat.not_le.2 hk_.2.2 hn_)⟩))
            have HO342 := am (Kd.V_mono (ok' := fun k_ => (P0_2_ k_ ∨ w.heap.size ≤ k_) ∧ some k_ ≠ (v344 : Value).ownBlock ∧ k_ ≠ gb318 ∧ k_ ≠ gb319 ∧ k_ ≠ gb346) ho0 (fun k_ hk_ => ⟨Or.elim hk_.1 (fun hs_ => Or.elim hs_ (fun hs_ => (.inr (absurd hs_ (by simp [Value.ownBlock])))) (fun hs_ => (.inr (((Kd.R_types (Kd.R_types (Kd.R_types (HO337.out) BK318.out (by decide)) BK319.out (by decide)) BK346.out (by decide)).1 k_ hs_.symm).1.1.1)))) (fun hn_ => (.inr (Nat.le_trans (below_size (zc3 HB GE318 GE319 GE346)) hn_))), hk_.2, Or.elim hk_.1 (fun hs_ => Or.elim hs_ (fun hs_ => absurd hs_ (by simp [Value.ownBlock])) (fun hs_ => ((Kd.R_types (Kd.R_types (Kd.R_types (HO337.out) BK318.out (by decide)) BK319.out (by decide)) BK346.out (by decide)).1 k_ hs_.symm).1.1.2)) (fun hn_ => (zfr gb318 BK318 hn_)), Or.elim hk_.1 (fun hs_ => Or.elim hs_ (fun hs_ => absurd hs_ (by simp [Value.ownBlock])) (fun hs_ => ((Kd.R_types (Kd.R_types (Kd.R_types (HO337.out) BK318.out (by decide)) BK319.out (by decide)) BK346.out (by decide)).1 k_ hs_.symm).1.2)) (fun hn_ => (zfr gb319 BK319 hn_)), Or.elim hk_.1 (fun hs_ => Or.elim hs_ (fun hs_ => absurd hs_ (by simp [Value.ownBlock])) (fun hs_ => ((Kd.R_types (Kd.R_types (Kd.R_types (HO337.out) BK318.out (by decide)) BK319.out (by decide)) BK346.out (by decide)).1 k_ hs_.symm).2)) (fun hn_ => (zfr gb346 BK346 hn_))⟩))
            replace BK318 := am (blk_kept (zb BK318) hkp (fun hs_ => (fun e_ => by simp [Value.ownBlock] at e_) hs_))
            replace BK319 := am (blk_kept (zb BK319) hkp (fun hs_ => (fun e_ => by simp [Value.ownBlock] at e_) hs_))
            replace HO337 := am (Kd.R_mono (ok' := fun k_ => (w.heap.size ≤ k_) ∧ some k_ ≠ (v344 : Value).ownBlock) (Kd.R_keptB (HO337.out) hkp (fun k_ hk_ hs_ => (fun e_ => by simp [Value.ownBlock] at e_) hs_)) (fun k_ hk_ => ⟨hk_.1, fun e_ => Or.elim (ho1.1 k_ e_.symm) (fun hs_ => hk_.2.1 hs_) (fun hn_ => Nat.not_le.2 hk_.2.2 hn_)⟩))
            replace BK346 := am (blk_kept (zb BK346) hkp (fun hs_ => (fun e_ => by simp [Value.ownBlock] at e_) hs_))
            have HO345 := am (Kd.R_mono (ok' := fun k_ => (w.heap.size ≤ k_)) ho1 (fun k_ hk_ => Or.elim hk_ (fun hs_ => absurd hs_ (by simp [Value.ownBlock])) (fun hn_ => (Nat.le_trans (below_size (zc3 HB GE318 GE319 GE346)) hn_))))
            replace HB := am (hb)
            (try clear hb)
            (try clear hkp)
            (try clear ho0)
            (try clear ho1)
            refine hK.out _ _ ⟨(blk_cell BK318.out 0).trans rfl, (blk_cell BK318.out 1).trans rfl, (blk_cell BK318.out 2).trans rfl⟩ (fun hHeld => ?_)
            clear hK K
            refine norm_ (a' := ?_) ?_ ?_
            rotate_left
            ·show Act.put _ (some 43) _ = _
             simp only [Act.put, List.setIfInBounds_toArray, List.set_cons_zero, List.set_cons_succ, i64_w, i32_w]
             rfl
            refine pure_ (i := 13) (N := some 30) (v := ?_) (a' := ?_) #[true, true, true, true, true, true, true, true, true, true, true, true, true, true, false, false, true, false, false] rfl rfl (any_of HT_.out (by kernel_rfl)) (fun _ _ _ h => h) (Or.inl ⟨by rfl, ?_⟩) ?_ ?_
            rotate_left
            ·intro w'
             go_simp
             with_reducible rfl
            rotate_left
            ·simp only [Act.put, List.setIfInBounds_toArray, List.set_cons_zero, List.set_cons_succ, i64_w, i32_w]
             rfl
            refine pure_ (i := 14) (N := some 44) (v := ?_) (a' := ?_) #[true, true, true, true, true, true, true, true, true, true, true, true, true, true, true, false, true, false, false] rfl rfl (any_of HT_.out (by kernel_rfl)) (fun _ _ _ h => h) (Or.inl ⟨by rfl, ?_⟩) ?_ ?_
            rotate_left
            ·intro w'
             go_simp
             with_reducible rfl
            rotate_left
            ·simp only [Act.put, List.setIfInBounds_toArray, List.set_cons_zero, List.set_cons_succ, i64_w, i32_w]
             rfl
            refine pure_ (i := 15) (N := some 45) (v := ?_) (a' := ?_) #[true, true, true, true, true, true, true, true, true, true, true, true, true, true, true, true, true, false, false] rfl rfl (any_of HT_.out (by kernel_rfl)) (fun _ _ _ h => h) (Or.inl ⟨by rfl, ?_⟩) ?_ ?_
            rotate_left
            ·intro w'
             go_simp
             with_reducible rfl
            rotate_left
            ·simp only [Act.put, List.setIfInBounds_toArray, List.set_cons_zero, List.set_cons_succ, i64_w, i32_w]
             rfl
            exact norm_ (by simp only [putAll, Act.put, List.setIfInBounds_toArray, List.set_cons_zero, List.set_cons_succ]) (hCont (.slice Ao36 y335.length co36, v341, v344, gb346) _ ⟨hHeld, (by (with_reducible repeat (first | apply Kd.V_alloc | apply Kd.V_drewN | apply Kd.V_drew)); exact Kd.V_mono HO0_2.out (fun _ hk => ⟨hk.1, ⟨hk.2.1, ⟨hk.2.2.2.2.2, ⟨hk.2.2.1, ⟨hk.2.2.2.1, hk.2.2.2.2.1⟩⟩⟩⟩⟩)), (by (with_reducible repeat (first | apply Kd.V_alloc | apply Kd.V_drewN | apply Kd.V_drew)); exact Kd.V_mono HO326.out (fun _ hk => ⟨hk.1, ⟨hk.2.1, ⟨hk.2.2.2.2.2, ⟨hk.2.2.1, ⟨hk.2.2.2.1, hk.2.2.2.2.1⟩⟩⟩⟩⟩)), (by (with_reducible repeat (first | apply Kd.V_alloc | apply Kd.V_drewN | apply Kd.V_drew)); exact Kd.V_mono HO334.out (fun _ hk => ⟨hk.1, ⟨hk.2.1, ⟨hk.2.2.2.2.2, ⟨hk.2.2.1, ⟨hk.2.2.2.1, hk.2.2.2.2.1⟩⟩⟩⟩⟩)), (zR HO337), (zV HO342), (zR HO345), (zb BK318), (zb BK319), (zb BK346), GW346.out, GE346.out, NB318_346.out, NB346_318.out, NB319_346.out, NB346_319.out, (zc3 HB GE318 GE319 GE346)⟩)
          ·skip
           refine box_step ?hg (N := 10) ?hd (cs := #[.int .i64 0, .int .i64 0, .slice none 0 0]) (t := 28) ?hr ?_; (case hd => rfl); (case hg => rfl); (case hr => first | (go_simp; done) | (go_simp; rfl))
           intro gb346 hg w35 hbox hb
           replace HO0_2 := zVe HO0_2 hg hb
           replace HO326 := zVe HO326 hg hb
           replace HO329 := zRb HO329 hb
           replace HO334 := zVe HO334 hg hb
           have BK346 := am (hbox)
           have GW346 := zsz hg (zc2 HB GE318 GE319)
           have GE346 := zsz hg (zc2 HB GE318 GE319)
           replace HB := am (below_step (zc2 HB GE318 GE319) hb)
           have NB318_346 := znt BK318 hg
           have NB346_318 := zng BK318 hg
           replace BK318 := zbb BK318 hb
           have NB319_346 := znt BK319 hg
           have NB346_319 := zng BK319 hg
           replace BK319 := zbb BK319 hb
           clear hb hbox hg
           refine hK.out _ _ ⟨(blk_cell BK318.out 0).trans rfl, (blk_cell BK318.out 1).trans rfl, (blk_cell BK318.out 2).trans rfl⟩ (fun hHeld => ?_)
           clear hK K
           refine norm_ (a' := ?_) ?_ ?_
           rotate_left
           ·show Act.put _ (some 10) _ = _
            simp only [Act.put, List.setIfInBounds_toArray, List.set_cons_zero, List.set_cons_succ, i64_w, i32_w]
            rfl
           refine one_ (i := 10) (N := some 41) #[true, true, true, true, true, true, true, true, true, true, true, false, false, false, false, false, true, false, false] rfl rfl (one_of HT_.out (by kernel_rfl)) (by decide) (fun K hK => ?_)
           refine Kd.R_append_rows_step k61 (w0 := w) w.heap.size (by rfl) (.tmp 35) (.tmp 40) 26 61 (.agg #[(.int .i64 0), (.int .i64 0)]) 16 rfl Try.underlying26 info61 rfl (by decide) (by omega) (.slice Ao32 y327.length co32) y327 y330 _ _ _ (fun k_ => (w.heap.size ≤ k_)) (fun _ => False) rfl rfl ?aO ?aR (fun _ _ h => h) (fun _ h => h.elim) ?aF ?aB ?aS ?aL ?_
           (case aR => repeat (first | exact (Kd.V_reads' HO334.out).2.2 | (with_reducible refine Kd.C_alloc ?_ _) | (with_reducible refine Kd.C_drewN ?_ _) | (with_reducible refine Kd.C_drew ?_)))
           (case aB => exact (zc3 HB GE318 GE319 GE346))
           (case aF => exact (fun k_ hk => (Nat.le_trans (below_size (zc3 HB GE318 GE319 GE346)) hk)))
           (case aO => exact (zR HO329))
           (case aS => exact (below_size (zc3 HB GE318 GE319 GE346)))
           (case aL => have := LMc21.out; omega)
           intro v336 w36 ho hb hg hat
           rw [← Ny335.out] at ho
           replace HO0_2 := am (Kd.V_afterv (ok := (fun k_ => (P0_2_ k_ ∨ w.heap.size ≤ k_) ∧ k_ ≠ gb318 ∧ k_ ≠ gb319 ∧ k_ ≠ gb346)) (by (with_reducible repeat (first | apply Kd.V_alloc | apply Kd.V_drewN | apply Kd.V_drew)); exact Kd.V_mono HO0_2.out (fun _ hk => ⟨⟨hk.1.1.1, ⟨hk.1.1.2.1, ⟨hk.1.1.2.2, hk.2⟩⟩⟩, hk.1.2⟩)) hg hat)
           replace BK318 := am (blk_grown (g := gb318) (o := .cells #[.int .i64 a0_0, .int .i64 a0_1, .slice A0_2 l0_2.length c0_2] 28 (0, 0)) (zb BK318) hg (Kd.R_ne HO329.out BK318.out (by decide)))
           replace BK319 := am (blk_grown (g := gb319) (o := .cells #[.int .i64 0, .int .i64 0, .slice none 0 0] 28 (0, 0)) (zb BK319) hg (Kd.R_ne HO329.out BK319.out (by decide)))
           replace HO326 := am (Kd.V_afterv (ok := (fun k_ => (P0_2_ k_ ∨ w.heap.size ≤ k_) ∧ k_ ≠ gb318 ∧ k_ ≠ gb319 ∧ k_ ≠ gb346)) (by (with_reducible repeat (first | apply Kd.V_alloc | apply Kd.V_drewN | apply Kd.V_drew)); exact Kd.V_mono HO326.out (fun _ hk => ⟨⟨hk.1.1.1, ⟨hk.1.1.2.1, ⟨hk.1.1.2.2, hk.2⟩⟩⟩, hk.1.2⟩)) hg hat)
           replace HO334 := am (Kd.V_afterv (ok := (fun k_ => (P0_2_ k_ ∨ w.heap.size ≤ k_) ∧ k_ ≠ gb318 ∧ k_ ≠ gb319 ∧ k_ ≠ gb346)) (by (with_reducible repeat (first | apply Kd.V_alloc | apply Kd.V_drewN | apply Kd.V_drew)); exact Kd.V_mono HO334.out (fun _ hk => ⟨⟨hk.1.1.1, ⟨hk.1.1.2.1, ⟨hk.1.1.2.2, hk.2⟩⟩⟩, hk.1.2⟩)) hg hat)
           replace BK346 := am (blk_grown (g := gb346) (o := .cells #[.int .i64 0, .int .i64 0, .slice none 0 0] 28 (0, 0)) (zb BK346) hg (Kd.R_ne HO329.out BK346.out (by decide)))
           replace HB := am (hb)
           have HO337 := am (ho)
           clear HO329
           clear ho hb hg hat
           obtain ⟨Ao37, co37, eo37⟩ := Kd.R_slice HO337.out
           (first | subst eo37 | (injection eo37 with f1_ f2_ f3_; have f4_ := f1_.symm; have f5_ := f3_.symm; clear f1_ f2_ f3_; subst f4_; subst f5_))
           refine hK.out _ _ ⟨(blk_cell BK318.out 0).trans rfl, (blk_cell BK318.out 1).trans rfl, (blk_cell BK318.out 2).trans rfl⟩ (fun hHeld => ?_)
           clear hK K
           refine norm_ (a' := ?_) ?_ ?_
           rotate_left
           ·show Act.put _ (some 41) _ = _
            simp only [Act.put, List.setIfInBounds_toArray, List.set_cons_zero, List.set_cons_succ, i64_w, i32_w]
            rfl
           refine pure_ (i := 11) (N := some 42) (v := ?_) (a' := ?_) #[true, true, true, true, true, true, true, true, true, true, true, true, false, false, false, false, true, false, false] rfl rfl (any_of HT_.out (by kernel_rfl)) (fun _ _ _ h => h) (Or.inl ⟨by rfl, ?_⟩) ?_ ?_
           rotate_left
           ·intro w'
            go_simp
            with_reducible rfl
           rotate_left
           ·simp only [Act.put, List.setIfInBounds_toArray, List.set_cons_zero, List.set_cons_succ, i64_w, i32_w]
            rfl
           refine one_ (i := 12) (N := some 43) #[true, true, true, true, true, true, true, true, true, true, true, true, true, false, false, false, true, false, false] rfl rfl (one_of HT_.out (by kernel_rfl)) (by decide) (fun K hK => ?_)
           refine goes_ Try.func30 (by kernel_rfl) rfl #[.agg #[.int .i64 a0_0, .int .i64 a0_1, .slice Ao37 y335.length co37], .slice none 0 0] (by rfl) rfl rfl zm ?_
           refine (handshakerref18_serve.calls k a0_0 a0_1 (fun k_ => some k_ = (.slice Ao37 y335.length co37 : Value).ownBlock) _ _ y335 (fun k_ => some k_ = (.slice none 0 0 : Value).ownBlock) (.slice none 0 0) ([] : List (S61)) t338 t339 t340 t343 w _ ?side1 ?side2 ?side3 A22.out).mono ?_
           (case side1 => repeat (first | (with_reducible first | exact HB.out | apply below_alloc | apply pw_below_drewN | apply below_drew1 | refine below_set ?_ GE318.out | refine below_set ?_ GE319.out | refine below_set ?_ GE346.out) | exact HB.out))
           (case side2 => exact Kd.V_mono (Kd.R_V (Kd.R_tight rfl (Kd.R_types (Kd.R_types (Kd.R_types (HO337.out) BK318.out (by decide)) BK319.out (by decide)) BK346.out (by decide)))) (fun k_ hk_ => ⟨hk_, (by simp [Value.ownBlock])⟩))
           (case side3 => exact Kd.R_nil _ _ _ _ _)
           rintro e w38 ⟨v341, v344, rfl, ho0, ho1, hb, hkp⟩
           refine ⟨_, rfl, ?_⟩
           replace HO0_2 := am (Kd.V_mono (ok' := fun k_ => (P0_2_ k_ ∨ w.heap.size ≤ k_) ∧ some k_ ≠ (.slice Ao37 y335.length co37 : Value).ownBlock ∧ k_ ≠ gb318 ∧ k_ ≠ gb319 ∧ k_ ≠ gb346 ∧ some k_ ≠ (v344 : Value).ownBlock) (Kd.V_keptB (HO0_2.out) hkp (fun k_ hk_ hs_ => (fun e_ => by simp [Value.ownBlock] at e_) hs_)) (fun k_ hk_ => ⟨hk_.1.1.1, hk_.1.2, hk_.1.1.2.1, hk_.1.1.2.2.1, hk_.1.1.2.2.2, fun e_ => Or.elim (ho1.1 k_ e_.symm) (fun hs_ => hk_.2.1 hs_) (fun hn_ => Nat.not_le.2 hk_.2.2 hn_)⟩))
           replace HO326 := am (Kd.V_mono (ok' := fun k_ => (P0_2_ k_ ∨ w.heap.size ≤ k_) ∧ some k_ ≠ (.slice Ao37 y335.length co37 : Value).ownBlock ∧ k_ ≠ gb318 ∧ k_ ≠ gb319 ∧ k_ ≠ gb346 ∧ some k_ ≠ (v344 : Value).ownBlock) (Kd.V_keptB (HO326.out) hkp (fun k_ hk_ hs_ => (fun e_ => by simp [Value.ownBlock] at e_) hs_)) (fun k_ hk_ => ⟨hk_.1.1.1, hk_.1.2, hk_.1.1.2.1, hk_.1.1.2.2.1, hk_.1.1.2.2.2, fun e_ => Or.elim (ho1.1 k_ e_.symm) (fun hs_ => hk_.2.1 hs_) (fun hn_ => Nat.not_le.2 hk_.2.2 hn_)⟩))
           replace HO334 := am (Kd.V_mono (ok' := fun k_ => (P0_2_ k_ ∨ w.heap.size ≤ k_) ∧ some k_ ≠ (.slice Ao37 y335.length co37 : Value).ownBlock ∧ k_ ≠ gb318 ∧ k_ ≠ gb319 ∧ k_ ≠ gb346 ∧ some k_ ≠ (v344 : Value).ownBlock) (Kd.V_keptB (HO334.out) hkp (fun k_ hk_ hs_ => (fun e_ => by simp [Value.ownBlock] at e_) hs_)) (fun k_ hk_ => ⟨hk_.1.1.1, hk_.1.2, hk_.1.1.2.1, hk_.1.1.2.2.1, hk_.1.1.2.2.2, fun e_ => Or.elim (ho1.1 k_ e_.symm) (fun hs_ => hk_.2.1 hs_) (fun hn_ => Nat.not_le.2 hk_.2.2 hn_)⟩))
           have HO342 := am (Kd.V_mono (ok' := fun k_ => (P0_2_ k_ ∨ w.heap.size ≤ k_) ∧ some k_ ≠ (v344 : Value).ownBlock ∧ k_ ≠ gb318 ∧ k_ ≠ gb319 ∧ k_ ≠ gb346) ho0 (fun k_ hk_ => ⟨Or.elim hk_.1 (fun hs_ => Or.elim hs_ (fun hs_ => (.inr (absurd hs_ (by simp [Value.ownBlock])))) (fun hs_ => (.inr (((Kd.R_types (Kd.R_types (Kd.R_types (HO337.out) BK318.out (by decide)) BK319.out (by decide)) BK346.out (by decide)).1 k_ hs_.symm).1.1.1)))) (fun hn_ => (.inr (Nat.le_trans (below_size (zc3 HB GE318 GE319 GE346)) hn_))), hk_.2, Or.elim hk_.1 (fun hs_ => Or.elim hs_ (fun hs_ => absurd hs_ (by simp [Value.ownBlock])) (fun hs_ => ((Kd.R_types (Kd.R_types (Kd.R_types (HO337.out) BK318.out (by decide)) BK319.out (by decide)) BK346.out (by decide)).1 k_ hs_.symm).1.1.2)) (fun hn_ => (zfr gb318 BK318 hn_)), Or.elim hk_.1 (fun hs_ => Or.elim hs_ (fun hs_ => absurd hs_ (by simp [Value.ownBlock])) (fun hs_ => ((Kd.R_types (Kd.R_types (Kd.R_types (HO337.out) BK318.out (by decide)) BK319.out (by decide)) BK346.out (by decide)).1 k_ hs_.symm).1.2)) (fun hn_ => (zfr gb319 BK319 hn_)), Or.elim hk_.1 (fun hs_ => Or.elim hs_ (fun hs_ => absurd hs_ (by simp [Value.ownBlock])) (fun hs_ => ((Kd.R_types (Kd.R_types (Kd.R_types (HO337.out) BK318.out (by decide)) BK319.out (by decide)) BK346.out (by decide)).1 k_ hs_.symm).2)) (fun hn_ => (zfr gb346 BK346 hn_))⟩))
           replace BK318 := am (blk_kept (zb BK318) hkp (fun hs_ => (fun e_ => by simp [Value.ownBlock] at e_) hs_))
           replace BK319 := am (blk_kept (zb BK319) hkp (fun hs_ => (fun e_ => by simp [Value.ownBlock] at e_) hs_))
           replace BK346 := am (blk_kept (zb BK346) hkp (fun hs_ => (fun e_ => by simp [Value.ownBlock] at e_) hs_))
           replace HO337 := am (Kd.R_mono (ok' := fun k_ => (w.heap.size ≤ k_) ∧ some k_ ≠ (v344 : Value).ownBlock) (Kd.R_keptB (HO337.out) hkp (fun k_ hk_ hs_ => (fun e_ => by simp [Value.ownBlock] at e_) hs_)) (fun k_ hk_ => ⟨hk_.1, fun e_ => Or.elim (ho1.1 k_ e_.symm) (fun hs_ => hk_.2.1 hs_) (fun hn_ => Nat.not_le.2 hk_.2.2 hn_)⟩))
           have HO345 := am (Kd.R_mono (ok' := fun k_ => (w.heap.size ≤ k_)) ho1 (fun k_ hk_ => Or.elim hk_ (fun hs_ => absurd hs_ (by simp [Value.ownBlock])) (fun hn_ => (Nat.le_trans (below_size (zc3 HB GE318 GE319 GE346)) hn_))))
           replace HB := am (hb)
           (try clear hb)
           (try clear hkp)
           (try clear ho0)
           (try clear ho1)
           refine hK.out _ _ ⟨(blk_cell BK318.out 0).trans rfl, (blk_cell BK318.out 1).trans rfl, (blk_cell BK318.out 2).trans rfl⟩ (fun hHeld => ?_)
           clear hK K
           refine norm_ (a' := ?_) ?_ ?_
           rotate_left
           ·show Act.put _ (some 43) _ = _
            simp only [Act.put, List.setIfInBounds_toArray, List.set_cons_zero, List.set_cons_succ, i64_w, i32_w]
            rfl
           refine pure_ (i := 13) (N := some 30) (v := ?_) (a' := ?_) #[true, true, true, true, true, true, true, true, true, true, true, true, true, true, false, false, true, false, false] rfl rfl (any_of HT_.out (by kernel_rfl)) (fun _ _ _ h => h) (Or.inl ⟨by rfl, ?_⟩) ?_ ?_
           rotate_left
           ·intro w'
            go_simp
            with_reducible rfl
           rotate_left
           ·simp only [Act.put, List.setIfInBounds_toArray, List.set_cons_zero, List.set_cons_succ, i64_w, i32_w]
            rfl
           refine pure_ (i := 14) (N := some 44) (v := ?_) (a' := ?_) #[true, true, true, true, true, true, true, true, true, true, true, true, true, true, true, false, true, false, false] rfl rfl (any_of HT_.out (by kernel_rfl)) (fun _ _ _ h => h) (Or.inl ⟨by rfl, ?_⟩) ?_ ?_
           rotate_left
           ·intro w'
            go_simp
            with_reducible rfl
           rotate_left
           ·simp only [Act.put, List.setIfInBounds_toArray, List.set_cons_zero, List.set_cons_succ, i64_w, i32_w]
            rfl
           refine pure_ (i := 15) (N := some 45) (v := ?_) (a' := ?_) #[true, true, true, true, true, true, true, true, true, true, true, true, true, true, true, true, true, false, false] rfl rfl (any_of HT_.out (by kernel_rfl)) (fun _ _ _ h => h) (Or.inl ⟨by rfl, ?_⟩) ?_ ?_
           rotate_left
           ·intro w'
            go_simp
            with_reducible rfl
           rotate_left
           ·simp only [Act.put, List.setIfInBounds_toArray, List.set_cons_zero, List.set_cons_succ, i64_w, i32_w]
            rfl
           exact norm_ (by simp only [putAll, Act.put, List.setIfInBounds_toArray, List.set_cons_zero, List.set_cons_succ]) (hCont (.slice Ao37 y335.length co37, v341, v344, gb346) _ ⟨hHeld, (by (with_reducible repeat (first | apply Kd.V_alloc | apply Kd.V_drewN | apply Kd.V_drew)); exact Kd.V_mono HO0_2.out (fun _ hk => ⟨hk.1, ⟨hk.2.1, ⟨hk.2.2.2.2.2, ⟨hk.2.2.1, ⟨hk.2.2.2.1, hk.2.2.2.2.1⟩⟩⟩⟩⟩)), (by (with_reducible repeat (first | apply Kd.V_alloc | apply Kd.V_drewN | apply Kd.V_drew)); exact Kd.V_mono HO326.out (fun _ hk => ⟨hk.1, ⟨hk.2.1, ⟨hk.2.2.2.2.2, ⟨hk.2.2.1, ⟨hk.2.2.2.1, hk.2.2.2.2.1⟩⟩⟩⟩⟩)), (by (with_reducible repeat (first | apply Kd.V_alloc | apply Kd.V_drewN | apply Kd.V_drew)); exact Kd.V_mono HO334.out (fun _ hk => ⟨hk.1, ⟨hk.2.1, ⟨hk.2.2.2.2.2, ⟨hk.2.2.1, ⟨hk.2.2.2.1, hk.2.2.2.2.1⟩⟩⟩⟩⟩)), (zR HO337), (zV HO342), (zR HO345), (zb BK318), (zb BK319), (zb BK346), GW346.out, GE346.out, NB318_346.out, NB346_318.out, NB319_346.out, NB346_319.out, (zc3 HB GE318 GE319 GE346)⟩)
         rintro ⟨v336, v341, v344, gb346⟩ w39 ⟨hS_, h0_, h1_, h2_, h3_, h4_, h5_, h6_, h7_, h8_, h9_, h10_, h11_, h12_, h13_, h14_, h15_⟩
         have n0_ : Aside0 (Kd.V k61 61 w39 w.heap.size (fun k_ => (P0_2_ k_ ∨ w.heap.size ≤ k_) ∧ some k_ ≠ (v336 : Value).ownBlock ∧ some k_ ≠ (v344 : Value).ownBlock ∧ k_ ≠ gb318 ∧ k_ ≠ gb319 ∧ k_ ≠ gb346) (.slice A0_2 l0_2.length c0_2) l0_2) := ⟨h0_⟩
         have n1_ : Aside0 (Kd.V k61 61 w39 w.heap.size (fun k_ => (P0_2_ k_ ∨ w.heap.size ≤ k_) ∧ some k_ ≠ (v336 : Value).ownBlock ∧ some k_ ≠ (v344 : Value).ownBlock ∧ k_ ≠ gb318 ∧ k_ ≠ gb319 ∧ k_ ≠ gb346) (.slice A0_2 y322.length c0_2) y322) := ⟨h1_⟩
         have n2_ : Aside0 (Kd.V k61 61 w39 w.heap.size (fun k_ => (P0_2_ k_ ∨ w.heap.size ≤ k_) ∧ some k_ ≠ (v336 : Value).ownBlock ∧ some k_ ≠ (v344 : Value).ownBlock ∧ k_ ≠ gb318 ∧ k_ ≠ gb319 ∧ k_ ≠ gb346) (.slice A34 y330.length c34) y330) := ⟨h2_⟩
         have n3_ : Aside0 (Kd.R k61 61 w39 w.heap.size (fun k_ => (w.heap.size ≤ k_) ∧ some k_ ≠ (v344 : Value).ownBlock) v336 y335) := ⟨h3_⟩
         have n4_ : Aside0 (Kd.V k61 61 w39 w.heap.size (fun k_ => (P0_2_ k_ ∨ w.heap.size ≤ k_) ∧ some k_ ≠ (v344 : Value).ownBlock ∧ k_ ≠ gb318 ∧ k_ ≠ gb319 ∧ k_ ≠ gb346) v341 t340) := ⟨h4_⟩
         have n5_ : Aside0 (Kd.R k61 61 w39 w.heap.size (fun k_ => (w.heap.size ≤ k_)) v344 t343) := ⟨h5_⟩
         have n6_ : Aside0 (w39.heap[gb318]? = some (.cells #[.int .i64 a0_0, .int .i64 a0_1, .slice A0_2 l0_2.length c0_2] 28 (0, 0))) := ⟨h6_⟩
         have n7_ : Aside0 (w39.heap[gb319]? = some (.cells #[.int .i64 0, .int .i64 0, .slice none 0 0] 28 (0, 0))) := ⟨h7_⟩
         have n8_ : Aside0 (w39.heap[gb346]? = some (.cells #[.int .i64 0, .int .i64 0, .slice none 0 0] 28 (0, 0))) := ⟨h8_⟩
         have n9_ : Aside0 (w.heap.size ≤ gb346) := ⟨h9_⟩
         have n10_ : Aside0 (w.heap.size ≤ gb346) := ⟨h10_⟩
         have n11_ : Aside0 (gb318 ≠ gb346) := ⟨h11_⟩
         have n12_ : Aside0 (gb346 ≠ gb318) := ⟨h12_⟩
         have n13_ : Aside0 (gb319 ≠ gb346) := ⟨h13_⟩
         have n14_ : Aside0 (gb346 ≠ gb319) := ⟨h14_⟩
         have n15_ : Aside0 (Below w.heap.size w w39) := ⟨h15_⟩
         clear HO0_2
         clear HO326
         clear HO329
         clear BK318
         clear BK319
         clear HB
         clear h0_ h1_ h2_ h3_ h4_ h5_ h6_ h7_ h8_ h9_ h10_ h11_ h12_ h13_ h14_ h15_
         have HO0_2 := n0_
         have HO326 := n1_
         have HO334 := n2_
         have HO337 := n3_
         have HO342 := n4_
         have HO345 := n5_
         have BK318 := n6_
         have BK319 := n7_
         have BK346 := n8_
         have GW346 := n9_
         have GE346 := n10_
         have NB318_346 := n11_
         have NB346_318 := n12_
         have NB319_346 := n13_
         have NB346_319 := n14_
         have HB := n15_
         clear n0_ n1_ n2_ n3_ n4_ n5_ n6_ n7_ n8_ n9_ n10_ n11_ n12_ n13_ n14_ n15_
         have hHeld : w39.cell? ⟨gb318, 0, none⟩ = some (.int .i64 a0_0) ∧ w39.cell? ⟨gb318, 1, none⟩ = some (.int .i64 a0_1) ∧ w39.cell? ⟨gb318, 2, none⟩ = some (.slice A0_2 l0_2.length c0_2) := hS_
         obtain ⟨Ao40, co40, eo40⟩ := Kd.R_slice HO337.out
         (first | subst eo40 | (injection eo40 with f1_ f2_ f3_; have f4_ := f1_.symm; have f5_ := f3_.symm; clear f1_ f2_ f3_; subst f4_; subst f5_))
         obtain ⟨Ao43, co43, eo43⟩ := Kd.V_slice HO342.out
         (first | subst eo43 | (injection eo43 with f1_ f2_ f3_; have f4_ := f1_.symm; have f5_ := f3_.symm; clear f1_ f2_ f3_; subst f4_; subst f5_))
         refine norm_ (a' := ?_) ?_ ?_
         rotate_left
         ·simp only [putAll, Act.put, List.setIfInBounds_toArray, List.set_cons_zero, List.set_cons_succ]
          rfl
         refine one_ (i := 17) (N := none) #[true, true, true, true, true, true, true, true, true, true, true, true, true, true, true, true, true, true, false] rfl rfl (one_of HT_.out (by kernel_rfl)) (by decide) (fun K hK => ?_)
         have hs41 : w39.cell? ⟨gb346, 0, none⟩ = some (.int .i64 0) := (blk_cell BK346.out 0).trans rfl
         have hfs41 := blk_frozen BK346.out 0
         have hns41_0 := NB318_346.out
         have hns41_1 := NB319_346.out
         have hms41_0 := NB346_318.out
         have hms41_1 := NB346_319.out
         have hs42 : w39.cell? ⟨gb346, 1, none⟩ = some (.int .i64 0) := (blk_cell BK346.out 1).trans rfl
         have hfs42 := blk_frozen BK346.out 1
         have hns42_0 := NB318_346.out
         have hns42_1 := NB319_346.out
         have hms42_0 := NB346_318.out
         have hms42_1 := NB346_319.out
         have hs44 : w39.cell? ⟨gb346, 2, none⟩ = some (.slice none 0 0) := (blk_cell BK346.out 2).trans rfl
         have hfs44 := blk_frozen BK346.out 2
         have hns44_0 := NB318_346.out
         have hns44_1 := NB319_346.out
         have hms44_0 := NB346_318.out
         have hms44_1 := NB346_319.out
         refine skip_ (w1 := ?_) (by rfl) rfl ?_ ?_
         rotate_left
         ·go_simp
          rfl
         refine hK.out _ _ ⟨((cell_far (p := ⟨gb346, _, none⟩) NB318_346.out _).trans (((cell_far (p := ⟨gb346, _, none⟩) NB318_346.out _).trans (((cell_far (p := ⟨gb346, _, none⟩) NB318_346.out _).trans (hHeld.1)))))), ((cell_far (p := ⟨gb346, _, none⟩) NB318_346.out _).trans (((cell_far (p := ⟨gb346, _, none⟩) NB318_346.out _).trans (((cell_far (p := ⟨gb346, _, none⟩) NB318_346.out _).trans (hHeld.2.1)))))), ((cell_far (p := ⟨gb346, _, none⟩) NB318_346.out _).trans (((cell_far (p := ⟨gb346, _, none⟩) NB318_346.out _).trans (((cell_far (p := ⟨gb346, _, none⟩) NB318_346.out _).trans (hHeld.2.2))))))⟩ (fun hHeld => ?_)
         clear hK K
         refine pure_ (i := 18) (N := some 11) (v := ?_) (a' := ?_) #[true, true, true, true, true, true, true, true, true, true, true, true, true, true, true, true, true, true, true] rfl rfl (any_of HT_.out (by kernel_rfl)) (fun _ _ _ h => h) (Or.inl ⟨by rfl, ?_⟩) ?_ ?_
         rotate_left
         ·intro w'
          go_simp
          with_reducible rfl
         rotate_left
         ·simp only [Act.put, List.setIfInBounds_toArray, List.set_cons_zero, List.set_cons_succ, i64_w, i32_w]
          rfl
         refine done_ (done_of HT_.out (by kernel_rfl)) ?_
         have hnb45 := NB346_318.out
         have hnc45 := NB318_346.out
         have hnb46 := NB346_319.out
         have hnc46 := NB319_346.out
         have hcz47_0 : w39.cell? ⟨gb346, 0, none⟩ = some (.int .i64 0) := (blk_cell BK346.out 0).trans rfl
         have hcz47_1 : w39.cell? ⟨gb346, 1, none⟩ = some (.int .i64 0) := (blk_cell BK346.out 1).trans rfl
         have hcz47_2 : w39.cell? ⟨gb346, 2, none⟩ = some (.slice none 0 0) := (blk_cell BK346.out 2).trans rfl
         have hfz47_0 := blk_frozen BK346.out 0
         have hfz47_1 := blk_frozen BK346.out 1
         have hfz47_2 := blk_frozen BK346.out 2
         have hcz48_0 : w39.cell? ⟨gb319, 0, none⟩ = some (.int .i64 0) := (blk_cell BK319.out 0).trans rfl
         have hcz48_1 : w39.cell? ⟨gb319, 1, none⟩ = some (.int .i64 0) := (blk_cell BK319.out 1).trans rfl
         have hcz48_2 : w39.cell? ⟨gb319, 2, none⟩ = some (.slice none 0 0) := (blk_cell BK319.out 2).trans rfl
         have hfz48_0 := blk_frozen BK319.out 0
         have hfz48_1 := blk_frozen BK319.out 1
         have hfz48_2 := blk_frozen BK319.out 2
         try go_wp2
         refine bodyPost_ret (results_ctt rfl _ _ gb319 28 #[.int .i64 t338, .int .i64 t339, .slice Ao43 t340.length co43] (0, 0) _ rfl (by (with_reducible repeat (first | refine blk_drewN ?_ _ | refine blk_drew ?_ | refine blk_alloc ?_ _)); refine blk_put (cs := #[.int .i64 t338, .int .i64 t339, .slice none 0 0]) ?_ 2 _ rfl; (with_reducible repeat (first | refine blk_drewN ?_ _ | refine blk_drew ?_ | refine blk_alloc ?_ _)); refine blk_put (cs := #[.int .i64 t338, .int .i64 0, .slice none 0 0]) ?_ 1 _ rfl; (with_reducible repeat (first | refine blk_drewN ?_ _ | refine blk_drew ?_ | refine blk_alloc ?_ _)); refine blk_put (cs := #[.int .i64 0, .int .i64 0, .slice none 0 0]) ?_ 0 _ rfl; (with_reducible repeat (first | refine blk_drewN ?_ _ | refine blk_drew ?_ | refine blk_alloc ?_ _)); refine blk_far ?_ NB319_346.out _; (with_reducible repeat (first | refine blk_drewN ?_ _ | refine blk_drew ?_ | refine blk_alloc ?_ _)); refine blk_far ?_ NB319_346.out _; (with_reducible repeat (first | refine blk_drewN ?_ _ | refine blk_drew ?_ | refine blk_alloc ?_ _)); refine blk_far ?_ NB319_346.out _; (with_reducible repeat (first | refine blk_drewN ?_ _ | refine blk_drew ?_ | refine blk_alloc ?_ _)); exact BK319.out) Try.underlying28 rfl (by kernel_rfl)) rfl ?_
         exact ⟨_, _, by first | rfl | (simp [errW_none, errW_some] <;> rfl) | (simp only [← hji18]; first | rfl | (simp [errW_none, errW_some] <;> rfl)) | (simp [*, errW_none, errW_some] <;> rfl), by (with_reducible repeat (first | apply Kd.V_alloc | apply Kd.V_drewN | apply Kd.V_drew)); exact Kd.V_mono (Kd.V_far (p := ⟨gb319, 2, none⟩) (Kd.V_far (p := ⟨gb319, 1, none⟩) (Kd.V_far (p := ⟨gb319, 0, none⟩) (Kd.V_far (p := ⟨gb346, 2, none⟩) (Kd.V_far (p := ⟨gb346, 1, none⟩) (Kd.V_far (p := ⟨gb346, 0, none⟩) (Kd.V_mono (Kd.V_mono HO342.out (fun k_ hk => (⟨hk, hk.2.2.2.2⟩ : _ ∧ k_ ≠ gb346))) (fun k_ hk => (⟨hk, hk.1.2.2.2.1⟩ : _ ∧ k_ ≠ gb319))) (fun _ hk => hk.1.2) (.int .i64 t338)) (fun _ hk => hk.1.2) (.int .i64 t339)) (fun _ hk => hk.1.2) (.slice Ao43 t340.length co43)) (fun _ hk => hk.2) (.int .i64 t338)) (fun _ hk => hk.2) (.int .i64 t339)) (fun _ hk => hk.2) (.slice Ao43 t340.length co43)) (fun _ hk => ⟨hk.1.1.1, hk.1.1.2.1⟩), by (with_reducible repeat (first | apply Kd.R_alloc | apply Kd.R_drewN | apply Kd.R_drew)); exact Kd.R_mono (Kd.R_far (p := ⟨gb319, 2, none⟩) (Kd.R_far (p := ⟨gb319, 1, none⟩) (Kd.R_far (p := ⟨gb319, 0, none⟩) (Kd.R_far (p := ⟨gb346, 2, none⟩) (Kd.R_far (p := ⟨gb346, 1, none⟩) (Kd.R_far (p := ⟨gb346, 0, none⟩) (Kd.R_types (Kd.R_types HO345.out BK346.out (by decide)) BK319.out (by decide)) (fun _ hk => hk.1.2) (.int .i64 t338)) (fun _ hk => hk.1.2) (.int .i64 t339)) (fun _ hk => hk.1.2) (.slice Ao43 t340.length co43)) (fun _ hk => hk.2) (.int .i64 t338)) (fun _ hk => hk.2) (.int .i64 t339)) (fun _ hk => hk.2) (.slice Ao43 t340.length co43)) (fun _ hk => hk.1.1), by repeat (first | (with_reducible first | exact HB.out | apply below_alloc | apply pw_below_drewN | apply below_drew1 | refine below_set ?_ GE318.out | refine below_set ?_ GE319.out | refine below_set ?_ GE346.out) | exact HB.out)⟩
        ·rw [if_neg c21] at H
         exact absurd H (by simp)
       ·rw [if_neg c20] at H
        exact absurd H (by simp)
      ·rw [if_neg c19] at H
       exact absurd H (by simp)
     ·rw [if_neg c17] at H
      exact absurd H (by simp)
    ·rw [if_neg c16] at H
     exact absurd H (by simp)
   ·rw [if_neg c15] at H
    exact absurd H (by simp)
 ·replace c4 := Bool.eq_false_iff.mpr c4
  subst c4
  have H1 : (some (a0_0, a0_1, l0_2, ([] : List (S61)), 1)) = some (r1, r2, r3, r4, r5) := by rw [if_neg (show ¬ (false = true) by decide)] at H; exact H
  clear H
  have H := H1
  clear H1
  simp only [Option.some.injEq, Prod.mk.injEq] at H
  obtain ⟨rfl, rfl, rfl, rfl, rfl⟩ := H
  go_enter Try.func16, Try.ntmps16
  go_wp2_with (first | ((with_reducible refine gate_dst (N := 2) rfl ?_); refine box_event ?hg (N := 2) ?hd (cs := #[.int .i64 a0_0, .int .i64 a0_1, .slice A0_2 l0_2.length c0_2]) (t := 28) ?hr ?_; (case hd => rfl); (case hg => rfl); (case hr => first | (go_simp; done) | (go_simp; rfl)); intro gb318 hg w49 hbox hb; replace HO0_2 := zVe HO0_2 hg hb; have BK318 := am (hbox); have GW318 := zsz hg (zc0 HB); have GE318 := zsz hg (zc0 HB); replace HB := am (below_step (zc0 HB) hb); clear hb hbox hg) | ((with_reducible refine gate_dst (N := 4) rfl ?_); refine box_event ?hg (N := 4) ?hd (cs := #[.int .i64 0, .int .i64 0, .slice none 0 0]) (t := 28) ?hr ?_; (case hd => rfl); (case hg => rfl); (case hr => first | (go_simp; done) | (go_simp; rfl)); intro gb319 hg w50 hbox hb; replace HO0_2 := zVe HO0_2 hg hb; have BK319 := am (hbox); have GW319 := zsz hg (zc1 HB GE318); have GE319 := zsz hg (zc1 HB GE318); replace HB := am (below_step (zc1 HB GE318) hb); have NB318_319 := znt BK318 hg; have NB319_318 := zng BK318 hg; replace BK318 := zbb BK318 hb; clear hb hbox hg; have hnb51 := NB318_319.out; have hnc51 := NB319_318.out; have hcz52_0 : w50.cell? ⟨gb318, 0, none⟩ = some (.int .i64 a0_0) := (blk_cell BK318.out 0).trans rfl; have hcz52_1 : w50.cell? ⟨gb318, 1, none⟩ = some (.int .i64 a0_1) := (blk_cell BK318.out 1).trans rfl; have hcz52_2 : w50.cell? ⟨gb318, 2, none⟩ = some (.slice A0_2 l0_2.length c0_2) := (blk_cell BK318.out 2).trans rfl; have hfz52_0 := blk_frozen BK318.out 0; have hfz52_1 := blk_frozen BK318.out 1; have hfz52_2 := blk_frozen BK318.out 2) | ((with_reducible refine gate_callee (f := 18) rfl ?_); refine goesL_ (some 13) rfl rfl Try.func18 (by kernel_rfl) rfl #[.agg #[.int .i64 a0_0, .int .i64 a0_1, .slice A0_2 l0_2.length c0_2]] rfl zm ?_; (with_reducible refine (handshakerref18_Right.calls k a0_0 a0_1 _ _ l0_2 false _ ?side1 ?side2 A3.out).mono ?_); (case side1 => repeat (first | exact (Kd.V_reads' HO0_2.out).2.2 | (with_reducible refine Kd.C_alloc ?_ _) | (with_reducible refine Kd.C_drewN ?_ _) | (with_reducible refine Kd.C_drew ?_))); (case side2 => exact (Kd.V_reads' HO0_2.out).2.1); rintro e w53 ⟨rfl, hb⟩; refine ⟨_, rfl, ?_⟩; replace HO0_2 := zVb HO0_2 hb; replace BK318 := zbb BK318 hb; replace BK319 := zbb BK319 hb; replace HB := am (below_step (zc2 HB GE318 GE319) hb); (try clear hb); (try clear hb2); (try clear hk); (try clear hi); have hcz54_0 : w53.cell? ⟨gb318, 0, none⟩ = some (.int .i64 a0_0) := (blk_cell BK318.out 0).trans rfl; have hcz54_1 : w53.cell? ⟨gb318, 1, none⟩ = some (.int .i64 a0_1) := (blk_cell BK318.out 1).trans rfl; have hcz54_2 : w53.cell? ⟨gb318, 2, none⟩ = some (.slice A0_2 l0_2.length c0_2) := (blk_cell BK318.out 2).trans rfl; have hfz54_0 := blk_frozen BK318.out 0; have hfz54_1 := blk_frozen BK318.out 1; have hfz54_2 := blk_frozen BK318.out 2; have hcz55_0 : w53.cell? ⟨gb319, 0, none⟩ = some (.int .i64 0) := (blk_cell BK319.out 0).trans rfl; have hcz55_1 : w53.cell? ⟨gb319, 1, none⟩ = some (.int .i64 0) := (blk_cell BK319.out 1).trans rfl; have hcz55_2 : w53.cell? ⟨gb319, 2, none⟩ = some (.slice none 0 0) := (blk_cell BK319.out 2).trans rfl; have hfz55_0 := blk_frozen BK319.out 0; have hfz55_1 := blk_frozen BK319.out 1; have hfz55_2 := blk_frozen BK319.out 2))
  refine bodyPost_ret (results_ctt rfl _ _ gb319 28 #[.int .i64 a0_0, .int .i64 a0_1, .slice A0_2 l0_2.length c0_2] (0, 0) _ rfl (by (with_reducible repeat (first | refine blk_drewN ?_ _ | refine blk_drew ?_ | refine blk_alloc ?_ _)); refine blk_put (cs := #[.int .i64 a0_0, .int .i64 a0_1, .slice none 0 0]) ?_ 2 _ rfl; (with_reducible repeat (first | refine blk_drewN ?_ _ | refine blk_drew ?_ | refine blk_alloc ?_ _)); refine blk_put (cs := #[.int .i64 a0_0, .int .i64 0, .slice none 0 0]) ?_ 1 _ rfl; (with_reducible repeat (first | refine blk_drewN ?_ _ | refine blk_drew ?_ | refine blk_alloc ?_ _)); refine blk_put (cs := #[.int .i64 0, .int .i64 0, .slice none 0 0]) ?_ 0 _ rfl; (with_reducible repeat (first | refine blk_drewN ?_ _ | refine blk_drew ?_ | refine blk_alloc ?_ _)); exact BK319.out) Try.underlying28 rfl (by kernel_rfl)) rfl ?_
  exact ⟨_, _, by first | rfl | (simp [errW_none, errW_some] <;> rfl) | (simp [*, errW_none, errW_some] <;> rfl), by (with_reducible repeat (first | apply Kd.V_alloc | apply Kd.V_drewN | apply Kd.V_drew)); exact Kd.V_mono (Kd.V_far (p := ⟨gb319, 2, none⟩) (Kd.V_far (p := ⟨gb319, 1, none⟩) (Kd.V_far (p := ⟨gb319, 0, none⟩) (Kd.V_mono HO0_2.out (fun k_ hk => (⟨hk, hk.2⟩ : _ ∧ k_ ≠ gb319))) (fun _ hk => hk.2) (.int .i64 a0_0)) (fun _ hk => hk.2) (.int .i64 a0_1)) (fun _ hk => hk.2) (.slice A0_2 l0_2.length c0_2)) (fun _ hk => ⟨hk.1.1.1, (by simp [Value.ownBlock])⟩), by first | exact Kd.R_nil _ _ _ _ _ | exact Kd.N_nil _ _ _ _ _ | exact Kd.V_nil _ _ _ _ _ | exact Kd.Q_nil _ _ _ _ _ | exact Kd.S_nil _ _ _ _ _, by repeat (first | (with_reducible first | exact HB.out | apply below_alloc | apply pw_below_drewN | apply below_drew1 | refine below_set ?_ GE318.out | refine below_set ?_ GE319.out) | exact HB.out)⟩

end Go.Proofs.Ythbcajkphkdnmaa.PSemaTells
