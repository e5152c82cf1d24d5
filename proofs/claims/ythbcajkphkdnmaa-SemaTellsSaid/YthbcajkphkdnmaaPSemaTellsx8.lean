/- Lean functions that say what functions of the given program compute, and proofs by walking the code that each call does just that; no condition but those that each statement names. -/
import Derived.Test.YthbcajkphkdnmaaPSemaTellsx0
import Derived.Test.YthbcajkphkdnmaaPSemaTellsx3
import Derived.Test.YthbcajkphkdnmaaPSemaTellsx4
import Derived.Test.YthbcajkphkdnmaaPSemaTellsx5
import Derived.Test.YthbcajkphkdnmaaPSemaTellsx7
namespace Go.Proofs.Ythbcajkphkdnmaa.PSemaTells
open Go.RowKit Go.Proofs.YthbcajkphkdnmaaW.PrintWords Go.Proofs.YthbcajkphkdnmaaW.PrintLast Go.Proofs.YthbcajkphkdnmaaW.PrintMore
attribute [local go_sem] max2_int min2_int max_two min_two max_three min_three max_four min_four   -- for this text's walks alone
set_option linter.unusedVariables false
set_option linter.unusedSimpArgs false

/-! ### sema_Give: function 13 -/
def sema_Give.j0 : Nat → Int → Bool → Int → Int → List (S50) → Option (Int × Int × (List (S50)) × (List (S50)) × Int)
 | 0, _, _, _, _, _ => none
 | k + 1, x1, x9, x149000, x149001, x149002 => if x9 = true then (some (x149000, x149001, x149002, ([] : List (S50)), 1)) else (if x1 > (wrap64 (x149000 - x149001)) then (some (x149000, x149001, x149002, ([] : List (S50)), 4)) else ((sema_Ask_26.f x149002).bind fun t151 => ((sema_served.f k x149000 (wrap64 (x149001 + x1)) t151).bind fun bt154 => (some (bt154.1, bt154.2.1, bt154.2.2.1, bt154.2.2.2, 0)))))
def sema_Give.f (k : Nat) (a0_0 : Int) (a0_1 : Int) (l0_2 : List (S50)) (a1 : Int) : Option (Int × Int × (List (S50)) × (List (S50)) × Int) := (sema_Right.f k a0_0 a0_1 l0_2).bind fun t150 => (if t150 = true then (sema_Give.j0 k a1 (decide (a1 < 1)) a0_0 a0_1 l0_2) else (sema_Give.j0 k a1 true a0_0 a0_1 l0_2))
theorem sema_Give.mono_l : ∀ k, (∀ y0 y1 y2 y3 y4, LeO (sema_Give.j0 k y0 y1 y2 y3 y4) (sema_Give.j0 (k + 1) y0 y1 y2 y3 y4))
 | 0 => fun _ _ _ _ _ r h => by simp [sema_Give.j0] at h
 | k + 1 => by
  have ih0 := sema_Give.mono_l k
  ·intro y0 y1 y2 y3 y4
   unfold sema_Give.j0
   repeat' first
   | (with_reducible exact ih0 _ _ _ _ _)
   | (with_reducible exact sema_Right.mono _ _ _ _)
   | (with_reducible exact sema_served.mono _ _ _ _)
   | (with_reducible exact LeO.refl _)
   | (with_reducible exact LeO.none _)
   | (with_reducible refine LeO.ite ?_ ?_)
   | (with_reducible refine LeO.bind ?_ (fun _ => ?_))
   | exact ih0 _ _ _ _ _
   | exact sema_Right.mono _ _ _ _
   | exact sema_served.mono _ _ _ _
   | exact LeO.none _
   | refine LeO.ite ?_ ?_
   | refine LeO.bind ?_ (fun _ => ?_)
theorem sema_Give.mono : ∀ a0 a1 a2 a3 k, LeO (sema_Give.f k a0 a1 a2 a3) (sema_Give.f (k + 1) a0 a1 a2 a3) := by
 intro a0 a1 a2 a3 k
 have ih0 := sema_Give.mono_l k
 unfold sema_Give.f
 repeat' first
   | (with_reducible exact ih0 _ _ _ _ _)
   | (with_reducible exact sema_Right.mono _ _ _ _)
   | (with_reducible exact sema_served.mono _ _ _ _)
   | (with_reducible exact LeO.refl _)
   | (with_reducible exact LeO.none _)
   | (with_reducible refine LeO.ite ?_ ?_)
   | (with_reducible refine LeO.bind ?_ (fun _ => ?_))
   | exact ih0 _ _ _ _ _
   | exact sema_Right.mono _ _ _ _
   | exact sema_served.mono _ _ _ _
   | exact LeO.none _
   | refine LeO.ite ?_ ?_
   | refine LeO.bind ?_ (fun _ => ?_)
set_option maxHeartbeats 8000000 in
set_option maxRecDepth 100000 in
theorem sema_Give.calls (k : Nat) (a0_0 : Int) (a0_1 : Int) (P0_2_ : Nat → Prop) (A0_2 : Option Addr) (c0_2 : Nat) (l0_2 : List (S50)) (a1 : Int) (r1 : Int) (r2 : Int) (r3 : List (S50)) (r4 : List (S50)) (r5 : Int) (w : World) (hs0_2 : Kd.V k50 50 w w.heap.size (fun k_ => P0_2_ k_) (.slice A0_2 l0_2.length c0_2) l0_2) (h : sema_Give.f k a0_0 a0_1 l0_2 a1 = some (r1, r2, r3, r4, r5)) :
  Calls Try.prog 13 #[.agg #[.int .i64 a0_0, .int .i64 a0_1, .slice A0_2 l0_2.length c0_2], .int .i64 a1] w fun e w' => ∃ v2_ v3_ : Value, e = .returned (.tuple #[.agg #[.int .i64 r1, .int .i64 r2, v2_], v3_, .int .i64 r5]) ∧ Kd.V k50 50 w' w.heap.size (fun k_ => (P0_2_ k_ ∨ w.heap.size ≤ k_) ∧ some k_ ≠ (v3_ : Value).ownBlock) v2_ r3 ∧ Kd.R k50 50 w' w.heap.size (fun k_ => (w.heap.size ≤ k_)) v3_ r4 ∧ Below w.heap.size w w' := by
 have hu24 := Try.underlying24
 have HO0_2 := am (show Kd.V k50 50 w w.heap.size (fun k_ => (P0_2_ k_ ∨ w.heap.size ≤ k_)) (.slice A0_2 l0_2.length c0_2) l0_2 from Kd.V_mono hs0_2 (fun k_ hk => .inl hk))
 have HB := am (Below.refl w.heap.size w)
 have H : ((sema_Right.f k a0_0 a0_1 l0_2).bind fun t150 => (if t150 = true then (sema_Give.j0 k a1 (decide (a1 < 1)) a0_0 a0_1 l0_2) else (sema_Give.j0 k a1 true a0_0 a0_1 l0_2))) = some (r1, r2, r3, r4, r5) := h
 clear h
 have HC3 := am H
 clear H
 go_enter Try.func13, Try.ntmps13
 go_upto_region 1 with (first | ((with_reducible refine gate_dst (N := 2) rfl ?_); refine box_event ?hg (N := 2) ?hd (cs := #[.int .i64 a0_0, .int .i64 a0_1, .slice A0_2 l0_2.length c0_2]) (t := 24) ?hr ?_; (case hd => rfl); (case hg => rfl); (case hr => first | (go_simp; done) | (go_simp; rfl)); intro gb148 hg w4 hbox hb; replace HO0_2 := zVe HO0_2 hg hb; have BK148 := am (hbox); have GW148 := zsz hg (zc0 HB); have GE148 := zsz hg (zc0 HB); replace HB := am (below_step (zc0 HB) hb); clear hb hbox hg) | ((with_reducible refine gate_dst (N := 4) rfl ?_); refine box_event ?hg (N := 4) ?hd (cs := #[.int .i64 0, .int .i64 0, .slice none 0 0]) (t := 24) ?hr ?_; (case hd => rfl); (case hg => rfl); (case hr => first | (go_simp; done) | (go_simp; rfl)); intro gb149 hg w5 hbox hb; replace HO0_2 := zVe HO0_2 hg hb; have BK149 := am (hbox); have GW149 := zsz hg (zc1 HB GE148); have GE149 := zsz hg (zc1 HB GE148); replace HB := am (below_step (zc1 HB GE148) hb); have NB148_149 := znt BK148 hg; have NB149_148 := zng BK148 hg; replace BK148 := zbb BK148 hb; clear hb hbox hg))
 (try simp only [Act.put, List.setIfInBounds_toArray, List.set_cons_zero, List.set_cons_succ])
 go_cut [9] (fun v9 wc => ∃ (kq : Nat) (x9_2 : Bool), v9 = .bool x9_2 ∧ Aside0 (sema_Give.j0 kq a1 x9_2 a0_0 a0_1 l0_2 = some (r1, r2, r3, r4, r5)) ∧ Aside0 (kq ≤ k) ∧ Aside0 (Kd.V k50 50 wc w.heap.size (fun k_ => (P0_2_ k_ ∨ w.heap.size ≤ k_) ∧ k_ ≠ gb148 ∧ k_ ≠ gb149) (.slice A0_2 l0_2.length c0_2) l0_2) ∧ Aside0 (wc.heap[gb148]? = some (.cells #[.int .i64 a0_0, .int .i64 a0_1, (.slice A0_2 l0_2.length c0_2)] 24 (0, 0))) ∧ Aside0 (wc.heap[gb149]? = some (.cells #[.int .i64 0, .int .i64 0, (.slice none 0 0)] 24 (0, 0))) ∧ Aside0 (Below w.heap.size w wc))
 case first =>
  have H := HC3.out
  clear HC3
  replace H := Option.bind_eq_some_iff.mp H
  obtain ⟨t150, A60, H⟩ := H
  try dsimp only at H
  have A6 := am A60
  clear A60
  by_cases c7 : t150 = true
  ·subst c7
   have H1 : (sema_Give.j0 k a1 (decide (a1 < 1)) a0_0 a0_1 l0_2) = some (r1, r2, r3, r4, r5) := by rw [if_pos rfl] at H; exact H
   clear H
   have H := H1
   clear H1
   have H' := am H
   clear H
   have hnb8 := NB148_149.out
   have hnc8 := NB149_148.out
   have hcz9_0 : w5.cell? ⟨gb148, 0, none⟩ = some (.int .i64 a0_0) := (blk_cell BK148.out 0).trans rfl
   have hcz9_1 : w5.cell? ⟨gb148, 1, none⟩ = some (.int .i64 a0_1) := (blk_cell BK148.out 1).trans rfl
   have hcz9_2 : w5.cell? ⟨gb148, 2, none⟩ = some (.slice A0_2 l0_2.length c0_2) := (blk_cell BK148.out 2).trans rfl
   have hfz9_0 := blk_frozen BK148.out 0
   have hfz9_1 := blk_frozen BK148.out 1
   have hfz9_2 := blk_frozen BK148.out 2
   go_wp2_with (first | ((with_reducible refine gate_callee (f := 19) rfl ?_); refine goesL_ (some 11) rfl rfl Try.func19 (by kernel_rfl) rfl #[.agg #[.int .i64 a0_0, .int .i64 a0_1, .slice A0_2 l0_2.length c0_2]] rfl zm ?_; (with_reducible refine (sema_Right.calls k a0_0 a0_1 _ _ l0_2 true _ ?side1 ?side2 A6.out).mono ?_); (case side1 => repeat (first | exact (Kd.V_reads' HO0_2.out).2.2 | (with_reducible refine Kd.C_alloc ?_ _) | (with_reducible refine Kd.C_drewN ?_ _) | (with_reducible refine Kd.C_drew ?_))); (case side2 => exact (Kd.V_reads' HO0_2.out).2.1); rintro e w10 ⟨rfl, hb⟩; refine ⟨_, rfl, ?_⟩; replace HO0_2 := zVb HO0_2 hb; replace BK148 := zbb BK148 hb; replace BK149 := zbb BK149 hb; replace HB := am (below_step (zc2 HB GE148 GE149) hb); (try clear hb); (try clear hb2); (try clear hk); (try clear hi)))
   go_meet
   case rel => exact ⟨_, (decide (a1 < 1)), (by first | rfl | (simp; done) | (simp [*]; done)), H', ⟨by first | omega | exact Nat.le_refl _⟩, ⟨by (with_reducible repeat (first | apply Kd.V_alloc | apply Kd.V_drewN | apply Kd.V_drew)); exact Kd.V_mono HO0_2.out (fun _ hk => ⟨hk.1.1, ⟨hk.1.2, hk.2⟩⟩)⟩, ⟨by (with_reducible repeat (first | refine blk_drewN ?_ _ | refine blk_drew ?_ | refine blk_alloc ?_ _)); exact BK148.out⟩, ⟨by (with_reducible repeat (first | refine blk_drewN ?_ _ | refine blk_drew ?_ | refine blk_alloc ?_ _)); exact BK149.out⟩, ⟨by repeat (first | (with_reducible first | exact HB.out | apply below_alloc | apply pw_below_drewN | apply below_drew1 | refine below_set ?_ GE148.out | refine below_set ?_ GE149.out) | exact HB.out)⟩⟩
  ·replace c7 := Bool.eq_false_iff.mpr c7
   subst c7
   have H1 : (sema_Give.j0 k a1 true a0_0 a0_1 l0_2) = some (r1, r2, r3, r4, r5) := by rw [if_neg (show ¬ (false = true) by decide)] at H; exact H
   clear H
   have H := H1
   clear H1
   have H' := am H
   clear H
   have hnb11 := NB148_149.out
   have hnc11 := NB149_148.out
   have hcz12_0 : w5.cell? ⟨gb148, 0, none⟩ = some (.int .i64 a0_0) := (blk_cell BK148.out 0).trans rfl
   have hcz12_1 : w5.cell? ⟨gb148, 1, none⟩ = some (.int .i64 a0_1) := (blk_cell BK148.out 1).trans rfl
   have hcz12_2 : w5.cell? ⟨gb148, 2, none⟩ = some (.slice A0_2 l0_2.length c0_2) := (blk_cell BK148.out 2).trans rfl
   have hfz12_0 := blk_frozen BK148.out 0
   have hfz12_1 := blk_frozen BK148.out 1
   have hfz12_2 := blk_frozen BK148.out 2
   go_wp2_with (first | ((with_reducible refine gate_callee (f := 19) rfl ?_); refine goesL_ (some 11) rfl rfl Try.func19 (by kernel_rfl) rfl #[.agg #[.int .i64 a0_0, .int .i64 a0_1, .slice A0_2 l0_2.length c0_2]] rfl zm ?_; (with_reducible refine (sema_Right.calls k a0_0 a0_1 _ _ l0_2 false _ ?side1 ?side2 A6.out).mono ?_); (case side1 => repeat (first | exact (Kd.V_reads' HO0_2.out).2.2 | (with_reducible refine Kd.C_alloc ?_ _) | (with_reducible refine Kd.C_drewN ?_ _) | (with_reducible refine Kd.C_drew ?_))); (case side2 => exact (Kd.V_reads' HO0_2.out).2.1); rintro e w13 ⟨rfl, hb⟩; refine ⟨_, rfl, ?_⟩; replace HO0_2 := zVb HO0_2 hb; replace BK148 := zbb BK148 hb; replace BK149 := zbb BK149 hb; replace HB := am (below_step (zc2 HB GE148 GE149) hb); (try clear hb); (try clear hb2); (try clear hk); (try clear hi)))
   go_meet
   case rel => exact ⟨_, (true), (by first | rfl | (simp; done) | (simp [*]; done)), H', ⟨by first | omega | exact Nat.le_refl _⟩, ⟨by (with_reducible repeat (first | apply Kd.V_alloc | apply Kd.V_drewN | apply Kd.V_drew)); exact Kd.V_mono HO0_2.out (fun _ hk => ⟨hk.1.1, ⟨hk.1.2, hk.2⟩⟩)⟩, ⟨by (with_reducible repeat (first | refine blk_drewN ?_ _ | refine blk_drew ?_ | refine blk_alloc ?_ _)); exact BK148.out⟩, ⟨by (with_reducible repeat (first | refine blk_drewN ?_ _ | refine blk_drew ?_ | refine blk_alloc ?_ _)); exact BK149.out⟩, ⟨by repeat (first | (with_reducible first | exact HB.out | apply below_alloc | apply pw_below_drewN | apply below_drew1 | refine below_set ?_ GE148.out | refine below_set ?_ GE149.out) | exact HB.out)⟩⟩
 case rest =>
  clear HC3
  try clear c1
  try clear p2
  try clear c7
  try clear c8
  try clear c11
  try clear c13
  try clear hcz12_0
  try clear hcz12_1
  try clear hcz12_2
  try clear hcz9_0
  try clear hcz9_1
  try clear hcz9_2
  try clear hfz12_0
  try clear hfz12_1
  try clear hfz12_2
  try clear hfz9_0
  try clear hfz9_1
  try clear hfz9_2
  obtain ⟨kq, x9_2, rfl, HA, HJ2, HO_149002, BK148, BK149, HB⟩ := hcut
  cases kq with
  | zero => exact absurd HA.out (by simp [sema_Give.j0])
  | succ kj2 =>
   have H := HA.out
   clear HA
   simp only [sema_Give.j0] at H
   by_cases c14 : x9_2 = true
   ·subst c14
    have H1 : (some (a0_0, a0_1, l0_2, ([] : List (S50)), 1)) = some (r1, r2, r3, r4, r5) := by rw [if_pos rfl] at H; exact H
    clear H
    have H := H1
    clear H1
    simp only [Option.some.injEq, Prod.mk.injEq] at H
    obtain ⟨rfl, rfl, rfl, rfl, rfl⟩ := H
    have hnb15 := NB148_149.out
    have hnc15 := NB149_148.out
    have hcz16_0 : wc.cell? ⟨gb148, 0, none⟩ = some (.int .i64 a0_0) := (blk_cell BK148.out 0).trans rfl
    have hcz16_1 : wc.cell? ⟨gb148, 1, none⟩ = some (.int .i64 a0_1) := (blk_cell BK148.out 1).trans rfl
    have hcz16_2 : wc.cell? ⟨gb148, 2, none⟩ = some (.slice A0_2 l0_2.length c0_2) := (blk_cell BK148.out 2).trans rfl
    have hfz16_0 := blk_frozen BK148.out 0
    have hfz16_1 := blk_frozen BK148.out 1
    have hfz16_2 := blk_frozen BK148.out 2
    have hcz17_0 : wc.cell? ⟨gb149, 0, none⟩ = some (.int .i64 0) := (blk_cell BK149.out 0).trans rfl
    have hcz17_1 : wc.cell? ⟨gb149, 1, none⟩ = some (.int .i64 0) := (blk_cell BK149.out 1).trans rfl
    have hcz17_2 : wc.cell? ⟨gb149, 2, none⟩ = some (.slice none 0 0) := (blk_cell BK149.out 2).trans rfl
    have hfz17_0 := blk_frozen BK149.out 0
    have hfz17_1 := blk_frozen BK149.out 1
    have hfz17_2 := blk_frozen BK149.out 2
    go_wp2
    refine bodyPost_ret (results_ctt rfl _ _ gb149 24 #[.int .i64 a0_0, .int .i64 a0_1, .slice A0_2 l0_2.length c0_2] (0, 0) _ rfl (by (with_reducible repeat (first | refine blk_drewN ?_ _ | refine blk_drew ?_ | refine blk_alloc ?_ _)); refine blk_put (cs := #[.int .i64 a0_0, .int .i64 a0_1, .slice none 0 0]) ?_ 2 _ rfl; (with_reducible repeat (first | refine blk_drewN ?_ _ | refine blk_drew ?_ | refine blk_alloc ?_ _)); refine blk_put (cs := #[.int .i64 a0_0, .int .i64 0, .slice none 0 0]) ?_ 1 _ rfl; (with_reducible repeat (first | refine blk_drewN ?_ _ | refine blk_drew ?_ | refine blk_alloc ?_ _)); refine blk_put (cs := #[.int .i64 0, .int .i64 0, .slice none 0 0]) ?_ 0 _ rfl; (with_reducible repeat (first | refine blk_drewN ?_ _ | refine blk_drew ?_ | refine blk_alloc ?_ _)); exact BK149.out) Try.underlying24 rfl (by kernel_rfl)) rfl ?_
    exact ⟨_, _, by first | rfl | (simp [errW_none, errW_some] <;> rfl) | (simp [*, errW_none, errW_some] <;> rfl), by (with_reducible repeat (first | apply Kd.V_alloc | apply Kd.V_drewN | apply Kd.V_drew)); exact Kd.V_mono (Kd.V_far (p := ⟨gb149, 2, none⟩) (Kd.V_far (p := ⟨gb149, 1, none⟩) (Kd.V_far (p := ⟨gb149, 0, none⟩) (Kd.V_mono HO_149002.out (fun k_ hk => (⟨hk, hk.2.2⟩ : _ ∧ k_ ≠ gb149))) (fun _ hk => hk.2) (.int .i64 a0_0)) (fun _ hk => hk.2) (.int .i64 a0_1)) (fun _ hk => hk.2) (.slice A0_2 l0_2.length c0_2)) (fun _ hk => ⟨hk.1.1, (by simp [Value.ownBlock])⟩), by first | exact Kd.R_nil _ _ _ _ _ | exact Kd.N_nil _ _ _ _ _ | exact Kd.V_nil _ _ _ _ _ | exact Kd.Q_nil _ _ _ _ _ | exact Kd.S_nil _ _ _ _ _, by repeat (first | (with_reducible first | exact HB.out | apply below_alloc | apply pw_below_drewN | apply below_drew1 | refine below_set ?_ GE148.out | refine below_set ?_ GE149.out) | exact HB.out)⟩
   ·replace c14 := Bool.eq_false_iff.mpr c14
    subst c14
    have H1 : (if a1 > (wrap64 (a0_0 - a0_1)) then (some (a0_0, a0_1, l0_2, ([] : List (S50)), 4)) else ((sema_Ask_26.f l0_2).bind fun t151 => ((sema_served.f kj2 a0_0 (wrap64 (a0_1 + a1)) t151).bind fun bt154 => (some (bt154.1, bt154.2.1, bt154.2.2.1, bt154.2.2.2, 0))))) = some (r1, r2, r3, r4, r5) := by rw [if_neg (show ¬ (false = true) by decide)] at H; exact H
    clear H
    have H := H1
    clear H1
    by_cases c18 : a1 > (wrap64 (a0_0 - a0_1))
    ·rw [if_pos c18] at H
     have c18b0 : decide ((wrap64 (a0_0 - a0_1)) < a1) = true := decide_eq_true c18
     clear c18
     simp only [Option.some.injEq, Prod.mk.injEq] at H
     obtain ⟨rfl, rfl, rfl, rfl, rfl⟩ := H
     have hnb19 := NB148_149.out
     have hnc19 := NB149_148.out
     have hcz20_0 : wc.cell? ⟨gb148, 0, none⟩ = some (.int .i64 a0_0) := (blk_cell BK148.out 0).trans rfl
     have hcz20_1 : wc.cell? ⟨gb148, 1, none⟩ = some (.int .i64 a0_1) := (blk_cell BK148.out 1).trans rfl
     have hcz20_2 : wc.cell? ⟨gb148, 2, none⟩ = some (.slice A0_2 l0_2.length c0_2) := (blk_cell BK148.out 2).trans rfl
     have hfz20_0 := blk_frozen BK148.out 0
     have hfz20_1 := blk_frozen BK148.out 1
     have hfz20_2 := blk_frozen BK148.out 2
     have hcz21_0 : wc.cell? ⟨gb149, 0, none⟩ = some (.int .i64 0) := (blk_cell BK149.out 0).trans rfl
     have hcz21_1 : wc.cell? ⟨gb149, 1, none⟩ = some (.int .i64 0) := (blk_cell BK149.out 1).trans rfl
     have hcz21_2 : wc.cell? ⟨gb149, 2, none⟩ = some (.slice none 0 0) := (blk_cell BK149.out 2).trans rfl
     have hfz21_0 := blk_frozen BK149.out 0
     have hfz21_1 := blk_frozen BK149.out 1
     have hfz21_2 := blk_frozen BK149.out 2
     go_wp2
     refine bodyPost_ret (results_ctt rfl _ _ gb149 24 #[.int .i64 a0_0, .int .i64 a0_1, .slice A0_2 l0_2.length c0_2] (0, 0) _ rfl (by (with_reducible repeat (first | refine blk_drewN ?_ _ | refine blk_drew ?_ | refine blk_alloc ?_ _)); refine blk_put (cs := #[.int .i64 a0_0, .int .i64 a0_1, .slice none 0 0]) ?_ 2 _ rfl; (with_reducible repeat (first | refine blk_drewN ?_ _ | refine blk_drew ?_ | refine blk_alloc ?_ _)); refine blk_put (cs := #[.int .i64 a0_0, .int .i64 0, .slice none 0 0]) ?_ 1 _ rfl; (with_reducible repeat (first | refine blk_drewN ?_ _ | refine blk_drew ?_ | refine blk_alloc ?_ _)); refine blk_put (cs := #[.int .i64 0, .int .i64 0, .slice none 0 0]) ?_ 0 _ rfl; (with_reducible repeat (first | refine blk_drewN ?_ _ | refine blk_drew ?_ | refine blk_alloc ?_ _)); exact BK149.out) Try.underlying24 rfl (by kernel_rfl)) rfl ?_
     exact ⟨_, _, by first | rfl | (simp [errW_none, errW_some] <;> rfl) | (simp [*, errW_none, errW_some] <;> rfl), by (with_reducible repeat (first | apply Kd.V_alloc | apply Kd.V_drewN | apply Kd.V_drew)); exact Kd.V_mono (Kd.V_far (p := ⟨gb149, 2, none⟩) (Kd.V_far (p := ⟨gb149, 1, none⟩) (Kd.V_far (p := ⟨gb149, 0, none⟩) (Kd.V_mono HO_149002.out (fun k_ hk => (⟨hk, hk.2.2⟩ : _ ∧ k_ ≠ gb149))) (fun _ hk => hk.2) (.int .i64 a0_0)) (fun _ hk => hk.2) (.int .i64 a0_1)) (fun _ hk => hk.2) (.slice A0_2 l0_2.length c0_2)) (fun _ hk => ⟨hk.1.1, (by simp [Value.ownBlock])⟩), by first | exact Kd.R_nil _ _ _ _ _ | exact Kd.N_nil _ _ _ _ _ | exact Kd.V_nil _ _ _ _ _ | exact Kd.Q_nil _ _ _ _ _ | exact Kd.S_nil _ _ _ _ _, by repeat (first | (with_reducible first | exact HB.out | apply below_alloc | apply pw_below_drewN | apply below_drew1 | refine below_set ?_ GE148.out | refine below_set ?_ GE149.out) | exact HB.out)⟩
    ·rw [if_neg c18] at H
     have c18b0 : decide ((wrap64 (a0_0 - a0_1)) < a1) = false := decide_eq_false c18
     clear c18
     replace H := Option.bind_eq_some_iff.mp H
     obtain ⟨t151, A220, H⟩ := H
     try dsimp only at H
     have A22 := am A220
     clear A220
     replace H := Option.bind_eq_some_iff.mp H
     obtain ⟨⟨t154, t155, t156, t159⟩, A230, H⟩ := H
     try dsimp only at H
     have A23 := am A230
     clear A230
     simp only [Option.some.injEq, Prod.mk.injEq] at H
     obtain ⟨rfl, rfl, rfl, rfl, rfl⟩ := H
     have hnb24 := NB148_149.out
     have hnc24 := NB149_148.out
     have hcz25_0 : wc.cell? ⟨gb148, 0, none⟩ = some (.int .i64 a0_0) := (blk_cell BK148.out 0).trans rfl
     have hcz25_1 : wc.cell? ⟨gb148, 1, none⟩ = some (.int .i64 a0_1) := (blk_cell BK148.out 1).trans rfl
     have hcz25_2 : wc.cell? ⟨gb148, 2, none⟩ = some (.slice A0_2 l0_2.length c0_2) := (blk_cell BK148.out 2).trans rfl
     have hfz25_0 := blk_frozen BK148.out 0
     have hfz25_1 := blk_frozen BK148.out 1
     have hfz25_2 := blk_frozen BK148.out 2
     go_wp2_with (first | ((with_reducible refine gate_callee (f := 26) rfl ?_); refine goesL_ (some 34) rfl rfl Try.func26 (by kernel_rfl) rfl #[.slice A0_2 l0_2.length c0_2] rfl zm ?_; (with_reducible refine (sema_Ask_26.calls _ _ l0_2 t151 _ ?side1 ?side2 A22.out).mono ?_); (case side1 => refine (Kd.V_reads' (e := 50) (base := w.heap.size) (ok := fun k_ => (((P0_2_ k_ ∨ w.heap.size ≤ k_)) ∧ (k_ ≠ gb148 ∧ k_ ≠ gb149))) (n := l0_2.length) (c := c0_2) ?_).2.2; exact (by (with_reducible repeat (first | apply Kd.V_alloc | apply Kd.V_drewN | apply Kd.V_drew)); exact (Kd.V_mono (Kd.V_far (p := ⟨gb148, 1, none⟩) (Kd.V_mono HO_149002.out (fun k_ hk => (⟨hk, hk.2.1⟩ : _ ∧ k_ ≠ gb148))) (fun _ hk => hk.2) (.int .i64 (wrap64 (a0_1 + a1)))) (fun _ h_ => h_.1)))); (case side2 => exact (Kd.V_reads' HO_149002.out).2.1); rintro e w26 ⟨v152, rfl, ho0, hb⟩; refine ⟨_, rfl, ?_⟩; replace HO_149002 := am (Kd.V_elder' (by (with_reducible repeat (first | apply Kd.V_alloc | apply Kd.V_drewN | apply Kd.V_drew)); exact (Kd.V_mono (Kd.V_far (p := ⟨gb148, 1, none⟩) (Kd.V_mono HO_149002.out (fun k_ hk => (⟨hk, hk.2.1⟩ : _ ∧ k_ ≠ gb148))) (fun _ hk => hk.2) (.int .i64 (wrap64 (a0_1 + a1)))) (fun _ h_ => h_.1))) (Kd.R_base ho0) hb); have HO153 := am (Kd.R_lower (Kd.R_newM (M := fun k_ => (w.heap.size ≤ k_)) ho0 (below_size (zc2 HB GE148 GE149)) (fun k_ h_ => h_)) (below_size (zc2 HB GE148 GE149))); replace BK148 := am (blk_below (g := gb148) (o := .cells #[.int .i64 a0_0, .int .i64 (wrap64 (a0_1 + a1)), .slice A0_2 l0_2.length c0_2] 24 (0, 0)) (by (with_reducible repeat (first | refine blk_drewN ?_ _ | refine blk_drew ?_ | refine blk_alloc ?_ _)); refine blk_put (cs := #[.int .i64 a0_0, .int .i64 a0_1, .slice A0_2 l0_2.length c0_2]) ?_ 1 _ rfl; (with_reducible repeat (first | refine blk_drewN ?_ _ | refine blk_drew ?_ | refine blk_alloc ?_ _)); exact BK148.out) hb); replace BK149 := am (blk_below (g := gb149) (o := .cells #[.int .i64 0, .int .i64 0, .slice none 0 0] 24 (0, 0)) (by (with_reducible repeat (first | refine blk_drewN ?_ _ | refine blk_drew ?_ | refine blk_alloc ?_ _)); refine blk_far ?_ NB149_148.out _; (with_reducible repeat (first | refine blk_drewN ?_ _ | refine blk_drew ?_ | refine blk_alloc ?_ _)); exact BK149.out) hb); replace HB := am (below_step (zc2 HB GE148 GE149) hb); (try clear hb); (try clear hb2); (try clear hk); (try clear hi); (try clear ho0); obtain ⟨Ao27, co27, eo27⟩ := Kd.R_slice HO153.out; subst eo27; have hcz28_0 : w26.cell? ⟨gb148, 0, none⟩ = some (.int .i64 a0_0) := (blk_cell BK148.out 0).trans rfl; have hcz28_1 : w26.cell? ⟨gb148, 1, none⟩ = some (.int .i64 (wrap64 (a0_1 + a1))) := (blk_cell BK148.out 1).trans rfl; have hcz28_2 : w26.cell? ⟨gb148, 2, none⟩ = some (.slice A0_2 l0_2.length c0_2) := (blk_cell BK148.out 2).trans rfl; have hfz28_0 := blk_frozen BK148.out 0; have hfz28_1 := blk_frozen BK148.out 1; have hfz28_2 := blk_frozen BK148.out 2) | ((with_reducible refine gate_store (t := 22) (p := 35) rfl ?_); refine store_event (t := 22) (p := 35) (v := ?vo_w29) (w1 := (w26.setCell ⟨gb148, 2, none⟩ (.slice Ao27 t151.length co27))) ?hg ?ho ?hn ?hr ?_; (case ho => rfl); (case hg => rfl); (case hn => rfl); (case hr => first | (go_simp; done) | (go_simp; rfl)); intro w29 hw; replace HO_149002 := zVm hw HO_149002 (fun k_ => (P0_2_ k_ ∨ w.heap.size ≤ k_) ∧ some k_ ≠ (.slice Ao27 t151.length co27 : Value).ownBlock ∧ k_ ≠ gb148 ∧ k_ ≠ gb149) (fun _ hk => hk.1.2.1) (fun _ hk => ⟨hk.1.1.1, ⟨hk.1.2, ⟨hk.1.1.2.1, hk.1.1.2.2⟩⟩⟩); replace HO153 : Aside0 (Kd.R k50 50 w29 w.heap.size (fun k_ => (w.heap.size ≤ k_)) (.slice Ao27 t151.length co27) t151) := ⟨(by rw [hw]; exact (by (with_reducible repeat (first | apply Kd.R_alloc | apply Kd.R_drewN | apply Kd.R_drew)); exact Kd.R_mono (Kd.R_far (p := ⟨gb148, 2, none⟩) (Kd.R_types HO153.out BK148.out (by decide)) (fun _ hk => hk.2) (.slice Ao27 t151.length co27)) (fun _ hk => hk.1.1)))⟩; replace BK148 : Aside0 (w29.heap[gb148]? = some (.cells #[.int .i64 a0_0, .int .i64 (wrap64 (a0_1 + a1)), .slice Ao27 t151.length co27] 24 (0, 0))) := ⟨(by rw [hw]; exact (by (with_reducible repeat (first | refine blk_drewN ?_ _ | refine blk_drew ?_ | refine blk_alloc ?_ _)); refine blk_put (cs := #[.int .i64 a0_0, .int .i64 (wrap64 (a0_1 + a1)), .slice A0_2 l0_2.length c0_2]) ?_ 2 _ rfl; (with_reducible repeat (first | refine blk_drewN ?_ _ | refine blk_drew ?_ | refine blk_alloc ?_ _)); exact BK148.out))⟩; replace BK149 := zks hw BK149 NB149_148; replace HB : Aside0 (Below w.heap.size w w29) := ⟨(by rw [hw]; exact (zc2 HB GE148 GE149))⟩; clear hw; have hcz30_0 : w29.cell? ⟨gb148, 0, none⟩ = some (.int .i64 a0_0) := (blk_cell BK148.out 0).trans rfl; have hcz30_1 : w29.cell? ⟨gb148, 1, none⟩ = some (.int .i64 (wrap64 (a0_1 + a1))) := (blk_cell BK148.out 1).trans rfl; have hcz30_2 : w29.cell? ⟨gb148, 2, none⟩ = some (.slice Ao27 t151.length co27) := (blk_cell BK148.out 2).trans rfl; have hfz30_0 := blk_frozen BK148.out 0; have hfz30_1 := blk_frozen BK148.out 1; have hfz30_2 := blk_frozen BK148.out 2) | ((with_reducible refine gate_callee (f := 29) rfl ?_); refine goesL_ (some 38) rfl rfl Try.func29 (by kernel_rfl) rfl #[.agg #[.int .i64 a0_0, .int .i64 (wrap64 (a0_1 + a1)), .slice Ao27 t151.length co27]] rfl zm ?_; (with_reducible refine (sema_served.calls kj2 a0_0 (wrap64 (a0_1 + a1)) (fun k_ => some k_ = (.slice Ao27 t151.length co27 : Value).ownBlock) _ _ t151 t154 t155 t156 t159 _ ?side1 A23.out).mono ?_); (case side1 => exact Kd.R_V (Kd.R_tight rfl (Kd.R_types (Kd.R_types (HO153.out) BK148.out (by decide)) BK149.out (by decide)))); rintro e w31 ⟨v157, v160, rfl, ho0, ho1, hb⟩; refine ⟨_, rfl, ?_⟩; replace HO_149002 := am (Kd.V_elder' (zV HO_149002) (Kd.R_base ho1) hb); have HO158 := am (Kd.V_lower (Kd.V_mono (ok' := fun k_ => (P0_2_ k_ ∨ w.heap.size ≤ k_) ∧ some k_ ≠ (v160 : Value).ownBlock ∧ k_ ≠ gb148 ∧ k_ ≠ gb149) ho0 (fun k_ hk_ => ⟨Or.elim hk_.1 (fun hs_ => (.inr (((Kd.R_types (Kd.R_types (HO153.out) BK148.out (by decide)) BK149.out (by decide)).1 k_ hs_.symm).1.1))) (fun hn_ => (.inr (Nat.le_trans (below_size (zc2 HB GE148 GE149)) hn_))), hk_.2, Or.elim hk_.1 (fun hs_ => ((Kd.R_types (Kd.R_types (HO153.out) BK148.out (by decide)) BK149.out (by decide)).1 k_ hs_.symm).1.2) (fun hn_ => (zfr gb148 BK148 hn_)), Or.elim hk_.1 (fun hs_ => ((Kd.R_types (Kd.R_types (HO153.out) BK148.out (by decide)) BK149.out (by decide)).1 k_ hs_.symm).2) (fun hn_ => (zfr gb149 BK149 hn_))⟩)) (below_size (zc2 HB GE148 GE149))); have HO161 := am (Kd.R_lower (Kd.R_new' (Kd.R_newM (M := fun k_ => (w.heap.size ≤ k_)) (Kd.R_mono (ok' := fun k_ => True) ho1 (fun _ hk_ => trivial)) (below_size (zc2 HB GE148 GE149)) (fun k_ h_ => h_)) (Kd.R_lt (zR HO153))) (below_size (zc2 HB GE148 GE149))); replace HO153 := am (Kd.R_elder' (zR HO153) (Kd.R_base ho1) hb); replace BK148 := zbb BK148 hb; replace BK149 := zbb BK149 hb; replace HB := am (below_step (zc2 HB GE148 GE149) hb); (try clear hb); (try clear hb2); (try clear hk); (try clear hi); (try clear ho0); (try clear ho1)) | ((with_reducible refine gate_dst (N := 7) rfl ?_); refine box_event ?hg (N := 7) ?hd (cs := #[.int .i64 0, .int .i64 0, .slice none 0 0]) (t := 24) ?hr ?_; (case hd => rfl); (case hg => rfl); (case hr => first | (go_simp; done) | (go_simp; rfl)); intro gb162 hg w32 hbox hb; replace HO_149002 := zVe HO_149002 hg hb; replace HO153 := zRb HO153 hb; replace HO158 := zVe HO158 hg hb; replace HO161 := zRb HO161 hb; have BK162 := am (hbox); have GW162 := zsz hg (zc2 HB GE148 GE149); have GE162 := zsz hg (zc2 HB GE148 GE149); replace HB := am (below_step (zc2 HB GE148 GE149) hb); have NB148_162 := znt BK148 hg; have NB162_148 := zng BK148 hg; replace BK148 := zbb BK148 hb; have NB149_162 := znt BK149 hg; have NB162_149 := zng BK149 hg; replace BK149 := zbb BK149 hb; clear hb hbox hg; have hnb33 := NB162_148.out; have hnc33 := NB148_162.out; have hnb34 := NB162_149.out; have hnc34 := NB149_162.out; have hcz35_0 : w32.cell? ⟨gb162, 0, none⟩ = some (.int .i64 0) := (blk_cell BK162.out 0).trans rfl; have hcz35_1 : w32.cell? ⟨gb162, 1, none⟩ = some (.int .i64 0) := (blk_cell BK162.out 1).trans rfl; have hcz35_2 : w32.cell? ⟨gb162, 2, none⟩ = some (.slice none 0 0) := (blk_cell BK162.out 2).trans rfl; have hfz35_0 := blk_frozen BK162.out 0; have hfz35_1 := blk_frozen BK162.out 1; have hfz35_2 := blk_frozen BK162.out 2; obtain ⟨Ao36, co36, eo36⟩ := Kd.V_slice HO158.out; subst eo36; have hcz37_0 : w32.cell? ⟨gb149, 0, none⟩ = some (.int .i64 0) := (blk_cell BK149.out 0).trans rfl; have hcz37_1 : w32.cell? ⟨gb149, 1, none⟩ = some (.int .i64 0) := (blk_cell BK149.out 1).trans rfl; have hcz37_2 : w32.cell? ⟨gb149, 2, none⟩ = some (.slice none 0 0) := (blk_cell BK149.out 2).trans rfl; have hfz37_0 := blk_frozen BK149.out 0; have hfz37_1 := blk_frozen BK149.out 1; have hfz37_2 := blk_frozen BK149.out 2))
     refine bodyPost_ret (results_ctt rfl _ _ gb149 24 #[.int .i64 t154, .int .i64 t155, .slice Ao36 t156.length co36] (0, 0) _ rfl (by (with_reducible repeat (first | refine blk_drewN ?_ _ | refine blk_drew ?_ | refine blk_alloc ?_ _)); refine blk_put (cs := #[.int .i64 t154, .int .i64 t155, .slice none 0 0]) ?_ 2 _ rfl; (with_reducible repeat (first | refine blk_drewN ?_ _ | refine blk_drew ?_ | refine blk_alloc ?_ _)); refine blk_put (cs := #[.int .i64 t154, .int .i64 0, .slice none 0 0]) ?_ 1 _ rfl; (with_reducible repeat (first | refine blk_drewN ?_ _ | refine blk_drew ?_ | refine blk_alloc ?_ _)); refine blk_put (cs := #[.int .i64 0, .int .i64 0, .slice none 0 0]) ?_ 0 _ rfl; (with_reducible repeat (first | refine blk_drewN ?_ _ | refine blk_drew ?_ | refine blk_alloc ?_ _)); refine blk_far ?_ NB149_162.out _; (with_reducible repeat (first | refine blk_drewN ?_ _ | refine blk_drew ?_ | refine blk_alloc ?_ _)); refine blk_far ?_ NB149_162.out _; (with_reducible repeat (first | refine blk_drewN ?_ _ | refine blk_drew ?_ | refine blk_alloc ?_ _)); refine blk_far ?_ NB149_162.out _; (with_reducible repeat (first | refine blk_drewN ?_ _ | refine blk_drew ?_ | refine blk_alloc ?_ _)); exact BK149.out) Try.underlying24 rfl (by kernel_rfl)) rfl ?_
     exact ⟨_, _, by first | rfl | (simp [errW_none, errW_some] <;> rfl) | (simp [*, errW_none, errW_some] <;> rfl), by (with_reducible repeat (first | apply Kd.V_alloc | apply Kd.V_drewN | apply Kd.V_drew)); exact Kd.V_mono (Kd.V_far (p := ⟨gb149, 2, none⟩) (Kd.V_far (p := ⟨gb149, 1, none⟩) (Kd.V_far (p := ⟨gb149, 0, none⟩) (Kd.V_far (p := ⟨gb162, 2, none⟩) (Kd.V_far (p := ⟨gb162, 1, none⟩) (Kd.V_far (p := ⟨gb162, 0, none⟩) (Kd.V_mono (Kd.V_mono HO158.out (fun k_ hk => (⟨hk, hk.2⟩ : _ ∧ k_ ≠ gb162))) (fun k_ hk => (⟨hk, hk.1.1.2.2.2⟩ : _ ∧ k_ ≠ gb149))) (fun _ hk => hk.1.2) (.int .i64 t154)) (fun _ hk => hk.1.2) (.int .i64 t155)) (fun _ hk => hk.1.2) (.slice Ao36 t156.length co36)) (fun _ hk => hk.2) (.int .i64 t154)) (fun _ hk => hk.2) (.int .i64 t155)) (fun _ hk => hk.2) (.slice Ao36 t156.length co36)) (fun _ hk => ⟨hk.1.1.1.1, hk.1.1.1.2.1⟩), by (with_reducible repeat (first | apply Kd.R_alloc | apply Kd.R_drewN | apply Kd.R_drew)); exact Kd.R_mono (Kd.R_far (p := ⟨gb149, 2, none⟩) (Kd.R_far (p := ⟨gb149, 1, none⟩) (Kd.R_far (p := ⟨gb149, 0, none⟩) (Kd.R_far (p := ⟨gb162, 2, none⟩) (Kd.R_far (p := ⟨gb162, 1, none⟩) (Kd.R_far (p := ⟨gb162, 0, none⟩) (Kd.R_types (Kd.R_types HO161.out BK162.out (by decide)) BK149.out (by decide)) (fun _ hk => hk.1.2) (.int .i64 t154)) (fun _ hk => hk.1.2) (.int .i64 t155)) (fun _ hk => hk.1.2) (.slice Ao36 t156.length co36)) (fun _ hk => hk.2) (.int .i64 t154)) (fun _ hk => hk.2) (.int .i64 t155)) (fun _ hk => hk.2) (.slice Ao36 t156.length co36)) (fun _ hk => hk.1.1.1.1), by repeat (first | (with_reducible first | exact HB.out | apply below_alloc | apply pw_below_drewN | apply below_drew1 | refine below_set ?_ GE148.out | refine below_set ?_ GE149.out | refine below_set ?_ GE162.out) | exact HB.out)⟩

-- NOT PRINTED: function 31 (sema_Ask_31)

/-! ### del_sema_is_1: function 31 over 33 (by hand) -/
def del_sema_is_1.f (l0 : List (S50)) (q0 : Int) : Option (List (S50)) := some (l0.filter (fun x => !sema_is_1.p q0 x))
set_option maxHeartbeats 8000000 in
set_option maxRecDepth 100000 in
theorem del_sema_is_1.calls (P0_ : Nat → Prop) (u9000_ : Value) (l0 : List (S50)) (gc : Nat) (q0 : Int) (r : List (S50)) (w0 w : World) (hB : Below w0.heap.size w0 w) (ho0 : Kd.R k50 50 w w0.heap.size P0_ u9000_ l0) (hb0 : w.heap[gc]? = some (.cells #[.int .i64 q0] 3 (0, 0))) (hn0 : ¬ P0_ gc) (h : del_sema_is_1.f l0 q0 = some r) :
    Calls Try.prog 31 #[u9000_, .func (.func 33) #[] #[.pointer (some ⟨gc, 0, none⟩)]] w fun e w' => ∃ v0_ : Value, e = .returned (v0_) ∧ Kd.R k50 50 w' w0.heap.size (fun k_ => (P0_ k_ ∨ w.heap.size ≤ k_)) v0_ r ∧ Below w0.heap.size w0 w' ∧ Kept w w' (fun k_ => P0_ k_) := by
  obtain rfl := Option.some.inj h
  clear h
  obtain ⟨A0, c, rfl, hlc, hC⟩ := Kd.R_reads ho0
  have HO := am ho0
  have HCR := am hC
  have HCC := am hlc
  have HB := am hB
  have HBX := am hb0
  have HNG := am hn0
  have hs0 := hB.size
  have HS0 := am hs0
  by_cases hi : Go.Proofs.YthbcajkphkdnmaaG.idxBy (sema_is_1.p q0) l0 = -1
  · have HF := am (Go.Proofs.YthbcajkphkdnmaaG.filter_none hi)
    have HI := am (show idx_sema_is_1.f l0 q0 = some (-1) by unfold idx_sema_is_1.f; rw [hi])
    clear ho0 hC hlc hB hb0 hn0 hi hs0
    go_enter Try.func31, Try.ntmps31
    go_wp2_with (go_at_call 32; (with_reducible refine (idx_sema_is_1.calls _ _ l0 gc q0 _ _ ?side1 ?side2 ?side3 HI.out).mono ?_); (case side1 => exact HCR.out); (case side2 => exact HCC.out); (case side3 => exact HBX.out); rintro e w2 ⟨rfl, hb⟩; have HB2 := am hb; clear hb)
    go_ret
    refine ⟨_, rfl, ?_, below_step HB.out HB2.out, Kept.of_below HB2.out _⟩
    rw [HF.out]
    exact Kd.R_mono (Kd.R_below HO.out HB2.out) (fun _ hk => .inl hk)
  · obtain ⟨k0, x0, hk, hx0, hp0, hlow⟩ := Go.Proofs.YthbcajkphkdnmaaG.idxBy_found hi
    have hkl := (List.getElem?_eq_some_iff.1 hx0).1
    obtain ⟨g, c', hv, _⟩ := Kd.R_form ho0 (by omega)
    injection hv with hA _ hc'
    subst hA; subst hc'
    have HPG := am (ho0.1 g (by simp [Value.ownBlock]))
    have hne : gc ≠ g := fun e => HNG.out (e ▸ HPG.out)
    have HNE := am hne
    have hcm : c ≤ 9223372036854775807 := by
      obtain ⟨_, inner, hown, _⟩ := ho0
      rcases hown.2 with ⟨hv, _⟩ | ⟨g', cap', cur, hv, _, _, _, hcm, _⟩
      · cases hv
      · injection hv with _ _ hc
        subst hc
        unfold maxLen at hcm
        exact hcm
    have HI := am (show idx_sema_is_1.f l0 q0 = some (k0 : Int) by unfold idx_sema_is_1.f; rw [hk])
    have HST := am (Go.Proofs.YthbcajkphkdnmaaG.Kept1.start (q := fun x => !sema_is_1.p q0 x) hx0 (by simp [hp0]) (fun t y ht hy => by simp [hlow t y ht hy]))
    clear ho0 hC hB hb0 hn0 hi hk hx0 hp0 hlow hne hs0
    obtain ⟨n, hn⟩ : ∃ n, n = l0.length := ⟨_, rfl⟩
    have HN := am hn
    rw [← hn] at HO HCR HCC hkl hlc ⊢
    clear hn
    have hm1 : ((k0 : Int) == -1) = false := beq_eq_false_iff_ne.2 (by omega)
    go_enter Try.func31, Try.ntmps31
    go_wp2_with (go_at_call 32; rw [HN.out]; (with_reducible refine (idx_sema_is_1.calls _ _ l0 gc q0 _ _ ?side1 ?side2 ?side3 HI.out).mono ?_); (case side1 => rw [← HN.out]; exact HCR.out); (case side2 => rw [← HN.out]; exact HCC.out); (case side3 => exact HBX.out); rintro e w2 ⟨rfl, hb⟩; have HB2 := am hb; clear hb; rw [← HN.out])
    go_loopw [5, 6, 7] (fun s5 s6 _ wr => ∃ (i j : Nat) (ys : List (S50)), s5 = .int .i64 (i : Int) ∧ s6 = .int .i64 (j : Int) ∧ j ≤ n ∧ Aside0 (Go.Proofs.YthbcajkphkdnmaaG.Kept1 (fun x => !sema_is_1.p q0 x) l0 ys i j) ∧ Aside0 (Kd.R k50 50 wr w0.heap.size P0_ (.slice (some ⟨g, 0, none⟩) n c) ys) ∧ Aside0 (wr.heap[gc]? = some (.cells #[.int .i64 q0] 3 (0, 0))) ∧ Aside0 (Below w0.heap.size w0 wr) ∧ Aside0 (Kept w wr P0_)) (fun _ s6 _ _ => n - (intOf s6).toNat)
    case atStart => exact ⟨k0, k0 + 1, l0, rfl, by go_num, by omega, HST, ⟨Kd.R_below HO.out HB2.out⟩, ⟨blk_below HBX.out HB2.out⟩, ⟨below_step HB.out HB2.out⟩, ⟨Kept.of_below HB2.out _⟩⟩
    case round =>
      obtain ⟨i, j, ys, rfl, rfl, hj, HK1, HO1, HBX1, HB1, HKP⟩ := hrel
      have hij := HK1.out.lt
      by_cases hlt : j < n
      · have hyl := HK1.out.len
        rw [← HN.out] at hyl
        obtain ⟨hyn_, hnc1, hC1⟩ := Kd.R_reads' HO1.out
        obtain ⟨ad, e, h0, h1⟩ := at_T50 hC1 (j : Int) (by omega) (by omega)
        obtain ⟨ad2, e2, k0_, k1_⟩ := at_T50 hC1 (i : Int) (by omega) (by omega)
        cases e
        cases e2
        simp only [Int.toNat_natCast, add_plain] at h0 h1 k0_ k1_
        have hxj : ys[j]? = some (rd_T50 ys (j : Int)) := by
          unfold rd_T50
          rw [Int.toNat_natCast, List.getD_eq_getElem?_getD, List.getElem?_eq_getElem (by omega)]
          rfl
        have HXJ := am hxj
        have HYL := am hyl
        have KC0 := am k0_
        have KC1 := am k1_
        clear hxj k0_ k1_ hC1 hyl hnc1 hyn_
        have hj0_ : (0 : Int) ≤ (j : Int) := by omega
        have hi0_ : (0 : Int) ≤ (i : Int) := by omega
        have hin : i < n := by omega
        by_cases hp : sema_is_1.p q0 (rd_T50 ys (j : Int)) = true
        · go_wp2_with (go_at_call 33; (with_reducible refine (sema_is_1.calls (rd_T50 ys (j : Int)) gc q0 _ ?side1).mono ?_); (case side1 => first | exact HBX1.out | exact blk_drewN HBX1.out _ | exact blk_drew HBX1.out | exact blk_alloc HBX1.out _); rintro e w3 ⟨rfl, hb⟩; have hV_ := blk_below (blk_new _ _) hb; have hv0_ : w3.cell? ⟨wr.heap.size, 0, none⟩ = some (.int .i64 ((rd_T50 ys (j : Int)).f0)) := (blk_cell hV_ 0).trans rfl; have hw0_ := blk_frozen hV_ 0; have hv1_ : w3.cell? ⟨wr.heap.size, 1, none⟩ = some (.int .i64 ((rd_T50 ys (j : Int)).f1)) := (blk_cell hV_ 1).trans rfl; have hw1_ := blk_frozen hV_ 1; have hb := below_step (below_alloc (Below.refl _ _) _) hb; have HB3 := am hb; clear hb)
          go_roundw
          case rel => exact ⟨i, j + 1, ys, by go_num, by go_num, by omega, ⟨HK1.out.skip HXJ.out (by simp [hp])⟩, ⟨Kd.R_below HO1.out HB3.out⟩, ⟨blk_below HBX1.out HB3.out⟩, ⟨below_step HB1.out HB3.out⟩, ⟨Kept.below HKP.out HB3.out⟩⟩
          case measure => simp [intOf]; omega
        · have hpf : sema_is_1.p q0 (rd_T50 ys (j : Int)) = false := by simpa using hp
          clear hp
          go_wp2_with (first | (go_at_call 33; (with_reducible refine (sema_is_1.calls (rd_T50 ys (j : Int)) gc q0 _ ?side1).mono ?_); (case side1 => first | exact HBX1.out | exact blk_drewN HBX1.out _ | exact blk_drew HBX1.out | exact blk_alloc HBX1.out _); rintro e w3 ⟨rfl, hb⟩; have hV_ := blk_below (blk_new _ _) hb; have hv0_ : w3.cell? ⟨wr.heap.size, 0, none⟩ = some (.int .i64 ((rd_T50 ys (j : Int)).f0)) := (blk_cell hV_ 0).trans rfl; have hw0_ := blk_frozen hV_ 0; have hv1_ : w3.cell? ⟨wr.heap.size, 1, none⟩ = some (.int .i64 ((rd_T50 ys (j : Int)).f1)) := (blk_cell hV_ 1).trans rfl; have hw1_ := blk_frozen hV_ 1; have hb := below_step (below_alloc (Below.refl _ _) _) hb; have HB3 := am hb; have KD0 := am (pw_cell_below hb KC0.out); have KD1 := am (pw_cell_below hb KC1.out); clear hb) | ((with_reducible refine gate_store (t := 50) (p := 33) rfl ?_); refine Kd.R_store k50 (w0 := w0) w0.heap.size rfl rfl 50 (.tmp 33) (.tmp 32) rfl 50 (g := g) (n := n) (cap := c) (o' := i * 2) (i : Int) 0 ys (rd_T50 ys (j : Int)) (.agg #[.int .i64 ((rd_T50 ys (j : Int)).f0), .int .i64 ((rd_T50 ys (j : Int)).f1)]) [.int .i64 ((rd_T50 ys (j : Int)).f0), .int .i64 ((rd_T50 ys (j : Int)).f1)] [.int .i64 ((rd_T50 ys (i : Int)).f0), .int .i64 ((rd_T50 ys (i : Int)).f1)] P0_ (fun _ => False) rfl ?ho rfl rfl (by kernel_rfl) (by simp [Value.oneCell']) (Kd.R_below HO1.out HB3.out) hi0_ ?hi rfl ?hcc (show 0 + 2 ≤ 2 from by omega) (by simpa using k50_mkM _ _ _ (rd_T50 ys (j : Int))) (fun _ h => h.elim) (below_step HB1.out HB3.out) ?_; (case ho => simp [k50, Kd.iso, Kd.pair, Kd.int, Kd.scalar]); (case hi => omega); (case hcc => intro t u ht; cases t with | zero => (injection ht with ht; subst ht; simpa [k50, Kd.iso, Kd.pair, Kd.int, Kd.scalar] using KD0.out) | succ t => (cases t with | zero => (injection ht with ht; subst ht; simpa [k50, Kd.iso, Kd.pair, Kd.int, Kd.scalar] using KD1.out) | succ t => (simp at ht))); intro w4 ho hb hg; have HO4 := am ho; have HB4 := am hb; have HG4 := am hg; clear ho hb hg))
          go_roundw
          case rel => exact ⟨i + 1, j + 1, ys.set i (rd_T50 ys (j : Int)), by go_num, by go_num, by omega, ⟨HK1.out.keep HXJ.out (by simp [hpf])⟩, ⟨by simpa using HO4.out⟩, ⟨blk_grown (blk_below HBX1.out HB3.out) HG4.out (fun e => HNE.out (by injection e))⟩, ⟨HB4.out⟩, ⟨Kept.of_grown HG4.out (Kept.below HKP.out HB3.out) (fun k hk => by injection hk with hk; subst hk; exact .inl HPG.out)⟩⟩
          case measure => simp [intOf]; omega
      · obtain rfl : j = n := by omega
        have hin : i < j := hij
        have hci : ¬ (c = i) := by omega
        have hic : i ≤ c := by omega
        have hi0_ : (0 : Int) ≤ (i : Int) := by omega
        obtain ⟨w4, hcl, ho, hg⟩ := Go.Proofs.YthbcajkphkdnmaaG.clear_rest k50 w0.heap.size 22 0 50 (.agg #[(.int .i64 0), (.int .i64 0)]) Try.underlying22 (fun _ => by kernel_rfl) rfl (by decide) (by decide) HO1.out hin (c - i) (A := ⟨g, i * 2, none⟩) (by simp [k50, Kd.iso, Kd.pair, Kd.int, Kd.scalar])
        have HO4 := am ho
        have HG4 := am hg
        clear ho hg
        have hlt' : ¬ ((j : Int) < (j : Int)) := by omega
        go_wp2
        go_ret
        refine ⟨_, rfl, ?_, HB1.out.grown HG4.out HB1.out.size (fun k hk => by injection hk with hk; subst hk; exact Kd.R_base HO1.out _ (by simp [Value.ownBlock])), Kept.of_grown HG4.out HKP.out (fun k hk => by injection hk with hk; subst hk; exact .inl HPG.out)⟩
        rw [← HK1.out.done HN.out]
        exact Kd.R_mono HO4.out (fun _ hk => .inl hk)

/-! ### sema_Leave: function 15 -/
def sema_Leave.f (k : Nat) (a0_0 : Int) (a0_1 : Int) (l0_2 : List (S50)) (a1 : Int) : Option (Int × Int × (List (S50)) × (List (S50)) × Int) := (sema_Right.f k a0_0 a0_1 l0_2).bind fun t165 => (if t165 = true then ((any_sema_is_1.f l0_2 a1).bind fun t167 => (if t167 = true then ((sema_Ask_26.f l0_2).bind fun t168 => ((del_sema_is_1.f t168 a1).bind fun t172 => ((sema_served.f k a0_0 a0_1 t172).bind fun bt175 => (some (bt175.1, bt175.2.1, bt175.2.2.1, bt175.2.2.2, 0))))) else (some (a0_0, a0_1, l0_2, ([] : List (S50)), 3)))) else (some (a0_0, a0_1, l0_2, ([] : List (S50)), 1)))
theorem sema_Leave.mono : ∀ a0 a1 a2 a3 k, LeO (sema_Leave.f k a0 a1 a2 a3) (sema_Leave.f (k + 1) a0 a1 a2 a3) := by
 intro a0 a1 a2 a3 k
 unfold sema_Leave.f
 repeat' first
   | (with_reducible exact sema_Right.mono _ _ _ _)
   | (with_reducible exact sema_served.mono _ _ _ _)
   | (with_reducible exact LeO.refl _)
   | (with_reducible exact LeO.none _)
   | (with_reducible refine LeO.ite ?_ ?_)
   | (with_reducible refine LeO.bind ?_ (fun _ => ?_))
   | exact sema_Right.mono _ _ _ _
   | exact sema_served.mono _ _ _ _
   | exact LeO.none _
   | refine LeO.ite ?_ ?_
   | refine LeO.bind ?_ (fun _ => ?_)
set_option maxHeartbeats 8000000 in
set_option maxRecDepth 100000 in
theorem sema_Leave.calls (k : Nat) (a0_0 : Int) (a0_1 : Int) (P0_2_ : Nat → Prop) (A0_2 : Option Addr) (c0_2 : Nat) (l0_2 : List (S50)) (a1 : Int) (r1 : Int) (r2 : Int) (r3 : List (S50)) (r4 : List (S50)) (r5 : Int) (w : World) (hs0_2 : Kd.V k50 50 w w.heap.size (fun k_ => P0_2_ k_) (.slice A0_2 l0_2.length c0_2) l0_2) (h : sema_Leave.f k a0_0 a0_1 l0_2 a1 = some (r1, r2, r3, r4, r5)) :
  Calls Try.prog 15 #[.agg #[.int .i64 a0_0, .int .i64 a0_1, .slice A0_2 l0_2.length c0_2], .int .i64 a1] w fun e w' => ∃ v2_ v3_ : Value, e = .returned (.tuple #[.agg #[.int .i64 r1, .int .i64 r2, v2_], v3_, .int .i64 r5]) ∧ Kd.V k50 50 w' w.heap.size (fun k_ => (P0_2_ k_ ∨ w.heap.size ≤ k_) ∧ some k_ ≠ (v3_ : Value).ownBlock) v2_ r3 ∧ Kd.R k50 50 w' w.heap.size (fun k_ => (w.heap.size ≤ k_)) v3_ r4 ∧ Below w.heap.size w w' := by
 have hu24 := Try.underlying24
 have HO0_2 := am (show Kd.V k50 50 w w.heap.size (fun k_ => (P0_2_ k_ ∨ w.heap.size ≤ k_)) (.slice A0_2 l0_2.length c0_2) l0_2 from Kd.V_mono hs0_2 (fun k_ hk => .inl hk))
 have HB := am (Below.refl w.heap.size w)
 have H : ((sema_Right.f k a0_0 a0_1 l0_2).bind fun t165 => (if t165 = true then ((any_sema_is_1.f l0_2 a1).bind fun t167 => (if t167 = true then ((sema_Ask_26.f l0_2).bind fun t168 => ((del_sema_is_1.f t168 a1).bind fun t172 => ((sema_served.f k a0_0 a0_1 t172).bind fun bt175 => (some (bt175.1, bt175.2.1, bt175.2.2.1, bt175.2.2.2, 0))))) else (some (a0_0, a0_1, l0_2, ([] : List (S50)), 3)))) else (some (a0_0, a0_1, l0_2, ([] : List (S50)), 1)))) = some (r1, r2, r3, r4, r5) := h
 clear h
 replace H := Option.bind_eq_some_iff.mp H
 obtain ⟨t165, A30, H⟩ := H
 try dsimp only at H
 have A3 := am A30
 clear A30
 by_cases c4 : t165 = true
 ·subst c4
  have H1 : ((any_sema_is_1.f l0_2 a1).bind fun t167 => (if t167 = true then ((sema_Ask_26.f l0_2).bind fun t168 => ((del_sema_is_1.f t168 a1).bind fun t172 => ((sema_served.f k a0_0 a0_1 t172).bind fun bt175 => (some (bt175.1, bt175.2.1, bt175.2.2.1, bt175.2.2.2, 0))))) else (some (a0_0, a0_1, l0_2, ([] : List (S50)), 3)))) = some (r1, r2, r3, r4, r5) := by rw [if_pos rfl] at H; exact H
  clear H
  have H := H1
  clear H1
  replace H := Option.bind_eq_some_iff.mp H
  obtain ⟨t167, A50, H⟩ := H
  try dsimp only at H
  have A5 := am A50
  clear A50
  by_cases c6 : t167 = true
  ·subst c6
   have H1 : ((sema_Ask_26.f l0_2).bind fun t168 => ((del_sema_is_1.f t168 a1).bind fun t172 => ((sema_served.f k a0_0 a0_1 t172).bind fun bt175 => (some (bt175.1, bt175.2.1, bt175.2.2.1, bt175.2.2.2, 0))))) = some (r1, r2, r3, r4, r5) := by rw [if_pos rfl] at H; exact H
   clear H
   have H := H1
   clear H1
   replace H := Option.bind_eq_some_iff.mp H
   obtain ⟨t168, A70, H⟩ := H
   try dsimp only at H
   have A7 := am A70
   clear A70
   replace H := Option.bind_eq_some_iff.mp H
   obtain ⟨t172, A80, H⟩ := H
   try dsimp only at H
   have A8 := am A80
   clear A80
   replace H := Option.bind_eq_some_iff.mp H
   obtain ⟨⟨t175, t176, t177, t180⟩, A90, H⟩ := H
   try dsimp only at H
   have A9 := am A90
   clear A90
   simp only [Option.some.injEq, Prod.mk.injEq] at H
   obtain ⟨rfl, rfl, rfl, rfl, rfl⟩ := H
   go_enter Try.func15, Try.ntmps15
   try go_wp2_with (first | ((with_reducible refine gate_dst (N := 2) rfl ?_); refine box_event ?hg (N := 2) ?hd (cs := #[.int .i64 a0_0, .int .i64 a0_1, .slice A0_2 l0_2.length c0_2]) (t := 24) ?hr ?_; (case hd => rfl); (case hg => rfl); (case hr => first | (go_simp; done) | (go_simp; rfl)); intro gb163 hg w10 hbox hb; replace HO0_2 := zVe HO0_2 hg hb; have BK163 := am (hbox); have GW163 := zsz hg (zc0 HB); have GE163 := zsz hg (zc0 HB); replace HB := am (below_step (zc0 HB) hb); clear hb hbox hg) | ((with_reducible refine gate_dst (N := 4) rfl ?_); refine box_event ?hg (N := 4) ?hd (cs := #[.int .i64 0, .int .i64 0, .slice none 0 0]) (t := 24) ?hr ?_; (case hd => rfl); (case hg => rfl); (case hr => first | (go_simp; done) | (go_simp; rfl)); intro gb164 hg w11 hbox hb; replace HO0_2 := zVe HO0_2 hg hb; have BK164 := am (hbox); have GW164 := zsz hg (zc1 HB GE163); have GE164 := zsz hg (zc1 HB GE163); replace HB := am (below_step (zc1 HB GE163) hb); have NB163_164 := znt BK163 hg; have NB164_163 := zng BK163 hg; replace BK163 := zbb BK163 hb; clear hb hbox hg; have hnb12 := NB163_164.out; have hnc12 := NB164_163.out; have hcz13_0 : w11.cell? ⟨gb163, 0, none⟩ = some (.int .i64 a0_0) := (blk_cell BK163.out 0).trans rfl; have hcz13_1 : w11.cell? ⟨gb163, 1, none⟩ = some (.int .i64 a0_1) := (blk_cell BK163.out 1).trans rfl; have hcz13_2 : w11.cell? ⟨gb163, 2, none⟩ = some (.slice A0_2 l0_2.length c0_2) := (blk_cell BK163.out 2).trans rfl; have hfz13_0 := blk_frozen BK163.out 0; have hfz13_1 := blk_frozen BK163.out 1; have hfz13_2 := blk_frozen BK163.out 2) | ((with_reducible refine gate_callee (f := 19) rfl ?_); refine goesL_ (some 11) rfl rfl Try.func19 (by kernel_rfl) rfl #[.agg #[.int .i64 a0_0, .int .i64 a0_1, .slice A0_2 l0_2.length c0_2]] rfl zm ?_; (with_reducible refine (sema_Right.calls k a0_0 a0_1 _ _ l0_2 true _ ?side1 ?side2 A3.out).mono ?_); (case side1 => repeat (first | exact (Kd.V_reads' HO0_2.out).2.2 | (with_reducible refine Kd.C_alloc ?_ _) | (with_reducible refine Kd.C_drewN ?_ _) | (with_reducible refine Kd.C_drew ?_))); (case side2 => exact (Kd.V_reads' HO0_2.out).2.1); rintro e w14 ⟨rfl, hb⟩; refine ⟨_, rfl, ?_⟩; replace HO0_2 := zVb HO0_2 hb; replace BK163 := zbb BK163 hb; replace BK164 := zbb BK164 hb; replace HB := am (below_step (zc2 HB GE163 GE164) hb); (try clear hb); (try clear hb2); (try clear hk); (try clear hi)))
   replace HO0_2 := am (Kd.V_drew HO0_2.out)
   replace BK163 := am (blk_drew BK163.out)
   replace BK164 := am (blk_drew BK164.out)
   replace HB := am (below_drew1 HB.out)
   refine start_ (n := 7) (S := fun w' => w'.cell? ⟨gb163, 0, none⟩ = some (.int .i64 a0_0) ∧ w'.cell? ⟨gb163, 1, none⟩ = some (.int .i64 a0_1) ∧ w'.cell? ⟨gb163, 2, none⟩ = some (.slice A0_2 l0_2.length c0_2)) (ds := []) #[false, false, false, false, false, false, false] (by kernel_rfl) rfl rfl ⟨(blk_cell BK163.out 0).trans rfl, (blk_cell BK163.out 1).trans rfl, (blk_cell BK163.out 2).trans rfl⟩ (fun hHeld => ?_)
   generalize w14.drew = w15 at HO0_2 BK163 BK164 HB hHeld ⊢
   refine pure_ (i := 0) (N := some 15) (v := ?_) (a' := ?_) #[true, false, false, false, false, false, false] rfl rfl (by kernel_rfl) (fun _ _ _ h => h) (Or.inl ⟨by rfl, ?_⟩) ?_ ?_
   rotate_left
   ·intro w'
    go_simp
    with_reducible rfl
   rotate_left
   ·simp only [Act.put, List.setIfInBounds_toArray, List.set_cons_zero, List.set_cons_succ, i64_w, i32_w]
    rfl
   refine pure_ (i := 2) (N := some 17) (v := ?_) (a' := ?_) #[true, false, true, false, false, false, false] rfl rfl (by kernel_rfl) (fun _ _ _ h => h) (Or.inl ⟨by rfl, ?_⟩) ?_ ?_
   rotate_left
   ·intro w'
    go_simp
    with_reducible rfl
   rotate_left
   ·simp only [Act.put, List.setIfInBounds_toArray, List.set_cons_zero, List.set_cons_succ, i64_w, i32_w]
    rfl
   refine take_ (i := 1) (N := some 16) (v := ?_) (a' := ?_) #[true, true, true, false, false, false, false] rfl rfl (by kernel_rfl) (fun _ _ _ h => h) (Or.inl ⟨by rfl, ?_⟩) hHeld ?_ ?_
   rotate_left
   ·rintro w' ⟨s0, s1, s2⟩
    go_simp
    with_reducible rfl
   rotate_left
   ·simp only [Act.put, List.setIfInBounds_toArray, List.set_cons_zero, List.set_cons_succ, i64_w, i32_w]
    rfl
   refine one_ (i := 3) (N := some 18) #[true, true, true, true, false, false, false] rfl rfl (by kernel_rfl) (by decide) (fun K hK => ?_)
   refine goes_ Try.func25 (by kernel_rfl) rfl #[.int .i64 a1] (by rfl) rfl rfl zm ?_
   with_reducible refine (sema_is.calls a1 _).mono ?_
   rintro e w16 ⟨gb166, hg, rfl, hbox, hb⟩
   refine ⟨_, rfl, ?_⟩
   replace HO0_2 := zVe HO0_2 hg hb
   have BK166 := am (hbox)
   have GW166 := zsz hg (zc2 HB GE163 GE164)
   have GE166 := zsz hg (zc2 HB GE163 GE164)
   replace HB := am (below_step (zc2 HB GE163 GE164) hb)
   have NB163_166 := znt BK163 hg
   have NB166_163 := zng BK163 hg
   replace BK163 := zbb BK163 hb
   have NB164_166 := znt BK164 hg
   have NB166_164 := zng BK164 hg
   replace BK164 := zbb BK164 hb
   clear hb hbox hg
   refine hK.out _ _ ⟨(blk_cell BK163.out 0).trans rfl, (blk_cell BK163.out 1).trans rfl, (blk_cell BK163.out 2).trans rfl⟩ (fun hHeld => ?_)
   clear hK K
   refine norm_ (a' := ?_) ?_ ?_
   rotate_left
   ·show Act.put _ (some 18) _ = _
    simp only [Act.put, List.setIfInBounds_toArray, List.set_cons_zero, List.set_cons_succ, i64_w, i32_w]
    rfl
   refine one_ (i := 4) (N := some 19) #[true, true, true, true, true, false, false] rfl rfl (by kernel_rfl) (by decide) (fun K hK => ?_)
   refine goes_ Try.func24 (by kernel_rfl) rfl #[.slice A0_2 l0_2.length c0_2, .func (.func 33) #[] #[.pointer (some ⟨gb166, 0, none⟩)]] (by rfl) rfl rfl zm ?_
   with_reducible refine (any_sema_is_1.calls _ _ l0_2 gb166 a1 true _ ?side1 ?side2 ?side3 A5.out).mono ?_
   (case side1 => repeat (first | exact (Kd.V_reads' HO0_2.out).2.2 | (with_reducible refine Kd.C_alloc ?_ _) | (with_reducible refine Kd.C_drewN ?_ _) | (with_reducible refine Kd.C_drew ?_)))
   (case side2 => exact (Kd.V_reads' HO0_2.out).2.1)
   (case side3 => exact (zb BK166))
   rintro e w17 ⟨rfl, hb⟩
   refine ⟨_, rfl, ?_⟩
   replace HO0_2 := zVb HO0_2 hb
   replace BK163 := zbb BK163 hb
   replace BK164 := zbb BK164 hb
   replace BK166 := zbb BK166 hb
   replace HB := am (below_step (zc3 HB GE163 GE164 GE166) hb)
   (try clear hb)
   (try clear hb2)
   (try clear hk)
   (try clear hi)
   refine hK.out _ _ ⟨(blk_cell BK163.out 0).trans rfl, (blk_cell BK163.out 1).trans rfl, (blk_cell BK163.out 2).trans rfl⟩ (fun hHeld => ?_)
   clear hK K
   refine norm_ (a' := ?_) ?_ ?_
   rotate_left
   ·show Act.put _ (some 19) _ = _
    simp only [Act.put, List.setIfInBounds_toArray, List.set_cons_zero, List.set_cons_succ, i64_w, i32_w]
    rfl
   refine pure_ (i := 5) (N := some 20) (v := ?_) (a' := ?_) #[true, true, true, true, true, true, false] rfl rfl (by kernel_rfl) (fun _ _ _ h => h) (Or.inl ⟨by rfl, ?_⟩) ?_ ?_
   rotate_left
   ·intro w'
    go_simp
    with_reducible rfl
   rotate_left
   ·simp only [Act.put, List.setIfInBounds_toArray, List.set_cons_zero, List.set_cons_succ, i64_w, i32_w]
    rfl
   refine pure_ (i := 6) (N := some 14) (v := ?_) (a' := ?_) #[true, true, true, true, true, true, true] rfl rfl (by kernel_rfl) (fun _ _ _ h => h) (Or.inl ⟨by rfl, ?_⟩) ?_ ?_
   rotate_left
   ·intro w'
    go_simp
    with_reducible rfl
   rotate_left
   ·simp only [Act.put, List.setIfInBounds_toArray, List.set_cons_zero, List.set_cons_succ, i64_w, i32_w]
    rfl
   refine done_ (by kernel_rfl) ?_
   have hnb18 := NB163_166.out
   have hnc18 := NB166_163.out
   have hcz19_0 : w17.cell? ⟨gb163, 0, none⟩ = some (.int .i64 a0_0) := (blk_cell BK163.out 0).trans rfl
   have hcz19_1 : w17.cell? ⟨gb163, 1, none⟩ = some (.int .i64 a0_1) := (blk_cell BK163.out 1).trans rfl
   have hcz19_2 : w17.cell? ⟨gb163, 2, none⟩ = some (.slice A0_2 l0_2.length c0_2) := (blk_cell BK163.out 2).trans rfl
   have hfz19_0 := blk_frozen BK163.out 0
   have hfz19_1 := blk_frozen BK163.out 1
   have hfz19_2 := blk_frozen BK163.out 2
   try go_wp2_with (first | ((with_reducible refine gate_callee (f := 26) rfl ?_); refine goesL_ (some 24) rfl rfl Try.func26 (by kernel_rfl) rfl #[.slice A0_2 l0_2.length c0_2] rfl zm ?_; (with_reducible refine (sema_Ask_26.calls _ _ l0_2 t168 _ ?side1 ?side2 A7.out).mono ?_); (case side1 => repeat (first | exact (Kd.V_reads' HO0_2.out).2.2 | (with_reducible refine Kd.C_alloc ?_ _) | (with_reducible refine Kd.C_drewN ?_ _) | (with_reducible refine Kd.C_drew ?_))); (case side2 => exact (Kd.V_reads' HO0_2.out).2.1); rintro e w20 ⟨v169, rfl, ho0, hb⟩; refine ⟨_, rfl, ?_⟩; replace HO0_2 := am (Kd.V_elder' (zV HO0_2) (Kd.R_base ho0) hb); have HO170 := am (Kd.R_lower (Kd.R_newM (M := fun k_ => (w.heap.size ≤ k_)) ho0 (below_size (zc3 HB GE163 GE164 GE166)) (fun k_ h_ => h_)) (below_size (zc3 HB GE163 GE164 GE166))); replace BK163 := zbb BK163 hb; replace BK164 := zbb BK164 hb; replace BK166 := zbb BK166 hb; replace HB := am (below_step (zc3 HB GE163 GE164 GE166) hb); (try clear hb); (try clear hb2); (try clear hk); (try clear hi); (try clear ho0)) | ((with_reducible refine gate_callee (f := 25) rfl ?_); refine goesL_ (some 26) rfl rfl Try.func25 (by kernel_rfl) rfl #[.int .i64 a1] rfl (by (try simp only [List.map_toArray, List.map_cons, List.map_nil]); first | done | rfl) ?_; (with_reducible refine (sema_is.calls a1 _).mono ?_); rintro e w21 ⟨gb171, hg, rfl, hbox, hb⟩; refine ⟨_, rfl, ?_⟩; replace HO0_2 := zVe HO0_2 hg hb; replace HO170 := zRb HO170 hb; have BK171 := am (hbox); have GW171 := zsz hg (zc3 HB GE163 GE164 GE166); have GE171 := zsz hg (zc3 HB GE163 GE164 GE166); replace HB := am (below_step (zc3 HB GE163 GE164 GE166) hb); have NB163_171 := znt BK163 hg; have NB171_163 := zng BK163 hg; replace BK163 := zbb BK163 hb; have NB164_171 := znt BK164 hg; have NB171_164 := zng BK164 hg; replace BK164 := zbb BK164 hb; have NB166_171 := znt BK166 hg; have NB171_166 := zng BK166 hg; replace BK166 := zbb BK166 hb; clear hb hbox hg; obtain ⟨Ao22, co22, eo22⟩ := Kd.R_slice HO170.out; subst eo22) | ((with_reducible refine gate_callee (f := 31) rfl ?_); refine goesL_ (some 27) rfl rfl Try.func31 (by kernel_rfl) rfl #[.slice Ao22 t168.length co22, .func (.func 33) #[] #[.pointer (some ⟨gb171, 0, none⟩)]] rfl zm ?_; (with_reducible refine (del_sema_is_1.calls (fun k_ => some k_ = (.slice Ao22 t168.length co22 : Value).ownBlock) (.slice Ao22 t168.length co22) t168 gb171 a1 t172 w _ ?side1 ?side2 ?side3 ?side4 A8.out).mono ?_); (case side1 => repeat (first | (with_reducible first | exact HB.out | apply below_alloc | apply pw_below_drewN | apply below_drew1 | refine below_set ?_ GE163.out | refine below_set ?_ GE164.out | refine below_set ?_ GE166.out | refine below_set ?_ GE171.out) | exact HB.out)); (case side2 => exact Kd.R_tight rfl HO170.out); (case side3 => exact (zb BK171)); (case side4 => exact fun e_ => (Kd.R_ne HO170.out BK171.out (by decide)) e_); rintro e w23 ⟨v173, rfl, ho0, hb, hkp⟩; refine ⟨_, rfl, ?_⟩; replace HO0_2 := am (Kd.V_mono (ok' := fun k_ => (P0_2_ k_ ∨ w.heap.size ≤ k_) ∧ k_ ≠ gb163 ∧ k_ ≠ gb164 ∧ k_ ≠ gb166 ∧ k_ ≠ gb171 ∧ some k_ ≠ (v173 : Value).ownBlock) (Kd.V_keptB (HO0_2.out) hkp (fun k_ hk_ hs_ => (hk_.1.2) hs_)) (fun k_ hk_ => ⟨hk_.1.1.1.1.1.1, hk_.1.1.1.1.1.2, hk_.1.1.1.1.2, hk_.1.1.1.2, hk_.1.2, fun e_ => Or.elim (ho0.1 k_ e_.symm) (fun hs_ => hk_.2.1 hs_) (fun hn_ => Nat.not_le.2 hk_.2.2 hn_)⟩)); replace BK163 := am (blk_kept (zb BK163) hkp (fun hs_ => (fun e_ => (Kd.R_ne HO170.out BK163.out (by decide)) e_) hs_)); replace BK164 := am (blk_kept (zb BK164) hkp (fun hs_ => (fun e_ => (Kd.R_ne HO170.out BK164.out (by decide)) e_) hs_)); replace BK166 := am (blk_kept (zb BK166) hkp (fun hs_ => (fun e_ => (Kd.R_ne HO170.out BK166.out (by decide)) e_) hs_)); replace BK171 := am (blk_kept (zb BK171) hkp (fun hs_ => (fun e_ => (Kd.R_ne HO170.out BK171.out (by decide)) e_) hs_)); have HO174 := am (Kd.R_mono (ok' := fun k_ => (w.heap.size ≤ k_)) ho0 (fun k_ hk_ => Or.elim hk_ (fun hs_ => (HO170.out.1 k_ (hs_).symm).1) (fun hn_ => (Nat.le_trans (below_size (zc4 HB GE163 GE164 GE166 GE171)) hn_)))); replace HB := am (hb); clear HO170; (try clear hb); (try clear hkp); (try clear ho0); obtain ⟨Ao24, co24, eo24⟩ := Kd.R_slice HO174.out; subst eo24; have hnb25 := NB163_171.out; have hnc25 := NB171_163.out; have hcz26_0 : w23.cell? ⟨gb163, 0, none⟩ = some (.int .i64 a0_0) := (blk_cell BK163.out 0).trans rfl; have hcz26_1 : w23.cell? ⟨gb163, 1, none⟩ = some (.int .i64 a0_1) := (blk_cell BK163.out 1).trans rfl; have hcz26_2 : w23.cell? ⟨gb163, 2, none⟩ = some (.slice A0_2 l0_2.length c0_2) := (blk_cell BK163.out 2).trans rfl; have hfz26_0 := blk_frozen BK163.out 0; have hfz26_1 := blk_frozen BK163.out 1; have hfz26_2 := blk_frozen BK163.out 2) | ((with_reducible refine gate_store (t := 22) (p := 28) rfl ?_); refine store_event (t := 22) (p := 28) (v := ?vo_w27) (w1 := (w23.setCell ⟨gb163, 2, none⟩ (.slice Ao24 t172.length co24))) ?hg ?ho ?hn ?hr ?_; (case ho => rfl); (case hg => rfl); (case hn => rfl); (case hr => first | (go_simp; done) | (go_simp; rfl)); intro w27 hw; replace HO0_2 := zVm hw HO0_2 (fun k_ => (P0_2_ k_ ∨ w.heap.size ≤ k_) ∧ some k_ ≠ (.slice Ao24 t172.length co24 : Value).ownBlock ∧ k_ ≠ gb163 ∧ k_ ≠ gb164 ∧ k_ ≠ gb166 ∧ k_ ≠ gb171) (fun _ hk => hk.2.1) (fun _ hk => ⟨hk.1.1, ⟨hk.1.2.2.2.2.2, ⟨hk.1.2.1, ⟨hk.1.2.2.1, ⟨hk.1.2.2.2.1, hk.1.2.2.2.2.1⟩⟩⟩⟩⟩); replace HO174 : Aside0 (Kd.R k50 50 w27 w.heap.size (fun k_ => (w.heap.size ≤ k_)) (.slice Ao24 t172.length co24) t172) := ⟨(by rw [hw]; exact (by (with_reducible repeat (first | apply Kd.R_alloc | apply Kd.R_drewN | apply Kd.R_drew)); exact Kd.R_mono (Kd.R_far (p := ⟨gb163, 2, none⟩) (Kd.R_types HO174.out BK163.out (by decide)) (fun _ hk => hk.2) (.slice Ao24 t172.length co24)) (fun _ hk => hk.1)))⟩; replace BK163 : Aside0 (w27.heap[gb163]? = some (.cells #[.int .i64 a0_0, .int .i64 a0_1, .slice Ao24 t172.length co24] 24 (0, 0))) := ⟨(by rw [hw]; exact (by (with_reducible repeat (first | refine blk_drewN ?_ _ | refine blk_drew ?_ | refine blk_alloc ?_ _)); refine blk_put (cs := #[.int .i64 a0_0, .int .i64 a0_1, .slice A0_2 l0_2.length c0_2]) ?_ 2 _ rfl; (with_reducible repeat (first | refine blk_drewN ?_ _ | refine blk_drew ?_ | refine blk_alloc ?_ _)); exact BK163.out))⟩; replace BK164 := zks hw BK164 NB164_163; replace BK166 := zks hw BK166 NB166_163; replace BK171 := zks hw BK171 NB171_163; replace HB : Aside0 (Below w.heap.size w w27) := ⟨(by rw [hw]; exact (zc4 HB GE163 GE164 GE166 GE171))⟩; clear hw; have hcz28_0 : w27.cell? ⟨gb163, 0, none⟩ = some (.int .i64 a0_0) := (blk_cell BK163.out 0).trans rfl; have hcz28_1 : w27.cell? ⟨gb163, 1, none⟩ = some (.int .i64 a0_1) := (blk_cell BK163.out 1).trans rfl; have hcz28_2 : w27.cell? ⟨gb163, 2, none⟩ = some (.slice Ao24 t172.length co24) := (blk_cell BK163.out 2).trans rfl; have hfz28_0 := blk_frozen BK163.out 0; have hfz28_1 := blk_frozen BK163.out 1; have hfz28_2 := blk_frozen BK163.out 2) | ((with_reducible refine gate_callee (f := 29) rfl ?_); refine goesL_ (some 31) rfl rfl Try.func29 (by kernel_rfl) rfl #[.agg #[.int .i64 a0_0, .int .i64 a0_1, .slice Ao24 t172.length co24]] rfl zm ?_; (with_reducible refine (sema_served.calls k a0_0 a0_1 (fun k_ => some k_ = (.slice Ao24 t172.length co24 : Value).ownBlock) _ _ t172 t175 t176 t177 t180 _ ?side1 A9.out).mono ?_); (case side1 => exact Kd.R_V (Kd.R_tight rfl (Kd.R_types (Kd.R_types (Kd.R_types (Kd.R_types (HO174.out) BK163.out (by decide)) BK164.out (by decide)) BK166.out (by decide)) BK171.out (by decide)))); rintro e w29 ⟨v178, v181, rfl, ho0, ho1, hb⟩; refine ⟨_, rfl, ?_⟩; replace HO0_2 := am (Kd.V_elder' (zV HO0_2) (Kd.R_base ho1) hb); have HO179 := am (Kd.V_lower (Kd.V_mono (ok' := fun k_ => (P0_2_ k_ ∨ w.heap.size ≤ k_) ∧ some k_ ≠ (v181 : Value).ownBlock ∧ k_ ≠ gb163 ∧ k_ ≠ gb164 ∧ k_ ≠ gb166 ∧ k_ ≠ gb171) ho0 (fun k_ hk_ => ⟨Or.elim hk_.1 (fun hs_ => (.inr (((Kd.R_types (Kd.R_types (Kd.R_types (Kd.R_types (HO174.out) BK163.out (by decide)) BK164.out (by decide)) BK166.out (by decide)) BK171.out (by decide)).1 k_ hs_.symm).1.1.1.1))) (fun hn_ => (.inr (Nat.le_trans (below_size (zc4 HB GE163 GE164 GE166 GE171)) hn_))), hk_.2, Or.elim hk_.1 (fun hs_ => ((Kd.R_types (Kd.R_types (Kd.R_types (Kd.R_types (HO174.out) BK163.out (by decide)) BK164.out (by decide)) BK166.out (by decide)) BK171.out (by decide)).1 k_ hs_.symm).1.1.1.2) (fun hn_ => (zfr gb163 BK163 hn_)), Or.elim hk_.1 (fun hs_ => ((Kd.R_types (Kd.R_types (Kd.R_types (Kd.R_types (HO174.out) BK163.out (by decide)) BK164.out (by decide)) BK166.out (by decide)) BK171.out (by decide)).1 k_ hs_.symm).1.1.2) (fun hn_ => (zfr gb164 BK164 hn_)), Or.elim hk_.1 (fun hs_ => ((Kd.R_types (Kd.R_types (Kd.R_types (Kd.R_types (HO174.out) BK163.out (by decide)) BK164.out (by decide)) BK166.out (by decide)) BK171.out (by decide)).1 k_ hs_.symm).1.2) (fun hn_ => (zfr gb166 BK166 hn_)), Or.elim hk_.1 (fun hs_ => ((Kd.R_types (Kd.R_types (Kd.R_types (Kd.R_types (HO174.out) BK163.out (by decide)) BK164.out (by decide)) BK166.out (by decide)) BK171.out (by decide)).1 k_ hs_.symm).2) (fun hn_ => (zfr gb171 BK171 hn_))⟩)) (below_size (zc4 HB GE163 GE164 GE166 GE171))); have HO182 := am (Kd.R_lower (Kd.R_new' (Kd.R_newM (M := fun k_ => (w.heap.size ≤ k_)) (Kd.R_mono (ok' := fun k_ => True) ho1 (fun _ hk_ => trivial)) (below_size (zc4 HB GE163 GE164 GE166 GE171)) (fun k_ h_ => h_)) (Kd.R_lt (zR HO174))) (below_size (zc4 HB GE163 GE164 GE166 GE171))); replace HO174 := am (Kd.R_elder' (zR HO174) (Kd.R_base ho1) hb); replace BK163 := zbb BK163 hb; replace BK164 := zbb BK164 hb; replace BK166 := zbb BK166 hb; replace BK171 := zbb BK171 hb; replace HB := am (below_step (zc4 HB GE163 GE164 GE166 GE171) hb); (try clear hb); (try clear hb2); (try clear hk); (try clear hi); (try clear ho0); (try clear ho1)) | ((with_reducible refine gate_dst (N := 7) rfl ?_); refine box_event ?hg (N := 7) ?hd (cs := #[.int .i64 0, .int .i64 0, .slice none 0 0]) (t := 24) ?hr ?_; (case hd => rfl); (case hg => rfl); (case hr => first | (go_simp; done) | (go_simp; rfl)); intro gb183 hg w30 hbox hb; replace HO0_2 := zVe HO0_2 hg hb; replace HO174 := zRb HO174 hb; replace HO179 := zVe HO179 hg hb; replace HO182 := zRb HO182 hb; have BK183 := am (hbox); have GW183 := zsz hg (zc4 HB GE163 GE164 GE166 GE171); have GE183 := zsz hg (zc4 HB GE163 GE164 GE166 GE171); replace HB := am (below_step (zc4 HB GE163 GE164 GE166 GE171) hb); have NB163_183 := znt BK163 hg; have NB183_163 := zng BK163 hg; replace BK163 := zbb BK163 hb; have NB164_183 := znt BK164 hg; have NB183_164 := zng BK164 hg; replace BK164 := zbb BK164 hb; have NB166_183 := znt BK166 hg; have NB183_166 := zng BK166 hg; replace BK166 := zbb BK166 hb; have NB171_183 := znt BK171 hg; have NB183_171 := zng BK171 hg; replace BK171 := zbb BK171 hb; clear hb hbox hg; have hnb31 := NB183_163.out; have hnc31 := NB163_183.out; have hnb32 := NB183_164.out; have hnc32 := NB164_183.out; have hnb33 := NB183_166.out; have hnc33 := NB166_183.out; have hnb34 := NB183_171.out; have hnc34 := NB171_183.out; have hcz35_0 : w30.cell? ⟨gb183, 0, none⟩ = some (.int .i64 0) := (blk_cell BK183.out 0).trans rfl; have hcz35_1 : w30.cell? ⟨gb183, 1, none⟩ = some (.int .i64 0) := (blk_cell BK183.out 1).trans rfl; have hcz35_2 : w30.cell? ⟨gb183, 2, none⟩ = some (.slice none 0 0) := (blk_cell BK183.out 2).trans rfl; have hfz35_0 := blk_frozen BK183.out 0; have hfz35_1 := blk_frozen BK183.out 1; have hfz35_2 := blk_frozen BK183.out 2; obtain ⟨Ao36, co36, eo36⟩ := Kd.V_slice HO179.out; subst eo36; have hnb37 := NB164_166.out; have hnc37 := NB166_164.out; have hnb38 := NB164_171.out; have hnc38 := NB171_164.out; have hcz39_0 : w30.cell? ⟨gb164, 0, none⟩ = some (.int .i64 0) := (blk_cell BK164.out 0).trans rfl; have hcz39_1 : w30.cell? ⟨gb164, 1, none⟩ = some (.int .i64 0) := (blk_cell BK164.out 1).trans rfl; have hcz39_2 : w30.cell? ⟨gb164, 2, none⟩ = some (.slice none 0 0) := (blk_cell BK164.out 2).trans rfl; have hfz39_0 := blk_frozen BK164.out 0; have hfz39_1 := blk_frozen BK164.out 1; have hfz39_2 := blk_frozen BK164.out 2))
   refine bodyPost_ret (results_ctt rfl _ _ gb164 24 #[.int .i64 t175, .int .i64 t176, .slice Ao36 t177.length co36] (0, 0) _ rfl (by (with_reducible repeat (first | refine blk_drewN ?_ _ | refine blk_drew ?_ | refine blk_alloc ?_ _)); refine blk_put (cs := #[.int .i64 t175, .int .i64 t176, .slice none 0 0]) ?_ 2 _ rfl; (with_reducible repeat (first | refine blk_drewN ?_ _ | refine blk_drew ?_ | refine blk_alloc ?_ _)); refine blk_put (cs := #[.int .i64 t175, .int .i64 0, .slice none 0 0]) ?_ 1 _ rfl; (with_reducible repeat (first | refine blk_drewN ?_ _ | refine blk_drew ?_ | refine blk_alloc ?_ _)); refine blk_put (cs := #[.int .i64 0, .int .i64 0, .slice none 0 0]) ?_ 0 _ rfl; (with_reducible repeat (first | refine blk_drewN ?_ _ | refine blk_drew ?_ | refine blk_alloc ?_ _)); refine blk_far ?_ NB164_183.out _; (with_reducible repeat (first | refine blk_drewN ?_ _ | refine blk_drew ?_ | refine blk_alloc ?_ _)); refine blk_far ?_ NB164_183.out _; (with_reducible repeat (first | refine blk_drewN ?_ _ | refine blk_drew ?_ | refine blk_alloc ?_ _)); refine blk_far ?_ NB164_183.out _; (with_reducible repeat (first | refine blk_drewN ?_ _ | refine blk_drew ?_ | refine blk_alloc ?_ _)); exact BK164.out) Try.underlying24 rfl (by kernel_rfl)) rfl ?_
   exact ⟨_, _, by first | rfl | (simp [errW_none, errW_some] <;> rfl) | (simp [*, errW_none, errW_some] <;> rfl), by (with_reducible repeat (first | apply Kd.V_alloc | apply Kd.V_drewN | apply Kd.V_drew)); exact Kd.V_mono (Kd.V_far (p := ⟨gb164, 2, none⟩) (Kd.V_far (p := ⟨gb164, 1, none⟩) (Kd.V_far (p := ⟨gb164, 0, none⟩) (Kd.V_far (p := ⟨gb183, 2, none⟩) (Kd.V_far (p := ⟨gb183, 1, none⟩) (Kd.V_far (p := ⟨gb183, 0, none⟩) (Kd.V_mono (Kd.V_mono HO179.out (fun k_ hk => (⟨hk, hk.2⟩ : _ ∧ k_ ≠ gb183))) (fun k_ hk => (⟨hk, hk.1.1.2.2.2.1⟩ : _ ∧ k_ ≠ gb164))) (fun _ hk => hk.1.2) (.int .i64 t175)) (fun _ hk => hk.1.2) (.int .i64 t176)) (fun _ hk => hk.1.2) (.slice Ao36 t177.length co36)) (fun _ hk => hk.2) (.int .i64 t175)) (fun _ hk => hk.2) (.int .i64 t176)) (fun _ hk => hk.2) (.slice Ao36 t177.length co36)) (fun _ hk => ⟨hk.1.1.1.1, hk.1.1.1.2.1⟩), by (with_reducible repeat (first | apply Kd.R_alloc | apply Kd.R_drewN | apply Kd.R_drew)); exact Kd.R_mono (Kd.R_far (p := ⟨gb164, 2, none⟩) (Kd.R_far (p := ⟨gb164, 1, none⟩) (Kd.R_far (p := ⟨gb164, 0, none⟩) (Kd.R_far (p := ⟨gb183, 2, none⟩) (Kd.R_far (p := ⟨gb183, 1, none⟩) (Kd.R_far (p := ⟨gb183, 0, none⟩) (Kd.R_types (Kd.R_types HO182.out BK183.out (by decide)) BK164.out (by decide)) (fun _ hk => hk.1.2) (.int .i64 t175)) (fun _ hk => hk.1.2) (.int .i64 t176)) (fun _ hk => hk.1.2) (.slice Ao36 t177.length co36)) (fun _ hk => hk.2) (.int .i64 t175)) (fun _ hk => hk.2) (.int .i64 t176)) (fun _ hk => hk.2) (.slice Ao36 t177.length co36)) (fun _ hk => hk.1.1.1.1), by repeat (first | (with_reducible first | exact HB.out | apply below_alloc | apply pw_below_drewN | apply below_drew1 | refine below_set ?_ GE163.out | refine below_set ?_ GE164.out | refine below_set ?_ GE166.out | refine below_set ?_ GE171.out | refine below_set ?_ GE183.out) | exact HB.out)⟩
  ·replace c6 := Bool.eq_false_iff.mpr c6
   subst c6
   have H1 : (some (a0_0, a0_1, l0_2, ([] : List (S50)), 3)) = some (r1, r2, r3, r4, r5) := by rw [if_neg (show ¬ (false = true) by decide)] at H; exact H
   clear H
   have H := H1
   clear H1
   simp only [Option.some.injEq, Prod.mk.injEq] at H
   obtain ⟨rfl, rfl, rfl, rfl, rfl⟩ := H
   go_enter Try.func15, Try.ntmps15
   try go_wp2_with (first | ((with_reducible refine gate_dst (N := 2) rfl ?_); refine box_event ?hg (N := 2) ?hd (cs := #[.int .i64 a0_0, .int .i64 a0_1, .slice A0_2 l0_2.length c0_2]) (t := 24) ?hr ?_; (case hd => rfl); (case hg => rfl); (case hr => first | (go_simp; done) | (go_simp; rfl)); intro gb163 hg w40 hbox hb; replace HO0_2 := zVe HO0_2 hg hb; have BK163 := am (hbox); have GW163 := zsz hg (zc0 HB); have GE163 := zsz hg (zc0 HB); replace HB := am (below_step (zc0 HB) hb); clear hb hbox hg) | ((with_reducible refine gate_dst (N := 4) rfl ?_); refine box_event ?hg (N := 4) ?hd (cs := #[.int .i64 0, .int .i64 0, .slice none 0 0]) (t := 24) ?hr ?_; (case hd => rfl); (case hg => rfl); (case hr => first | (go_simp; done) | (go_simp; rfl)); intro gb164 hg w41 hbox hb; replace HO0_2 := zVe HO0_2 hg hb; have BK164 := am (hbox); have GW164 := zsz hg (zc1 HB GE163); have GE164 := zsz hg (zc1 HB GE163); replace HB := am (below_step (zc1 HB GE163) hb); have NB163_164 := znt BK163 hg; have NB164_163 := zng BK163 hg; replace BK163 := zbb BK163 hb; clear hb hbox hg; have hnb42 := NB163_164.out; have hnc42 := NB164_163.out; have hcz43_0 : w41.cell? ⟨gb163, 0, none⟩ = some (.int .i64 a0_0) := (blk_cell BK163.out 0).trans rfl; have hcz43_1 : w41.cell? ⟨gb163, 1, none⟩ = some (.int .i64 a0_1) := (blk_cell BK163.out 1).trans rfl; have hcz43_2 : w41.cell? ⟨gb163, 2, none⟩ = some (.slice A0_2 l0_2.length c0_2) := (blk_cell BK163.out 2).trans rfl; have hfz43_0 := blk_frozen BK163.out 0; have hfz43_1 := blk_frozen BK163.out 1; have hfz43_2 := blk_frozen BK163.out 2) | ((with_reducible refine gate_callee (f := 19) rfl ?_); refine goesL_ (some 11) rfl rfl Try.func19 (by kernel_rfl) rfl #[.agg #[.int .i64 a0_0, .int .i64 a0_1, .slice A0_2 l0_2.length c0_2]] rfl zm ?_; (with_reducible refine (sema_Right.calls k a0_0 a0_1 _ _ l0_2 true _ ?side1 ?side2 A3.out).mono ?_); (case side1 => repeat (first | exact (Kd.V_reads' HO0_2.out).2.2 | (with_reducible refine Kd.C_alloc ?_ _) | (with_reducible refine Kd.C_drewN ?_ _) | (with_reducible refine Kd.C_drew ?_))); (case side2 => exact (Kd.V_reads' HO0_2.out).2.1); rintro e w44 ⟨rfl, hb⟩; refine ⟨_, rfl, ?_⟩; replace HO0_2 := zVb HO0_2 hb; replace BK163 := zbb BK163 hb; replace BK164 := zbb BK164 hb; replace HB := am (below_step (zc2 HB GE163 GE164) hb); (try clear hb); (try clear hb2); (try clear hk); (try clear hi)))
   replace HO0_2 := am (Kd.V_drew HO0_2.out)
   replace BK163 := am (blk_drew BK163.out)
   replace BK164 := am (blk_drew BK164.out)
   replace HB := am (below_drew1 HB.out)
   refine start_ (n := 7) (S := fun w' => w'.cell? ⟨gb163, 0, none⟩ = some (.int .i64 a0_0) ∧ w'.cell? ⟨gb163, 1, none⟩ = some (.int .i64 a0_1) ∧ w'.cell? ⟨gb163, 2, none⟩ = some (.slice A0_2 l0_2.length c0_2)) (ds := []) #[false, false, false, false, false, false, false] (by kernel_rfl) rfl rfl ⟨(blk_cell BK163.out 0).trans rfl, (blk_cell BK163.out 1).trans rfl, (blk_cell BK163.out 2).trans rfl⟩ (fun hHeld => ?_)
   generalize w44.drew = w45 at HO0_2 BK163 BK164 HB hHeld ⊢
   refine pure_ (i := 0) (N := some 15) (v := ?_) (a' := ?_) #[true, false, false, false, false, false, false] rfl rfl (by kernel_rfl) (fun _ _ _ h => h) (Or.inl ⟨by rfl, ?_⟩) ?_ ?_
   rotate_left
   ·intro w'
    go_simp
    with_reducible rfl
   rotate_left
   ·simp only [Act.put, List.setIfInBounds_toArray, List.set_cons_zero, List.set_cons_succ, i64_w, i32_w]
    rfl
   refine pure_ (i := 2) (N := some 17) (v := ?_) (a' := ?_) #[true, false, true, false, false, false, false] rfl rfl (by kernel_rfl) (fun _ _ _ h => h) (Or.inl ⟨by rfl, ?_⟩) ?_ ?_
   rotate_left
   ·intro w'
    go_simp
    with_reducible rfl
   rotate_left
   ·simp only [Act.put, List.setIfInBounds_toArray, List.set_cons_zero, List.set_cons_succ, i64_w, i32_w]
    rfl
   refine take_ (i := 1) (N := some 16) (v := ?_) (a' := ?_) #[true, true, true, false, false, false, false] rfl rfl (by kernel_rfl) (fun _ _ _ h => h) (Or.inl ⟨by rfl, ?_⟩) hHeld ?_ ?_
   rotate_left
   ·rintro w' ⟨s0, s1, s2⟩
    go_simp
    with_reducible rfl
   rotate_left
   ·simp only [Act.put, List.setIfInBounds_toArray, List.set_cons_zero, List.set_cons_succ, i64_w, i32_w]
    rfl
   refine one_ (i := 3) (N := some 18) #[true, true, true, true, false, false, false] rfl rfl (by kernel_rfl) (by decide) (fun K hK => ?_)
   refine goes_ Try.func25 (by kernel_rfl) rfl #[.int .i64 a1] (by rfl) rfl rfl zm ?_
   with_reducible refine (sema_is.calls a1 _).mono ?_
   rintro e w46 ⟨gb166, hg, rfl, hbox, hb⟩
   refine ⟨_, rfl, ?_⟩
   replace HO0_2 := zVe HO0_2 hg hb
   have BK166 := am (hbox)
   have GW166 := zsz hg (zc2 HB GE163 GE164)
   have GE166 := zsz hg (zc2 HB GE163 GE164)
   replace HB := am (below_step (zc2 HB GE163 GE164) hb)
   have NB163_166 := znt BK163 hg
   have NB166_163 := zng BK163 hg
   replace BK163 := zbb BK163 hb
   have NB164_166 := znt BK164 hg
   have NB166_164 := zng BK164 hg
   replace BK164 := zbb BK164 hb
   clear hb hbox hg
   refine hK.out _ _ ⟨(blk_cell BK163.out 0).trans rfl, (blk_cell BK163.out 1).trans rfl, (blk_cell BK163.out 2).trans rfl⟩ (fun hHeld => ?_)
   clear hK K
   refine norm_ (a' := ?_) ?_ ?_
   rotate_left
   ·show Act.put _ (some 18) _ = _
    simp only [Act.put, List.setIfInBounds_toArray, List.set_cons_zero, List.set_cons_succ, i64_w, i32_w]
    rfl
   refine one_ (i := 4) (N := some 19) #[true, true, true, true, true, false, false] rfl rfl (by kernel_rfl) (by decide) (fun K hK => ?_)
   refine goes_ Try.func24 (by kernel_rfl) rfl #[.slice A0_2 l0_2.length c0_2, .func (.func 33) #[] #[.pointer (some ⟨gb166, 0, none⟩)]] (by rfl) rfl rfl zm ?_
   with_reducible refine (any_sema_is_1.calls _ _ l0_2 gb166 a1 false _ ?side1 ?side2 ?side3 A5.out).mono ?_
   (case side1 => repeat (first | exact (Kd.V_reads' HO0_2.out).2.2 | (with_reducible refine Kd.C_alloc ?_ _) | (with_reducible refine Kd.C_drewN ?_ _) | (with_reducible refine Kd.C_drew ?_)))
   (case side2 => exact (Kd.V_reads' HO0_2.out).2.1)
   (case side3 => exact (zb BK166))
   rintro e w47 ⟨rfl, hb⟩
   refine ⟨_, rfl, ?_⟩
   replace HO0_2 := zVb HO0_2 hb
   replace BK163 := zbb BK163 hb
   replace BK164 := zbb BK164 hb
   replace BK166 := zbb BK166 hb
   replace HB := am (below_step (zc3 HB GE163 GE164 GE166) hb)
   (try clear hb)
   (try clear hb2)
   (try clear hk)
   (try clear hi)
   refine hK.out _ _ ⟨(blk_cell BK163.out 0).trans rfl, (blk_cell BK163.out 1).trans rfl, (blk_cell BK163.out 2).trans rfl⟩ (fun hHeld => ?_)
   clear hK K
   refine norm_ (a' := ?_) ?_ ?_
   rotate_left
   ·show Act.put _ (some 19) _ = _
    simp only [Act.put, List.setIfInBounds_toArray, List.set_cons_zero, List.set_cons_succ, i64_w, i32_w]
    rfl
   refine pure_ (i := 5) (N := some 20) (v := ?_) (a' := ?_) #[true, true, true, true, true, true, false] rfl rfl (by kernel_rfl) (fun _ _ _ h => h) (Or.inl ⟨by rfl, ?_⟩) ?_ ?_
   rotate_left
   ·intro w'
    go_simp
    with_reducible rfl
   rotate_left
   ·simp only [Act.put, List.setIfInBounds_toArray, List.set_cons_zero, List.set_cons_succ, i64_w, i32_w]
    rfl
   refine pure_ (i := 6) (N := some 14) (v := ?_) (a' := ?_) #[true, true, true, true, true, true, true] rfl rfl (by kernel_rfl) (fun _ _ _ h => h) (Or.inl ⟨by rfl, ?_⟩) ?_ ?_
   rotate_left
   ·intro w'
    go_simp
    with_reducible rfl
   rotate_left
   ·simp only [Act.put, List.setIfInBounds_toArray, List.set_cons_zero, List.set_cons_succ, i64_w, i32_w]
    rfl
   refine done_ (by kernel_rfl) ?_
   have hnb48 := NB163_166.out
   have hnc48 := NB166_163.out
   have hcz49_0 : w47.cell? ⟨gb163, 0, none⟩ = some (.int .i64 a0_0) := (blk_cell BK163.out 0).trans rfl
   have hcz49_1 : w47.cell? ⟨gb163, 1, none⟩ = some (.int .i64 a0_1) := (blk_cell BK163.out 1).trans rfl
   have hcz49_2 : w47.cell? ⟨gb163, 2, none⟩ = some (.slice A0_2 l0_2.length c0_2) := (blk_cell BK163.out 2).trans rfl
   have hfz49_0 := blk_frozen BK163.out 0
   have hfz49_1 := blk_frozen BK163.out 1
   have hfz49_2 := blk_frozen BK163.out 2
   have hnb50 := NB164_166.out
   have hnc50 := NB166_164.out
   have hcz51_0 : w47.cell? ⟨gb164, 0, none⟩ = some (.int .i64 0) := (blk_cell BK164.out 0).trans rfl
   have hcz51_1 : w47.cell? ⟨gb164, 1, none⟩ = some (.int .i64 0) := (blk_cell BK164.out 1).trans rfl
   have hcz51_2 : w47.cell? ⟨gb164, 2, none⟩ = some (.slice none 0 0) := (blk_cell BK164.out 2).trans rfl
   have hfz51_0 := blk_frozen BK164.out 0
   have hfz51_1 := blk_frozen BK164.out 1
   have hfz51_2 := blk_frozen BK164.out 2
   try go_wp2
   refine bodyPost_ret (results_ctt rfl _ _ gb164 24 #[.int .i64 a0_0, .int .i64 a0_1, .slice A0_2 l0_2.length c0_2] (0, 0) _ rfl (by (with_reducible repeat (first | refine blk_drewN ?_ _ | refine blk_drew ?_ | refine blk_alloc ?_ _)); refine blk_put (cs := #[.int .i64 a0_0, .int .i64 a0_1, .slice none 0 0]) ?_ 2 _ rfl; (with_reducible repeat (first | refine blk_drewN ?_ _ | refine blk_drew ?_ | refine blk_alloc ?_ _)); refine blk_put (cs := #[.int .i64 a0_0, .int .i64 0, .slice none 0 0]) ?_ 1 _ rfl; (with_reducible repeat (first | refine blk_drewN ?_ _ | refine blk_drew ?_ | refine blk_alloc ?_ _)); refine blk_put (cs := #[.int .i64 0, .int .i64 0, .slice none 0 0]) ?_ 0 _ rfl; (with_reducible repeat (first | refine blk_drewN ?_ _ | refine blk_drew ?_ | refine blk_alloc ?_ _)); exact BK164.out) Try.underlying24 rfl (by kernel_rfl)) rfl ?_
   exact ⟨_, _, by first | rfl | (simp [errW_none, errW_some] <;> rfl) | (simp [*, errW_none, errW_some] <;> rfl), by (with_reducible repeat (first | apply Kd.V_alloc | apply Kd.V_drewN | apply Kd.V_drew)); exact Kd.V_mono (Kd.V_far (p := ⟨gb164, 2, none⟩) (Kd.V_far (p := ⟨gb164, 1, none⟩) (Kd.V_far (p := ⟨gb164, 0, none⟩) (Kd.V_mono HO0_2.out (fun k_ hk => (⟨hk, hk.1.2⟩ : _ ∧ k_ ≠ gb164))) (fun _ hk => hk.2) (.int .i64 a0_0)) (fun _ hk => hk.2) (.int .i64 a0_1)) (fun _ hk => hk.2) (.slice A0_2 l0_2.length c0_2)) (fun _ hk => ⟨hk.1.1.1.1, (by simp [Value.ownBlock])⟩), by first | exact Kd.R_nil _ _ _ _ _ | exact Kd.N_nil _ _ _ _ _ | exact Kd.V_nil _ _ _ _ _ | exact Kd.Q_nil _ _ _ _ _ | exact Kd.S_nil _ _ _ _ _, by repeat (first | (with_reducible first | exact HB.out | apply below_alloc | apply pw_below_drewN | apply below_drew1 | refine below_set ?_ GE163.out | refine below_set ?_ GE164.out | refine below_set ?_ GE166.out) | exact HB.out)⟩
 ·replace c4 := Bool.eq_false_iff.mpr c4
  subst c4
  have H1 : (some (a0_0, a0_1, l0_2, ([] : List (S50)), 1)) = some (r1, r2, r3, r4, r5) := by rw [if_neg (show ¬ (false = true) by decide)] at H; exact H
  clear H
  have H := H1
  clear H1
  simp only [Option.some.injEq, Prod.mk.injEq] at H
  obtain ⟨rfl, rfl, rfl, rfl, rfl⟩ := H
  go_enter Try.func15, Try.ntmps15
  go_wp2_with (first | ((with_reducible refine gate_dst (N := 2) rfl ?_); refine box_event ?hg (N := 2) ?hd (cs := #[.int .i64 a0_0, .int .i64 a0_1, .slice A0_2 l0_2.length c0_2]) (t := 24) ?hr ?_; (case hd => rfl); (case hg => rfl); (case hr => first | (go_simp; done) | (go_simp; rfl)); intro gb163 hg w52 hbox hb; replace HO0_2 := zVe HO0_2 hg hb; have BK163 := am (hbox); have GW163 := zsz hg (zc0 HB); have GE163 := zsz hg (zc0 HB); replace HB := am (below_step (zc0 HB) hb); clear hb hbox hg) | ((with_reducible refine gate_dst (N := 4) rfl ?_); refine box_event ?hg (N := 4) ?hd (cs := #[.int .i64 0, .int .i64 0, .slice none 0 0]) (t := 24) ?hr ?_; (case hd => rfl); (case hg => rfl); (case hr => first | (go_simp; done) | (go_simp; rfl)); intro gb164 hg w53 hbox hb; replace HO0_2 := zVe HO0_2 hg hb; have BK164 := am (hbox); have GW164 := zsz hg (zc1 HB GE163); have GE164 := zsz hg (zc1 HB GE163); replace HB := am (below_step (zc1 HB GE163) hb); have NB163_164 := znt BK163 hg; have NB164_163 := zng BK163 hg; replace BK163 := zbb BK163 hb; clear hb hbox hg; have hnb54 := NB163_164.out; have hnc54 := NB164_163.out; have hcz55_0 : w53.cell? ⟨gb163, 0, none⟩ = some (.int .i64 a0_0) := (blk_cell BK163.out 0).trans rfl; have hcz55_1 : w53.cell? ⟨gb163, 1, none⟩ = some (.int .i64 a0_1) := (blk_cell BK163.out 1).trans rfl; have hcz55_2 : w53.cell? ⟨gb163, 2, none⟩ = some (.slice A0_2 l0_2.length c0_2) := (blk_cell BK163.out 2).trans rfl; have hfz55_0 := blk_frozen BK163.out 0; have hfz55_1 := blk_frozen BK163.out 1; have hfz55_2 := blk_frozen BK163.out 2) | ((with_reducible refine gate_callee (f := 19) rfl ?_); refine goesL_ (some 11) rfl rfl Try.func19 (by kernel_rfl) rfl #[.agg #[.int .i64 a0_0, .int .i64 a0_1, .slice A0_2 l0_2.length c0_2]] rfl zm ?_; (with_reducible refine (sema_Right.calls k a0_0 a0_1 _ _ l0_2 false _ ?side1 ?side2 A3.out).mono ?_); (case side1 => repeat (first | exact (Kd.V_reads' HO0_2.out).2.2 | (with_reducible refine Kd.C_alloc ?_ _) | (with_reducible refine Kd.C_drewN ?_ _) | (with_reducible refine Kd.C_drew ?_))); (case side2 => exact (Kd.V_reads' HO0_2.out).2.1); rintro e w56 ⟨rfl, hb⟩; refine ⟨_, rfl, ?_⟩; replace HO0_2 := zVb HO0_2 hb; replace BK163 := zbb BK163 hb; replace BK164 := zbb BK164 hb; replace HB := am (below_step (zc2 HB GE163 GE164) hb); (try clear hb); (try clear hb2); (try clear hk); (try clear hi); have hcz57_0 : w56.cell? ⟨gb163, 0, none⟩ = some (.int .i64 a0_0) := (blk_cell BK163.out 0).trans rfl; have hcz57_1 : w56.cell? ⟨gb163, 1, none⟩ = some (.int .i64 a0_1) := (blk_cell BK163.out 1).trans rfl; have hcz57_2 : w56.cell? ⟨gb163, 2, none⟩ = some (.slice A0_2 l0_2.length c0_2) := (blk_cell BK163.out 2).trans rfl; have hfz57_0 := blk_frozen BK163.out 0; have hfz57_1 := blk_frozen BK163.out 1; have hfz57_2 := blk_frozen BK163.out 2; have hcz58_0 : w56.cell? ⟨gb164, 0, none⟩ = some (.int .i64 0) := (blk_cell BK164.out 0).trans rfl; have hcz58_1 : w56.cell? ⟨gb164, 1, none⟩ = some (.int .i64 0) := (blk_cell BK164.out 1).trans rfl; have hcz58_2 : w56.cell? ⟨gb164, 2, none⟩ = some (.slice none 0 0) := (blk_cell BK164.out 2).trans rfl; have hfz58_0 := blk_frozen BK164.out 0; have hfz58_1 := blk_frozen BK164.out 1; have hfz58_2 := blk_frozen BK164.out 2))
  refine bodyPost_ret (results_ctt rfl _ _ gb164 24 #[.int .i64 a0_0, .int .i64 a0_1, .slice A0_2 l0_2.length c0_2] (0, 0) _ rfl (by (with_reducible repeat (first | refine blk_drewN ?_ _ | refine blk_drew ?_ | refine blk_alloc ?_ _)); refine blk_put (cs := #[.int .i64 a0_0, .int .i64 a0_1, .slice none 0 0]) ?_ 2 _ rfl; (with_reducible repeat (first | refine blk_drewN ?_ _ | refine blk_drew ?_ | refine blk_alloc ?_ _)); refine blk_put (cs := #[.int .i64 a0_0, .int .i64 0, .slice none 0 0]) ?_ 1 _ rfl; (with_reducible repeat (first | refine blk_drewN ?_ _ | refine blk_drew ?_ | refine blk_alloc ?_ _)); refine blk_put (cs := #[.int .i64 0, .int .i64 0, .slice none 0 0]) ?_ 0 _ rfl; (with_reducible repeat (first | refine blk_drewN ?_ _ | refine blk_drew ?_ | refine blk_alloc ?_ _)); exact BK164.out) Try.underlying24 rfl (by kernel_rfl)) rfl ?_
  exact ⟨_, _, by first | rfl | (simp [errW_none, errW_some] <;> rfl) | (simp [*, errW_none, errW_some] <;> rfl), by (with_reducible repeat (first | apply Kd.V_alloc | apply Kd.V_drewN | apply Kd.V_drew)); exact Kd.V_mono (Kd.V_far (p := ⟨gb164, 2, none⟩) (Kd.V_far (p := ⟨gb164, 1, none⟩) (Kd.V_far (p := ⟨gb164, 0, none⟩) (Kd.V_mono HO0_2.out (fun k_ hk => (⟨hk, hk.2⟩ : _ ∧ k_ ≠ gb164))) (fun _ hk => hk.2) (.int .i64 a0_0)) (fun _ hk => hk.2) (.int .i64 a0_1)) (fun _ hk => hk.2) (.slice A0_2 l0_2.length c0_2)) (fun _ hk => ⟨hk.1.1.1, (by simp [Value.ownBlock])⟩), by first | exact Kd.R_nil _ _ _ _ _ | exact Kd.N_nil _ _ _ _ _ | exact Kd.V_nil _ _ _ _ _ | exact Kd.Q_nil _ _ _ _ _ | exact Kd.S_nil _ _ _ _ _, by repeat (first | (with_reducible first | exact HB.out | apply below_alloc | apply pw_below_drewN | apply below_drew1 | refine below_set ?_ GE163.out | refine below_set ?_ GE164.out) | exact HB.out)⟩

/-! ### sema_New: function 17 -/
def sema_New.f (k : Nat) (a0 : Int) (a1 : Int) : Option (Int × Int × (List (S50)) × Int) := (sema_Right.f k a0 a1 ([] : List (S50))).bind fun t186 => (if t186 = true then (some (a0, a1, ([] : List (S50)), 0)) else (some (0, 0, ([] : List (S50)), 1)))
theorem sema_New.mono : ∀ a0 a1 k, LeO (sema_New.f k a0 a1) (sema_New.f (k + 1) a0 a1) := by
 intro a0 a1 k
 unfold sema_New.f
 repeat' first
   | (with_reducible exact sema_Right.mono _ _ _ _)
   | (with_reducible exact LeO.refl _)
   | (with_reducible exact LeO.none _)
   | (with_reducible refine LeO.ite ?_ ?_)
   | (with_reducible refine LeO.bind ?_ (fun _ => ?_))
   | exact sema_Right.mono _ _ _ _
   | exact LeO.none _
   | refine LeO.ite ?_ ?_
   | refine LeO.bind ?_ (fun _ => ?_)
set_option maxHeartbeats 8000000 in
set_option maxRecDepth 100000 in
theorem sema_New.calls (k : Nat) (a0 : Int) (a1 : Int) (r1 : Int) (r2 : Int) (r3 : List (S50)) (r4 : Int) (w : World) (h : sema_New.f k a0 a1 = some (r1, r2, r3, r4)) :
  Calls Try.prog 17 #[.int .i64 a0, .int .i64 a1] w fun e w' => ∃ v2_ : Value, e = .returned (.tuple #[.agg #[.int .i64 r1, .int .i64 r2, v2_], .int .i64 r4]) ∧ Kd.R k50 50 w' w.heap.size (fun _ => True) v2_ r3 ∧ Below w.heap.size w w' := by
 have hu24 := Try.underlying24
 have HB := am (Below.refl w.heap.size w)
 have H : ((sema_Right.f k a0 a1 ([] : List (S50))).bind fun t186 => (if t186 = true then (some (a0, a1, ([] : List (S50)), 0)) else (some (0, 0, ([] : List (S50)), 1)))) = some (r1, r2, r3, r4) := h
 clear h
 replace H := Option.bind_eq_some_iff.mp H
 obtain ⟨t186, A30, H⟩ := H
 try dsimp only at H
 have A3 := am A30
 clear A30
 by_cases c4 : t186 = true
 ·subst c4
  have H1 : (some (a0, a1, ([] : List (S50)), 0)) = some (r1, r2, r3, r4) := by rw [if_pos rfl] at H; exact H
  clear H
  have H := H1
  clear H1
  simp only [Option.some.injEq, Prod.mk.injEq] at H
  obtain ⟨rfl, rfl, rfl, rfl⟩ := H
  go_enter Try.func17, Try.ntmps17
  go_wp2_with (first | ((with_reducible refine gate_dst (N := 4) rfl ?_); refine box_event ?hg (N := 4) ?hd (cs := #[.int .i64 0, .int .i64 0, .slice none 0 0]) (t := 24) ?hr ?_; (case hd => rfl); (case hg => rfl); (case hr => first | (go_simp; done) | (go_simp; rfl)); intro gb184 hg w5 hbox hb; have BK184 := am (hbox); have GW184 := zsz hg (zc0 HB); have GE184 := zsz hg (zc0 HB); replace HB := am (below_step (zc0 HB) hb); clear hb hbox hg) | ((with_reducible refine gate_dst (N := 6) rfl ?_); refine box_event ?hg (N := 6) ?hd (cs := #[.int .i64 0, .int .i64 0, .slice none 0 0]) (t := 24) ?hr ?_; (case hd => rfl); (case hg => rfl); (case hr => first | (go_simp; done) | (go_simp; rfl)); intro gb185 hg w6 hbox hb; have BK185 := am (hbox); have GW185 := zsz hg (zc1 HB GE184); have GE185 := zsz hg (zc1 HB GE184); replace HB := am (below_step (zc1 HB GE184) hb); have NB184_185 := znt BK184 hg; have NB185_184 := zng BK184 hg; replace BK184 := zbb BK184 hb; clear hb hbox hg; have hnb7 := NB185_184.out; have hnc7 := NB184_185.out; have hcz8_0 : w6.cell? ⟨gb185, 0, none⟩ = some (.int .i64 0) := (blk_cell BK185.out 0).trans rfl; have hcz8_1 : w6.cell? ⟨gb185, 1, none⟩ = some (.int .i64 0) := (blk_cell BK185.out 1).trans rfl; have hcz8_2 : w6.cell? ⟨gb185, 2, none⟩ = some (.slice none 0 0) := (blk_cell BK185.out 2).trans rfl; have hfz8_0 := blk_frozen BK185.out 0; have hfz8_1 := blk_frozen BK185.out 1; have hfz8_2 := blk_frozen BK185.out 2) | ((with_reducible refine gate_callee (f := 19) rfl ?_); refine goesL_ (some 11) rfl rfl Try.func19 (by kernel_rfl) rfl #[.agg #[.int .i64 a0, .int .i64 a1, .slice none 0 0]] rfl zm ?_; (refine (sema_Right.calls k a0 a1 _ _ ([] : List (S50)) true _ ?side1 ?side2 A3.out).mono ?_); (case side1 => exact Kd.C_nil _ _); (case side2 => exact Nat.le_refl _); rintro e w9 ⟨rfl, hb⟩; refine ⟨_, rfl, ?_⟩; replace BK184 := am (blk_below (g := gb184) (o := .cells #[.int .i64 0, .int .i64 0, .slice none 0 0] 24 (0, 0)) (by (with_reducible repeat (first | refine blk_drewN ?_ _ | refine blk_drew ?_ | refine blk_alloc ?_ _)); refine blk_far ?_ NB184_185.out _; (with_reducible repeat (first | refine blk_drewN ?_ _ | refine blk_drew ?_ | refine blk_alloc ?_ _)); refine blk_far ?_ NB184_185.out _; (with_reducible repeat (first | refine blk_drewN ?_ _ | refine blk_drew ?_ | refine blk_alloc ?_ _)); refine blk_far ?_ NB184_185.out _; (with_reducible repeat (first | refine blk_drewN ?_ _ | refine blk_drew ?_ | refine blk_alloc ?_ _)); exact BK184.out) hb); replace BK185 := am (blk_below (g := gb185) (o := .cells #[.int .i64 a0, .int .i64 a1, .slice none 0 0] 24 (0, 0)) (by (with_reducible repeat (first | refine blk_drewN ?_ _ | refine blk_drew ?_ | refine blk_alloc ?_ _)); refine blk_put (cs := #[.int .i64 a0, .int .i64 a1, .slice none 0 0]) ?_ 2 _ rfl; (with_reducible repeat (first | refine blk_drewN ?_ _ | refine blk_drew ?_ | refine blk_alloc ?_ _)); refine blk_put (cs := #[.int .i64 a0, .int .i64 0, .slice none 0 0]) ?_ 1 _ rfl; (with_reducible repeat (first | refine blk_drewN ?_ _ | refine blk_drew ?_ | refine blk_alloc ?_ _)); refine blk_put (cs := #[.int .i64 0, .int .i64 0, .slice none 0 0]) ?_ 0 _ rfl; (with_reducible repeat (first | refine blk_drewN ?_ _ | refine blk_drew ?_ | refine blk_alloc ?_ _)); exact BK185.out) hb); replace HB := am (below_step (zc2 HB GE184 GE185) hb); (try clear hb); (try clear hb2); (try clear hk); (try clear hi); have hcz10_0 : w9.cell? ⟨gb185, 0, none⟩ = some (.int .i64 a0) := (blk_cell BK185.out 0).trans rfl; have hcz10_1 : w9.cell? ⟨gb185, 1, none⟩ = some (.int .i64 a1) := (blk_cell BK185.out 1).trans rfl; have hcz10_2 : w9.cell? ⟨gb185, 2, none⟩ = some (.slice none 0 0) := (blk_cell BK185.out 2).trans rfl; have hfz10_0 := blk_frozen BK185.out 0; have hfz10_1 := blk_frozen BK185.out 1; have hfz10_2 := blk_frozen BK185.out 2; have hcz11_0 : w9.cell? ⟨gb184, 0, none⟩ = some (.int .i64 0) := (blk_cell BK184.out 0).trans rfl; have hcz11_1 : w9.cell? ⟨gb184, 1, none⟩ = some (.int .i64 0) := (blk_cell BK184.out 1).trans rfl; have hcz11_2 : w9.cell? ⟨gb184, 2, none⟩ = some (.slice none 0 0) := (blk_cell BK184.out 2).trans rfl; have hfz11_0 := blk_frozen BK184.out 0; have hfz11_1 := blk_frozen BK184.out 1; have hfz11_2 := blk_frozen BK184.out 2))
  refine bodyPost_ret (results_ct rfl _ _ gb184 24 #[.int .i64 a0, .int .i64 a1, .slice none 0 0] (0, 0) _ rfl (by (with_reducible repeat (first | refine blk_drewN ?_ _ | refine blk_drew ?_ | refine blk_alloc ?_ _)); refine blk_put (cs := #[.int .i64 a0, .int .i64 a1, .slice none 0 0]) ?_ 2 _ rfl; (with_reducible repeat (first | refine blk_drewN ?_ _ | refine blk_drew ?_ | refine blk_alloc ?_ _)); refine blk_put (cs := #[.int .i64 a0, .int .i64 0, .slice none 0 0]) ?_ 1 _ rfl; (with_reducible repeat (first | refine blk_drewN ?_ _ | refine blk_drew ?_ | refine blk_alloc ?_ _)); refine blk_put (cs := #[.int .i64 0, .int .i64 0, .slice none 0 0]) ?_ 0 _ rfl; (with_reducible repeat (first | refine blk_drewN ?_ _ | refine blk_drew ?_ | refine blk_alloc ?_ _)); exact BK184.out) Try.underlying24 rfl (by kernel_rfl)) rfl ?_
  exact ⟨_, by first | rfl | (simp [errW_none, errW_some] <;> rfl) | (simp [*, errW_none, errW_some] <;> rfl), by first | exact Kd.R_nil _ _ _ _ _ | exact Kd.N_nil _ _ _ _ _ | exact Kd.V_nil _ _ _ _ _ | exact Kd.Q_nil _ _ _ _ _ | exact Kd.S_nil _ _ _ _ _, by repeat (first | (with_reducible first | exact HB.out | apply below_alloc | apply pw_below_drewN | apply below_drew1 | refine below_set ?_ GE184.out | refine below_set ?_ GE185.out) | exact HB.out)⟩
 ·replace c4 := Bool.eq_false_iff.mpr c4
  subst c4
  have H1 : (some (0, 0, ([] : List (S50)), 1)) = some (r1, r2, r3, r4) := by rw [if_neg (show ¬ (false = true) by decide)] at H; exact H
  clear H
  have H := H1
  clear H1
  simp only [Option.some.injEq, Prod.mk.injEq] at H
  obtain ⟨rfl, rfl, rfl, rfl⟩ := H
  go_enter Try.func17, Try.ntmps17
  go_wp2_with (first | ((with_reducible refine gate_dst (N := 4) rfl ?_); refine box_event ?hg (N := 4) ?hd (cs := #[.int .i64 0, .int .i64 0, .slice none 0 0]) (t := 24) ?hr ?_; (case hd => rfl); (case hg => rfl); (case hr => first | (go_simp; done) | (go_simp; rfl)); intro gb184 hg w12 hbox hb; have BK184 := am (hbox); have GW184 := zsz hg (zc0 HB); have GE184 := zsz hg (zc0 HB); replace HB := am (below_step (zc0 HB) hb); clear hb hbox hg) | ((with_reducible refine gate_dst (N := 6) rfl ?_); refine box_event ?hg (N := 6) ?hd (cs := #[.int .i64 0, .int .i64 0, .slice none 0 0]) (t := 24) ?hr ?_; (case hd => rfl); (case hg => rfl); (case hr => first | (go_simp; done) | (go_simp; rfl)); intro gb185 hg w13 hbox hb; have BK185 := am (hbox); have GW185 := zsz hg (zc1 HB GE184); have GE185 := zsz hg (zc1 HB GE184); replace HB := am (below_step (zc1 HB GE184) hb); have NB184_185 := znt BK184 hg; have NB185_184 := zng BK184 hg; replace BK184 := zbb BK184 hb; clear hb hbox hg; have hnb14 := NB185_184.out; have hnc14 := NB184_185.out; have hcz15_0 : w13.cell? ⟨gb185, 0, none⟩ = some (.int .i64 0) := (blk_cell BK185.out 0).trans rfl; have hcz15_1 : w13.cell? ⟨gb185, 1, none⟩ = some (.int .i64 0) := (blk_cell BK185.out 1).trans rfl; have hcz15_2 : w13.cell? ⟨gb185, 2, none⟩ = some (.slice none 0 0) := (blk_cell BK185.out 2).trans rfl; have hfz15_0 := blk_frozen BK185.out 0; have hfz15_1 := blk_frozen BK185.out 1; have hfz15_2 := blk_frozen BK185.out 2) | ((with_reducible refine gate_callee (f := 19) rfl ?_); refine goesL_ (some 11) rfl rfl Try.func19 (by kernel_rfl) rfl #[.agg #[.int .i64 a0, .int .i64 a1, .slice none 0 0]] rfl zm ?_; (refine (sema_Right.calls k a0 a1 _ _ ([] : List (S50)) false _ ?side1 ?side2 A3.out).mono ?_); (case side1 => exact Kd.C_nil _ _); (case side2 => exact Nat.le_refl _); rintro e w16 ⟨rfl, hb⟩; refine ⟨_, rfl, ?_⟩; replace BK184 := am (blk_below (g := gb184) (o := .cells #[.int .i64 0, .int .i64 0, .slice none 0 0] 24 (0, 0)) (by (with_reducible repeat (first | refine blk_drewN ?_ _ | refine blk_drew ?_ | refine blk_alloc ?_ _)); refine blk_far ?_ NB184_185.out _; (with_reducible repeat (first | refine blk_drewN ?_ _ | refine blk_drew ?_ | refine blk_alloc ?_ _)); refine blk_far ?_ NB184_185.out _; (with_reducible repeat (first | refine blk_drewN ?_ _ | refine blk_drew ?_ | refine blk_alloc ?_ _)); refine blk_far ?_ NB184_185.out _; (with_reducible repeat (first | refine blk_drewN ?_ _ | refine blk_drew ?_ | refine blk_alloc ?_ _)); exact BK184.out) hb); replace BK185 := am (blk_below (g := gb185) (o := .cells #[.int .i64 a0, .int .i64 a1, .slice none 0 0] 24 (0, 0)) (by (with_reducible repeat (first | refine blk_drewN ?_ _ | refine blk_drew ?_ | refine blk_alloc ?_ _)); refine blk_put (cs := #[.int .i64 a0, .int .i64 a1, .slice none 0 0]) ?_ 2 _ rfl; (with_reducible repeat (first | refine blk_drewN ?_ _ | refine blk_drew ?_ | refine blk_alloc ?_ _)); refine blk_put (cs := #[.int .i64 a0, .int .i64 0, .slice none 0 0]) ?_ 1 _ rfl; (with_reducible repeat (first | refine blk_drewN ?_ _ | refine blk_drew ?_ | refine blk_alloc ?_ _)); refine blk_put (cs := #[.int .i64 0, .int .i64 0, .slice none 0 0]) ?_ 0 _ rfl; (with_reducible repeat (first | refine blk_drewN ?_ _ | refine blk_drew ?_ | refine blk_alloc ?_ _)); exact BK185.out) hb); replace HB := am (below_step (zc2 HB GE184 GE185) hb); (try clear hb); (try clear hb2); (try clear hk); (try clear hi); have hcz17_0 : w16.cell? ⟨gb184, 0, none⟩ = some (.int .i64 0) := (blk_cell BK184.out 0).trans rfl; have hcz17_1 : w16.cell? ⟨gb184, 1, none⟩ = some (.int .i64 0) := (blk_cell BK184.out 1).trans rfl; have hcz17_2 : w16.cell? ⟨gb184, 2, none⟩ = some (.slice none 0 0) := (blk_cell BK184.out 2).trans rfl; have hfz17_0 := blk_frozen BK184.out 0; have hfz17_1 := blk_frozen BK184.out 1; have hfz17_2 := blk_frozen BK184.out 2))
  refine bodyPost_ret (results_ct rfl _ _ gb184 24 #[.int .i64 0, .int .i64 0, .slice none 0 0] (0, 0) _ rfl (by (with_reducible repeat (first | refine blk_drewN ?_ _ | refine blk_drew ?_ | refine blk_alloc ?_ _)); refine blk_put (cs := #[.int .i64 0, .int .i64 0, .slice none 0 0]) ?_ 2 _ rfl; (with_reducible repeat (first | refine blk_drewN ?_ _ | refine blk_drew ?_ | refine blk_alloc ?_ _)); refine blk_put (cs := #[.int .i64 0, .int .i64 0, .slice none 0 0]) ?_ 1 _ rfl; (with_reducible repeat (first | refine blk_drewN ?_ _ | refine blk_drew ?_ | refine blk_alloc ?_ _)); refine blk_put (cs := #[.int .i64 0, .int .i64 0, .slice none 0 0]) ?_ 0 _ rfl; (with_reducible repeat (first | refine blk_drewN ?_ _ | refine blk_drew ?_ | refine blk_alloc ?_ _)); exact BK184.out) Try.underlying24 rfl (by kernel_rfl)) rfl ?_
  exact ⟨_, by first | rfl | (simp [errW_none, errW_some] <;> rfl) | (simp [*, errW_none, errW_some] <;> rfl), by first | exact Kd.R_nil _ _ _ _ _ | exact Kd.N_nil _ _ _ _ _ | exact Kd.V_nil _ _ _ _ _ | exact Kd.Q_nil _ _ _ _ _ | exact Kd.S_nil _ _ _ _ _, by repeat (first | (with_reducible first | exact HB.out | apply below_alloc | apply pw_below_drewN | apply below_drew1 | refine below_set ?_ GE184.out | refine below_set ?_ GE185.out) | exact HB.out)⟩

end Go.Proofs.Ythbcajkphkdnmaa.PSemaTells
