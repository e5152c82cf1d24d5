/- Lean functions that say what functions of the given program compute, and proofs by walking the code that each call does just that; no condition but those that each statement names. -/
import Derived.Test.YthbcajkphkdnmaaPSemaTellsx0
namespace Go.Proofs.Ythbcajkphkdnmaa.PSemaTells
open Go.RowKit Go.Proofs.YthbcajkphkdnmaaW.PrintWords Go.Proofs.YthbcajkphkdnmaaW.PrintLast Go.Proofs.YthbcajkphkdnmaaW.PrintMore
attribute [local go_sem] max2_int min2_int max_two min_two max_three min_three max_four min_four   -- for this text's walks alone
set_option linter.unusedVariables false
set_option linter.unusedSimpArgs false

/-! ### sema_Sema_may: function 23 -/
def sema_Sema_may.f (a0_0 : Int) (a0_1 : Int) (l0_2 : List (S50)) (a1_0 : Int) (a1_1 : Int) : Option (Bool) := if a1_0 ≥ 1 then (if a1_0 ≤ 8 then (if a1_1 ≥ 1 then (some (decide (a1_1 ≤ a0_0))) else (some false)) else (some false)) else (some false)
set_option maxHeartbeats 8000000 in
set_option maxRecDepth 100000 in
theorem sema_Sema_may.calls (a0_0 : Int) (a0_1 : Int) (A0_2 : Option Addr) (c0_2 : Nat) (l0_2 : List (S50)) (a1_0 : Int) (a1_1 : Int) (r : Bool) (w : World) (hr0_2 : Kd.C k50 w A0_2 l0_2.length l0_2) (hc0_2 : l0_2.length ≤ c0_2) (h : sema_Sema_may.f a0_0 a0_1 l0_2 a1_0 a1_1 = some r) :
  Calls Try.prog 23 #[.agg #[.int .i64 a0_0, .int .i64 a0_1, .slice A0_2 l0_2.length c0_2], .agg #[.int .i64 a1_0, .int .i64 a1_1]] w fun e w' => e = .returned (.bool r) ∧ Below w.heap.size w w' := by
 have hu24 := Try.underlying24
 have hu50 := Try.underlying50
 have HR0_2 := am hr0_2
 have HC0_2 := am hc0_2
 clear hr0_2 hc0_2
 have HB := am (Below.refl w.heap.size w)
 have H : (if a1_0 ≥ 1 then (if a1_0 ≤ 8 then (if a1_1 ≥ 1 then (some (decide (a1_1 ≤ a0_0))) else (some false)) else (some false)) else (some false)) = some r := h
 clear h
 by_cases c3 : a1_0 ≥ 1
 ·rw [if_pos c3] at H
  have c3b0 : decide (1 ≤ a1_0) = true := decide_eq_true c3
  clear c3
  by_cases c4 : a1_0 ≤ 8
  ·rw [if_pos c4] at H
   have c4b0 : decide (a1_0 ≤ 8) = true := decide_eq_true c4
   clear c4
   by_cases c5 : a1_1 ≥ 1
   ·rw [if_pos c5] at H
    have c5b0 : decide (1 ≤ a1_1) = true := decide_eq_true c5
    clear c5
    obtain rfl := Option.some.inj H
    go_enter Try.func23, Try.ntmps23
    go_wp2_with (first | ((with_reducible refine gate_dst (N := 2) rfl ?_); refine box_event ?hg (N := 2) ?hd (cs := #[.int .i64 a0_0, .int .i64 a0_1, .slice A0_2 l0_2.length c0_2]) (t := 24) ?hr ?_; (case hd => rfl); (case hg => rfl); (case hr => first | (go_simp; done) | (go_simp; rfl)); intro gb101 hg w6 hbox hb; have BK101 := am (hbox); have GW101 := zsz hg (zc0 HB); have GE101 := zsz hg (zc0 HB); replace HB := am (below_step (zc0 HB) hb); clear hb hbox hg) | ((with_reducible refine gate_dst (N := 3) rfl ?_); refine box_event ?hg (N := 3) ?hd (cs := #[.int .i64 a1_0, .int .i64 a1_1]) (t := 50) ?hr ?_; (case hd => rfl); (case hg => rfl); (case hr => first | (go_simp; done) | (go_simp; rfl)); intro gb102 hg w7 hbox hb; have BK102 := am (hbox); have GW102 := zsz hg (zc1 HB GE101); have GE102 := zsz hg (zc1 HB GE101); replace HB := am (below_step (zc1 HB GE101) hb); have NB101_102 := znt BK101 hg; have NB102_101 := zng BK101 hg; replace BK101 := zbb BK101 hb; clear hb hbox hg; have hnb8 := NB102_101.out; have hnc8 := NB101_102.out; have hcz9_0 : w7.cell? ⟨gb102, 0, none⟩ = some (.int .i64 a1_0) := (blk_cell BK102.out 0).trans rfl; have hcz9_1 : w7.cell? ⟨gb102, 1, none⟩ = some (.int .i64 a1_1) := (blk_cell BK102.out 1).trans rfl; have hfz9_0 := blk_frozen BK102.out 0; have hfz9_1 := blk_frozen BK102.out 1; have hcz10_0 : w7.cell? ⟨gb101, 0, none⟩ = some (.int .i64 a0_0) := (blk_cell BK101.out 0).trans rfl; have hcz10_1 : w7.cell? ⟨gb101, 1, none⟩ = some (.int .i64 a0_1) := (blk_cell BK101.out 1).trans rfl; have hcz10_2 : w7.cell? ⟨gb101, 2, none⟩ = some (.slice A0_2 l0_2.length c0_2) := (blk_cell BK101.out 2).trans rfl; have hfz10_0 := blk_frozen BK101.out 0; have hfz10_1 := blk_frozen BK101.out 1; have hfz10_2 := blk_frozen BK101.out 2))
    go_ret
    exact ⟨by first | rfl | (simp [errW_none, errW_some] <;> rfl) | (simp [*, errW_none, errW_some] <;> rfl), by repeat (first | (with_reducible first | exact HB.out | apply below_alloc | apply pw_below_drewN | apply below_drew1 | refine below_set ?_ GE101.out | refine below_set ?_ GE102.out) | exact HB.out)⟩
   ·rw [if_neg c5] at H
    have c5b0 : decide (1 ≤ a1_1) = false := decide_eq_false c5
    clear c5
    obtain rfl := Option.some.inj H
    go_enter Try.func23, Try.ntmps23
    go_wp2_with (first | ((with_reducible refine gate_dst (N := 2) rfl ?_); refine box_event ?hg (N := 2) ?hd (cs := #[.int .i64 a0_0, .int .i64 a0_1, .slice A0_2 l0_2.length c0_2]) (t := 24) ?hr ?_; (case hd => rfl); (case hg => rfl); (case hr => first | (go_simp; done) | (go_simp; rfl)); intro gb101 hg w11 hbox hb; have BK101 := am (hbox); have GW101 := zsz hg (zc0 HB); have GE101 := zsz hg (zc0 HB); replace HB := am (below_step (zc0 HB) hb); clear hb hbox hg) | ((with_reducible refine gate_dst (N := 3) rfl ?_); refine box_event ?hg (N := 3) ?hd (cs := #[.int .i64 a1_0, .int .i64 a1_1]) (t := 50) ?hr ?_; (case hd => rfl); (case hg => rfl); (case hr => first | (go_simp; done) | (go_simp; rfl)); intro gb102 hg w12 hbox hb; have BK102 := am (hbox); have GW102 := zsz hg (zc1 HB GE101); have GE102 := zsz hg (zc1 HB GE101); replace HB := am (below_step (zc1 HB GE101) hb); have NB101_102 := znt BK101 hg; have NB102_101 := zng BK101 hg; replace BK101 := zbb BK101 hb; clear hb hbox hg; have hnb13 := NB102_101.out; have hnc13 := NB101_102.out; have hcz14_0 : w12.cell? ⟨gb102, 0, none⟩ = some (.int .i64 a1_0) := (blk_cell BK102.out 0).trans rfl; have hcz14_1 : w12.cell? ⟨gb102, 1, none⟩ = some (.int .i64 a1_1) := (blk_cell BK102.out 1).trans rfl; have hfz14_0 := blk_frozen BK102.out 0; have hfz14_1 := blk_frozen BK102.out 1))
    go_ret
    exact ⟨by first | rfl | (simp [errW_none, errW_some] <;> rfl) | (simp [*, errW_none, errW_some] <;> rfl), by repeat (first | (with_reducible first | exact HB.out | apply below_alloc | apply pw_below_drewN | apply below_drew1 | refine below_set ?_ GE101.out | refine below_set ?_ GE102.out) | exact HB.out)⟩
  ·rw [if_neg c4] at H
   have c4b0 : decide (a1_0 ≤ 8) = false := decide_eq_false c4
   clear c4
   obtain rfl := Option.some.inj H
   go_enter Try.func23, Try.ntmps23
   go_wp2_with (first | ((with_reducible refine gate_dst (N := 2) rfl ?_); refine box_event ?hg (N := 2) ?hd (cs := #[.int .i64 a0_0, .int .i64 a0_1, .slice A0_2 l0_2.length c0_2]) (t := 24) ?hr ?_; (case hd => rfl); (case hg => rfl); (case hr => first | (go_simp; done) | (go_simp; rfl)); intro gb101 hg w15 hbox hb; have BK101 := am (hbox); have GW101 := zsz hg (zc0 HB); have GE101 := zsz hg (zc0 HB); replace HB := am (below_step (zc0 HB) hb); clear hb hbox hg) | ((with_reducible refine gate_dst (N := 3) rfl ?_); refine box_event ?hg (N := 3) ?hd (cs := #[.int .i64 a1_0, .int .i64 a1_1]) (t := 50) ?hr ?_; (case hd => rfl); (case hg => rfl); (case hr => first | (go_simp; done) | (go_simp; rfl)); intro gb102 hg w16 hbox hb; have BK102 := am (hbox); have GW102 := zsz hg (zc1 HB GE101); have GE102 := zsz hg (zc1 HB GE101); replace HB := am (below_step (zc1 HB GE101) hb); have NB101_102 := znt BK101 hg; have NB102_101 := zng BK101 hg; replace BK101 := zbb BK101 hb; clear hb hbox hg; have hnb17 := NB102_101.out; have hnc17 := NB101_102.out; have hcz18_0 : w16.cell? ⟨gb102, 0, none⟩ = some (.int .i64 a1_0) := (blk_cell BK102.out 0).trans rfl; have hcz18_1 : w16.cell? ⟨gb102, 1, none⟩ = some (.int .i64 a1_1) := (blk_cell BK102.out 1).trans rfl; have hfz18_0 := blk_frozen BK102.out 0; have hfz18_1 := blk_frozen BK102.out 1))
   go_ret
   exact ⟨by first | rfl | (simp [errW_none, errW_some] <;> rfl) | (simp [*, errW_none, errW_some] <;> rfl), by repeat (first | (with_reducible first | exact HB.out | apply below_alloc | apply pw_below_drewN | apply below_drew1 | refine below_set ?_ GE101.out | refine below_set ?_ GE102.out) | exact HB.out)⟩
 ·rw [if_neg c3] at H
  have c3b0 : decide (1 ≤ a1_0) = false := decide_eq_false c3
  clear c3
  obtain rfl := Option.some.inj H
  go_enter Try.func23, Try.ntmps23
  go_wp2_with (first | ((with_reducible refine gate_dst (N := 2) rfl ?_); refine box_event ?hg (N := 2) ?hd (cs := #[.int .i64 a0_0, .int .i64 a0_1, .slice A0_2 l0_2.length c0_2]) (t := 24) ?hr ?_; (case hd => rfl); (case hg => rfl); (case hr => first | (go_simp; done) | (go_simp; rfl)); intro gb101 hg w19 hbox hb; have BK101 := am (hbox); have GW101 := zsz hg (zc0 HB); have GE101 := zsz hg (zc0 HB); replace HB := am (below_step (zc0 HB) hb); clear hb hbox hg) | ((with_reducible refine gate_dst (N := 3) rfl ?_); refine box_event ?hg (N := 3) ?hd (cs := #[.int .i64 a1_0, .int .i64 a1_1]) (t := 50) ?hr ?_; (case hd => rfl); (case hg => rfl); (case hr => first | (go_simp; done) | (go_simp; rfl)); intro gb102 hg w20 hbox hb; have BK102 := am (hbox); have GW102 := zsz hg (zc1 HB GE101); have GE102 := zsz hg (zc1 HB GE101); replace HB := am (below_step (zc1 HB GE101) hb); have NB101_102 := znt BK101 hg; have NB102_101 := zng BK101 hg; replace BK101 := zbb BK101 hb; clear hb hbox hg; have hnb21 := NB102_101.out; have hnc21 := NB101_102.out; have hcz22_0 : w20.cell? ⟨gb102, 0, none⟩ = some (.int .i64 a1_0) := (blk_cell BK102.out 0).trans rfl; have hcz22_1 : w20.cell? ⟨gb102, 1, none⟩ = some (.int .i64 a1_1) := (blk_cell BK102.out 1).trans rfl; have hfz22_0 := blk_frozen BK102.out 0; have hfz22_1 := blk_frozen BK102.out 1))
  go_ret
  exact ⟨by first | rfl | (simp [errW_none, errW_some] <;> rfl) | (simp [*, errW_none, errW_some] <;> rfl), by repeat (first | (with_reducible first | exact HB.out | apply below_alloc | apply pw_below_drewN | apply below_drew1 | refine below_set ?_ GE101.out | refine below_set ?_ GE102.out) | exact HB.out)⟩

/-! ### sema_is: function 25 (by hand) -/
set_option maxHeartbeats 8000000 in
set_option maxRecDepth 100000 in
theorem sema_is.calls (a0 : Int) (w : World) :
    Calls Try.prog 25 #[.int .i64 a0] w fun e w' => ∃ g, g = w.heap.size ∧ e = .returned (.func (.func 33) #[] #[.pointer (some ⟨g, 0, none⟩)]) ∧ w'.heap[g]? = some (.cells #[.int .i64 a0] 3 (0, 0)) ∧ Below w.heap.size w w' := by
  go_enter Try.func25, Try.ntmps25
  go_wp2_with ((with_reducible refine gate_dst (N := 1) rfl ?_); refine box_event ?hg (N := 1) ?hd (cs := #[.int .i64 a0]) (t := 3) ?hr ?_; (case hd => rfl); (case hg => rfl); (case hr => first | (go_simp; done) | (go_simp; rfl)); intro gb hg w3 hbox hb)
  go_ret
  exact ⟨gb, hg, by rw [hg]; rfl, hbox, hb⟩

-- NOT PRINTED: function 32 (sema_Ask_32)

/-! ### sema_is_1: function 33 (by hand) -/
def sema_is_1.p (q0 : Int) (x : S50) : Bool := x.f0 == q0
set_option maxHeartbeats 8000000 in
set_option maxRecDepth 100000 in
theorem sema_is_1.calls (x : S50) (g : Nat) (q0 : Int) (w : World) (hb : w.heap[g]? = some (.cells #[.int .i64 q0] 3 (0, 0))) :
    Calls Try.prog 33 #[.agg #[.int .i64 x.f0, .int .i64 x.f1], .pointer (some ⟨g, 0, none⟩)] w fun e w' => e = .returned (.bool (sema_is_1.p q0 x)) ∧ Below w.heap.size w w' := by
  have hlt : g < w.heap.size := blk_lt hb
  have hc0 := blk_cell hb 0
  have hf0 := blk_frozen hb 0
  clear hb
  go_enter Try.func33, Try.ntmps33
  go_wp2
  go_ret
  exact ⟨rfl, (Below.refl _ _).alloc (Nat.le_refl _) _⟩

/-! ### idx_sema_is_1: function 32 over 33 (by hand) -/
def idx_sema_is_1.f (l0 : List (S50)) (q0 : Int) : Option (Int) := some (Go.Proofs.YthbcajkphkdnmaaG.idxBy (sema_is_1.p q0) l0)
set_option maxHeartbeats 8000000 in
set_option maxRecDepth 100000 in
theorem idx_sema_is_1.calls (A0 : Option Addr) (c0 : Nat) (l0 : List (S50)) (g : Nat) (q0 : Int) (r : Int) (w : World) (hr0 : Kd.C k50 w A0 l0.length l0) (hc0 : l0.length ≤ c0) (hb0 : w.heap[g]? = some (.cells #[.int .i64 q0] 3 (0, 0))) (h : idx_sema_is_1.f l0 q0 = some r) :
    Calls Try.prog 32 #[.slice A0 l0.length c0, .func (.func 33) #[] #[.pointer (some ⟨g, 0, none⟩)]] w fun e w' => e = .returned (.int .i64 r) ∧ Below w.heap.size w w' := by
  obtain rfl := Option.some.inj h
  clear h
  have HR := am hr0
  have HM := am hr0.2.1
  have HC := am hc0
  have HBX := am hb0
  clear hr0 hc0 hb0
  have hm := HM.out
  go_enter Try.func32, Try.ntmps32
  go_wp2
  go_loopw [8] (fun v8 wr => ∃ j : Nat, v8 = .int .i64 (j : Int) ∧ j ≤ l0.length ∧ Aside0 (∀ (i : Nat) (y : S50), i < j → l0[i]? = some y → sema_is_1.p q0 y = false) ∧ Aside0 (Below w.heap.size w wr)) (fun v8 _ => (l0.length - (intOf v8).toNat))
  case atStart => exact ⟨0, rfl, Nat.zero_le _, ⟨fun i y hi => absurd hi (by omega)⟩, ⟨Below.refl _ _⟩⟩
  case round =>
    obtain ⟨j, rfl, hj, HN, HB⟩ := hrel
    by_cases hlt : j < l0.length
    · obtain ⟨ad, e, h0, h1⟩ := at_T50 HR.out (j : Int) (by omega) (by omega)
      cases e
      simp only [Int.toNat_natCast] at h0 h1
      have hx : l0[j]? = some (rd_T50 l0 (j : Int)) := by
        unfold rd_T50
        rw [Int.toNat_natCast, List.getD_eq_getElem?_getD, List.getElem?_eq_getElem hlt]
        rfl
      have HX := am hx
      clear hx
      replace h0 := pw_cell_below HB.out h0
      replace h1 := pw_cell_below HB.out h1
      have hbx := am (blk_below HBX.out HB.out)
      have hq0_ : (0 : Int) ≤ (j : Int) := by omega
      by_cases hp : sema_is_1.p q0 (rd_T50 l0 (j : Int)) = true
      · go_wp2_with (go_at_call 33; (with_reducible refine (sema_is_1.calls (rd_T50 l0 (j : Int)) g q0 _ ?side1).mono ?_); (case side1 => first | exact hbx.out | exact blk_drewN hbx.out _ | exact blk_drew hbx.out); rintro e w2 ⟨rfl, hb⟩; have HB2 := am hb; clear hb)
        go_ret
        exact ⟨by rw [Go.Proofs.YthbcajkphkdnmaaG.idxBy_some HX.out hp HN.out]; rfl, below_step HB.out HB2.out⟩
      · have hpf : sema_is_1.p q0 (rd_T50 l0 (j : Int)) = false := by simpa using hp
        clear hp
        go_wp2_with (go_at_call 33; (with_reducible refine (sema_is_1.calls (rd_T50 l0 (j : Int)) g q0 _ ?side1).mono ?_); (case side1 => first | exact hbx.out | exact blk_drewN hbx.out _ | exact blk_drew hbx.out); rintro e w2 ⟨rfl, hb⟩; have HB2 := am hb; clear hb)
        go_roundw
        case rel => exact ⟨j + 1, by go_num, by omega, ⟨fun i y hi hy => by
          rcases Nat.lt_succ_iff_lt_or_eq.1 hi with h | h
          · exact HN.out i y h hy
          · subst h; rw [HX.out] at hy; injection hy with hy; rw [← hy]; exact hpf⟩, ⟨below_step HB.out HB2.out⟩⟩
        case measure => simp [intOf]; omega
    · have hjl : j = l0.length := by omega
      subst hjl
      go_wp2
      go_ret
      exact ⟨by rw [Go.Proofs.YthbcajkphkdnmaaG.idxBy_none (fun i x hx => HN.out i x (List.getElem?_eq_some_iff.1 hx).1 hx)]; rfl, HB.out⟩

end Go.Proofs.Ythbcajkphkdnmaa.PSemaTells
