/- Lean functions that say what functions of the given program compute, and proofs by walking the code that each call does just that; no condition but those that each statement names. -/
import Derived.Test.YtllmfahkiabkcaaPCondKeepsx0
import Derived.Test.YtllmfahkiabkcaaPCondKeepsx1
namespace Go.Proofs.Ytllmfahkiabkcaa.PCondKeeps
open Go.RowKit Go.Proofs.YtllmfahkiabkcaaW.PrintWords Go.Proofs.YtllmfahkiabkcaaW.PrintLast Go.Proofs.YtllmfahkiabkcaaW.PrintMore
attribute [local go_sem] max2_int min2_int max_two min_two max_three min_three max_four min_four   -- for this text's walks alone
set_option linter.unusedVariables false
set_option linter.unusedSimpArgs false

/-! ### cond_Signal: function 13 -/
def cond_Signal.f (k : Nat) (l0_0 : List Int) (l0_1 : List Int) (a1 : Int) : Option (List Int × List Int × List Int) := (cond_Right.f k l0_0 l0_1).bind fun t127 => (if t127 = true then (if 0 ≤ (mx 0 (mn a1 (l0_0.length : Int))) then (if (mx 0 (mn a1 (l0_0.length : Int))) ≤ (l0_0.length : Int) then ((some (l0_0.take ((mx 0 (mn a1 (l0_0.length : Int))) : Int).toNat : List Int)).bind fun y128 => ((slices_Concat_int_int.f (([l0_1, y128] : List (List Int)))).bind fun t141 => (some ((l0_0.drop ((mx 0 (mn a1 (l0_0.length : Int))) : Int).toNat), t141, y128)))) else (none)) else (none)) else (some (l0_0, l0_1, ([] : List Int))))
theorem cond_Signal.mono : ∀ a0 a1 a2 k, LeO (cond_Signal.f k a0 a1 a2) (cond_Signal.f (k + 1) a0 a1 a2) := by
 intro a0 a1 a2 k
 unfold cond_Signal.f
 repeat' first
   | (with_reducible exact cond_Right.mono _ _ _)
   | (with_reducible exact LeO.refl _)
   | (with_reducible exact LeO.none _)
   | (with_reducible refine LeO.ite ?_ ?_)
   | (with_reducible refine LeO.bind ?_ (fun _ => ?_))
   | exact cond_Right.mono _ _ _
   | exact LeO.none _
   | refine LeO.ite ?_ ?_
   | refine LeO.bind ?_ (fun _ => ?_)
def cond_Signal.T5 : Bool × List (List Nat × List Nat) := (true, [([], []), ([0], [0]), ([], []), ([1, 2], [1, 2]), ([], []), ([4], [4]), ([], []), ([5, 6], [5, 6]), ([7], [7]), ([3, 8], [3, 8]), ([], []), ([9, 8, 0, 1, 2, 3, 4, 5, 6, 7, 8, 9], [9]), ([10, 11, 0, 1, 2, 3, 4, 5, 6, 7, 8, 9, 10, 11], [10])])
def cond_Signal.B5 : List Nat := [0, 1, 0, 7, 0, 16, 0, 112, 240, 511, 0, 1023, 4095]
theorem cond_Signal.tab5 : rtab .any (opsOf Try.f13 5) = cond_Signal.T5 := by kernel_rfl
theorem cond_Signal.bits5 : waitsOk cond_Signal.T5.2 cond_Signal.B5 = true := by kernel_rfl
set_option maxHeartbeats 8000000 in
set_option maxRecDepth 100000 in
theorem cond_Signal.calls (k : Nat) (P0_0_ : Nat → Prop) (A0_0 : Option Addr) (c0_0 : Nat) (l0_0 : List Int) (P0_1_ : Nat → Prop) (A0_1 : Option Addr) (c0_1 : Nat) (l0_1 : List Int) (a1 : Int) (r1 : List Int) (r2 : List Int) (r3 : List Int) (w : World) (hs0_0 : Kd.V (Kd.int .i64) 3 w w.heap.size (fun k_ => P0_0_ k_) (.slice A0_0 l0_0.length c0_0) l0_0) (hs0_1 : Kd.V (Kd.int .i64) 3 w w.heap.size (fun k_ => P0_1_ k_) (.slice A0_1 l0_1.length c0_1) l0_1) (h : cond_Signal.f k l0_0 l0_1 a1 = some (r1, r2, r3)) :
  Calls Try.prog 13 #[.agg #[.slice A0_0 l0_0.length c0_0, .slice A0_1 l0_1.length c0_1], .int .i64 a1] w fun e w' => ∃ v0_ v1_ v2_ : Value, e = .returned (.tuple #[.agg #[v0_, v1_], v2_]) ∧ Kd.V (Kd.int .i64) 3 w' w.heap.size (fun k_ => ((P0_0_ k_ ∨ P0_1_ k_) ∨ w.heap.size ≤ k_)) v0_ r1 ∧ Kd.V (Kd.int .i64) 3 w' w.heap.size (fun k_ => ((P0_0_ k_ ∨ P0_1_ k_) ∨ w.heap.size ≤ k_)) v1_ r2 ∧ Kd.V (Kd.int .i64) 3 w' w.heap.size (fun k_ => ((P0_0_ k_ ∨ P0_1_ k_) ∨ w.heap.size ≤ k_)) v2_ r3 ∧ Below w.heap.size w w' := by
 have hu24 := Try.underlying24
 have HO0_0 := Aside0.mk (show Kd.V (Kd.int .i64) 3 w w.heap.size (fun k_ => ((P0_0_ k_ ∨ P0_1_ k_) ∨ w.heap.size ≤ k_)) (.slice A0_0 l0_0.length c0_0) l0_0 from Kd.V_mono hs0_0 (fun k_ hk => .inl (.inl hk)))
 have HO0_1 := Aside0.mk (show Kd.V (Kd.int .i64) 3 w w.heap.size (fun k_ => ((P0_0_ k_ ∨ P0_1_ k_) ∨ w.heap.size ≤ k_)) (.slice A0_1 l0_1.length c0_1) l0_1 from Kd.V_mono hs0_1 (fun k_ hk => .inl (.inr hk)))
 have HB := Aside0.mk (Below.refl w.heap.size w)
 have H : ((cond_Right.f k l0_0 l0_1).bind fun t127 => (if t127 = true then (if 0 ≤ (mx 0 (mn a1 (l0_0.length : Int))) then (if (mx 0 (mn a1 (l0_0.length : Int))) ≤ (l0_0.length : Int) then ((some (l0_0.take ((mx 0 (mn a1 (l0_0.length : Int))) : Int).toNat : List Int)).bind fun y128 => ((slices_Concat_int_int.f (([l0_1, y128] : List (List Int)))).bind fun t141 => (some ((l0_0.drop ((mx 0 (mn a1 (l0_0.length : Int))) : Int).toNat), t141, y128)))) else (none)) else (none)) else (some (l0_0, l0_1, ([] : List Int))))) = some (r1, r2, r3) := h
 clear h
 replace H := Option.bind_eq_some_iff.mp H
 obtain ⟨t127, A30, H⟩ := H
 replace H : (if t127 = true then (if 0 ≤ (mx 0 (mn a1 (l0_0.length : Int))) then (if (mx 0 (mn a1 (l0_0.length : Int))) ≤ (l0_0.length : Int) then ((some (l0_0.take ((mx 0 (mn a1 (l0_0.length : Int))) : Int).toNat : List Int)).bind fun y128 => ((slices_Concat_int_int.f (([l0_1, y128] : List (List Int)))).bind fun t141 => (some ((l0_0.drop ((mx 0 (mn a1 (l0_0.length : Int))) : Int).toNat), t141, y128)))) else (none)) else (none)) else (some (l0_0, l0_1, ([] : List Int)))) = some (r1, r2, r3) := H
 have A3 := Aside0.mk A30
 clear A30
 by_cases c4 : t127 = true
 ·subst c4
  have H1 : (if 0 ≤ (mx 0 (mn a1 (l0_0.length : Int))) then (if (mx 0 (mn a1 (l0_0.length : Int))) ≤ (l0_0.length : Int) then ((some (l0_0.take ((mx 0 (mn a1 (l0_0.length : Int))) : Int).toNat : List Int)).bind fun y128 => ((slices_Concat_int_int.f (([l0_1, y128] : List (List Int)))).bind fun t141 => (some ((l0_0.drop ((mx 0 (mn a1 (l0_0.length : Int))) : Int).toNat), t141, y128)))) else (none)) else (none)) = some (r1, r2, r3) := by rw [if_pos rfl] at H; exact H
  clear H
  have H := H1
  clear H1
  obtain ⟨ji5, hji5⟩ : ∃ j_ : Int, (mn a1 (l0_0.length : Int)) = j_ := ⟨_, rfl⟩
  replace H : (if 0 ≤ (mx 0 (ji5)) then (if (mx 0 (ji5)) ≤ (l0_0.length : Int) then ((some (l0_0.take ((mx 0 (ji5)) : Int).toNat : List Int)).bind fun y128 => ((slices_Concat_int_int.f (([l0_1, y128] : List (List Int)))).bind fun t141 => (some ((l0_0.drop ((mx 0 (ji5)) : Int).toNat), t141, y128)))) else (none)) else (none)) = some (r1, r2, r3) := by first | (rw [hji5] at H; exact H) | (simp only [hji5] at H ⊢; exact H)
  (try rw [hji5] at A3)
  have hji5_ : (if (l0_0.length : Int) < a1 then (l0_0.length : Int) else a1) = ji5 := hji5
  obtain ⟨ji6, hji6⟩ : ∃ j_ : Int, (mx 0 (ji5)) = j_ := ⟨_, rfl⟩
  replace H : (if 0 ≤ (ji6) then (if (ji6) ≤ (l0_0.length : Int) then ((some (l0_0.take ((ji6) : Int).toNat : List Int)).bind fun y128 => ((slices_Concat_int_int.f (([l0_1, y128] : List (List Int)))).bind fun t141 => (some ((l0_0.drop ((ji6) : Int).toNat), t141, y128)))) else (none)) else (none)) = some (r1, r2, r3) := by first | (rw [hji6] at H; exact H) | (simp only [hji6] at H ⊢; exact H)
  (try rw [hji6] at A3)
  have hji6_ : (if 0 < (ji5) then (ji5) else 0) = ji6 := hji6
  by_cases c7 : 0 ≤ (ji6)
  ·rw [if_pos c7] at H
   have c7b0 := eq_true c7
   have c7b1 : decide (0 ≤ (ji6)) = true := decide_eq_true c7
   clear c7
   by_cases c8 : (ji6) ≤ (l0_0.length : Int)
   ·rw [if_pos c8] at H
    have c8b0 := eq_true c8
    have c8b1 : decide ((ji6) ≤ (l0_0.length : Int)) = true := decide_eq_true c8
    clear c8
    obtain ⟨y128, hy128⟩ : ∃ y_ : List Int, y_ = (l0_0.take ((ji6) : Int).toNat) := ⟨_, rfl⟩
    replace H : ((slices_Concat_int_int.f (([l0_1, y128] : List (List Int)))).bind fun t141 => (some ((l0_0.drop ((ji6) : Int).toNat), t141, y128))) = some (r1, r2, r3) := by first | (rw [hy128]; with_reducible exact H) | (have H2_ := (Option.bind_some _ _).symm.trans H; rw [hy128]; with_reducible exact H2_) | (have H2_ := (Option.bind_some _ _).symm.trans H; with_reducible exact H2_) | with_reducible exact H | (rw [hy128]; exact H) | exact H
    have Ny128 := Aside0.mk hy128
    clear hy128
    have c9b0 := eq_true (of_decide_eq_true (by first | (with_reducible assumption) | assumption) : 0 ≤ (ji6))
    have c10b0 := eq_true (of_decide_eq_true (by first | (with_reducible assumption) | assumption) : (ji6) ≤ (l0_0.length : Int))
    obtain ⟨y133, hy133⟩ : ∃ y_ : List Int, y_ = (l0_0.drop ((ji6) : Int).toNat) := ⟨_, rfl⟩
    replace H : ((slices_Concat_int_int.f (([l0_1, y128] : List (List Int)))).bind fun t141 => (some (y133, t141, y128))) = some (r1, r2, r3) := by first | (rw [hy133]; with_reducible exact H) | (have H2_ := (Option.bind_some _ _).symm.trans H; rw [hy133]; with_reducible exact H2_) | (have H2_ := (Option.bind_some _ _).symm.trans H; with_reducible exact H2_) | with_reducible exact H | (rw [hy133]; exact H) | exact H
    have Ny133 := Aside0.mk hy133
    clear hy133
    obtain ⟨y138, hy138⟩ : ∃ y_ : List (List Int), y_ = (([l0_1, y128] : List (List Int))) := ⟨_, rfl⟩
    replace H : ((slices_Concat_int_int.f y138).bind fun t141 => (some (y133, t141, y128))) = some (r1, r2, r3) := by first | (rw [hy138]; with_reducible exact H) | (have H2_ := (Option.bind_some _ _).symm.trans H; rw [hy138]; with_reducible exact H2_) | (have H2_ := (Option.bind_some _ _).symm.trans H; with_reducible exact H2_) | with_reducible exact H | (rw [hy138]; exact H) | exact H
    have Ny138 := Aside0.mk hy138
    clear hy138
    replace H := Option.bind_eq_some_iff.mp H
    obtain ⟨t141, A110, H⟩ := H
    replace H : (some (y133, t141, y128)) = some (r1, r2, r3) := H
    have A11 := Aside0.mk A110
    clear A110
    simp only [Option.some.injEq, Prod.mk.injEq] at H
    obtain ⟨rfl, rfl, rfl⟩ := H
    go_enter Try.func13, Try.ntmps13
    try go_wp2_with (first | ((with_reducible refine gate_dst (N := 2) rfl ?_); refine box_event ?hg (N := 2) ?hd (cs := #[.slice A0_0 l0_0.length c0_0, .slice A0_1 l0_1.length c0_1]) (t := 24) ?hr ?_; (case hd => rfl); (case hg => rfl); (case hr => first | (go_simp; done) | (go_simp; rfl)); intro gb125 hg w12 hbox hb; have n0_ := Aside0.mk (Kd.V_below (Kd.V_elderB (zV HO0_0) gb125 (Nat.le_of_eq hg.symm)) hb); have n1_ := Aside0.mk (Kd.V_below (Kd.V_elderB (zV HO0_1) gb125 (Nat.le_of_eq hg.symm)) hb); have n2_ := Aside0.mk (below_step (zc0 HB) hb); have n3_ := Aside0.mk (hbox); have n4_ := Aside0.mk ((by rw [hg]; exact (below_size (zc0 HB)) : w.heap.size ≤ gb125)); have n5_ := Aside0.mk ((by rw [hg]; exact (below_size (zc0 HB)) : w.heap.size ≤ gb125)); clear HO0_0; clear HO0_1; clear HB; have HO0_0 := n0_; have HO0_1 := n1_; have HB := n2_; have BK125 := n3_; have GW125 := n4_; have GE125 := n5_; clear n0_ n1_ n2_ n3_ n4_ n5_; clear hb hbox hg) | ((with_reducible refine gate_dst (N := 4) rfl ?_); refine box_event ?hg (N := 4) ?hd (cs := #[.slice none 0 0, .slice none 0 0]) (t := 24) ?hr ?_; (case hd => rfl); (case hg => rfl); (case hr => first | (go_simp; done) | (go_simp; rfl)); intro gb126 hg w13 hbox hb; have n0_ := Aside0.mk (Kd.V_below (Kd.V_elderB (zV HO0_0) gb126 (Nat.le_of_eq hg.symm)) hb); have n1_ := Aside0.mk (Kd.V_below (Kd.V_elderB (zV HO0_1) gb126 (Nat.le_of_eq hg.symm)) hb); have n2_ := Aside0.mk (blk_below (g := gb125) (o := .cells #[.slice A0_0 l0_0.length c0_0, .slice A0_1 l0_1.length c0_1] 24 (0, 0)) (zb BK125) hb); have n3_ := Aside0.mk (below_step (zc1 HB GE125) hb); have n4_ := Aside0.mk (hbox); have n5_ := Aside0.mk ((by rw [hg]; exact (below_size (zc1 HB GE125)) : w.heap.size ≤ gb126)); have n6_ := Aside0.mk ((by rw [hg]; exact (below_size (zc1 HB GE125)) : w.heap.size ≤ gb126)); have n7_ := Aside0.mk ((by rw [hg]; exact Nat.ne_of_lt (blk_lt (g := gb125) (o := .cells #[.slice A0_0 l0_0.length c0_0, .slice A0_1 l0_1.length c0_1] 24 (0, 0)) (zb BK125)) : gb125 ≠ gb126)); have n8_ := Aside0.mk ((by rw [hg]; exact Nat.ne_of_gt (blk_lt (g := gb125) (o := .cells #[.slice A0_0 l0_0.length c0_0, .slice A0_1 l0_1.length c0_1] 24 (0, 0)) (zb BK125)) : gb126 ≠ gb125)); clear HO0_0; clear HO0_1; clear BK125; clear HB; have HO0_0 := n0_; have HO0_1 := n1_; have BK125 := n2_; have HB := n3_; have BK126 := n4_; have GW126 := n5_; have GE126 := n6_; have NB125_126 := n7_; have NB126_125 := n8_; clear n0_ n1_ n2_ n3_ n4_ n5_ n6_ n7_ n8_; clear hb hbox hg; have hnb14 := NB125_126.out; have hnc14 := NB126_125.out; have hcz15_0 : w13.cell? ⟨gb125, 0, none⟩ = some (.slice A0_0 l0_0.length c0_0) := (blk_cell BK125.out 0).trans rfl; have hcz15_1 : w13.cell? ⟨gb125, 1, none⟩ = some (.slice A0_1 l0_1.length c0_1) := (blk_cell BK125.out 1).trans rfl; have hfz15_0 := blk_frozen BK125.out 0; have hfz15_1 := blk_frozen BK125.out 1) | ((with_reducible refine gate_callee (f := 19) rfl ?_); refine goesL_ (some 8) rfl rfl Try.func19 (by kernel_rfl) rfl #[.agg #[.slice A0_0 l0_0.length c0_0, .slice A0_1 l0_1.length c0_1]] rfl zm ?_; (with_reducible refine (cond_Right.calls k (fun k_ => ((((P0_0_ k_ ∨ P0_1_ k_) ∨ w.heap.size ≤ k_) ∧ k_ ≠ gb125) ∧ k_ ≠ gb126)) _ _ l0_0 (fun k_ => ((((P0_0_ k_ ∨ P0_1_ k_) ∨ w.heap.size ≤ k_) ∧ k_ ≠ gb125) ∧ k_ ≠ gb126)) _ _ l0_1 true _ ?side1 ?side2 A3.out).mono ?_); (case side1 => exact HO0_0.out); (case side2 => exact HO0_1.out); rintro e w16 ⟨rfl, hb⟩; refine ⟨_, rfl, ?_⟩; have n0_ := Aside0.mk (Kd.V_below (zV HO0_0) hb); have n1_ := Aside0.mk (Kd.V_below (zV HO0_1) hb); have n2_ := Aside0.mk (blk_below (g := gb125) (o := .cells #[.slice A0_0 l0_0.length c0_0, .slice A0_1 l0_1.length c0_1] 24 (0, 0)) (zb BK125) hb); have n3_ := Aside0.mk (blk_below (g := gb126) (o := .cells #[.slice none 0 0, .slice none 0 0] 24 (0, 0)) (zb BK126) hb); have n4_ := Aside0.mk (below_step (zc2 HB GE125 GE126) hb); clear HO0_0; clear HO0_1; clear BK125; clear BK126; clear HB; have HO0_0 := n0_; have HO0_1 := n1_; have BK125 := n2_; have BK126 := n3_; have HB := n4_; clear n0_ n1_ n2_ n3_ n4_; (try clear hb); (try clear hb2); (try clear hk); (try clear hi); have hcz17_0 : w16.cell? ⟨gb125, 0, none⟩ = some (.slice A0_0 l0_0.length c0_0) := (blk_cell BK125.out 0).trans rfl; have hcz17_1 : w16.cell? ⟨gb125, 1, none⟩ = some (.slice A0_1 l0_1.length c0_1) := (blk_cell BK125.out 1).trans rfl; have hfz17_0 := blk_frozen BK125.out 0; have hfz17_1 := blk_frozen BK125.out 1; have q18 : ((ji6) : Int) ≤ ((l0_0.length : Int) : Int) := of_decide_eq_true (by first | (with_reducible assumption) | assumption); obtain ⟨i018, hi018, _, hsz18, _⟩ := info_parts info3; have hroom18 : l0_0.length ≤ c0_0 := (Kd.V_reads' HO0_0.out).2.1; have hC18 : Kd.F (Kd.int .i64) _ _ A0_0 l0_0.length l0_0 := (Kd.V_at (base := w.heap.size) HO0_0.out).2.2; have hcut18 := cut_to3 (P := Try.prog) 22 3 .i64 .i64 Try.underlying22 hi018 A0_0 l0_0.length c0_0 (ji6) (of_decide_eq_true (by first | (with_reducible assumption) | assumption)) q18 hroom18; have hr18 := Kd.F_take (m := ((ji6) : Int).toNat) hC18 (by omega); have hy18 : y128.length = ((ji6) : Int).toNat := (by rw [Ny128.out, List.length_take]; omega); rw [← Ny128.out] at hr18; rw [← hy18] at hcut18; have HO132 := Aside0.mk (show Kd.V (Kd.int .i64) 3 _ w.heap.size _ (.slice A0_0 y128.length y128.length) y128 from Kd.V_mk (by omega) hr18); have HC132 := Aside0.mk (show y128.length ≤ y128.length from by omega); clear hr18 hC18 hroom18 hi018 hsz18; have KY18 := Aside0.mk hy18; clear hy18; replace q18 := eq_true q18))
    have n0_ := Aside0.mk (Kd.V_drew HO0_0.out)
    have n1_ := Aside0.mk (Kd.V_drew HO0_1.out)
    have n2_ := Aside0.mk (Kd.V_drew HO132.out)
    have n3_ := Aside0.mk (blk_drew BK125.out)
    have n4_ := Aside0.mk (blk_drew BK126.out)
    have n5_ := Aside0.mk (below_drew1 HB.out)
    clear HO0_0
    clear HO0_1
    clear HO132
    clear BK125
    clear BK126
    clear HB
    have HO0_0 := n0_
    have HO0_1 := n1_
    have HO132 := n2_
    have BK125 := n3_
    have BK126 := n4_
    have HB := n5_
    clear n0_ n1_ n2_ n3_ n4_ n5_
    have q20 : ((ji6) : Int) ≤ ((l0_0.length : Int) : Int) := of_decide_eq_true (by first | (with_reducible assumption) | assumption)
    obtain ⟨i020, hi020, _, hsz20, _⟩ := info_parts info3
    have hroom20 : l0_0.length ≤ c0_0 := (Kd.V_reads' HO0_0.out).2.1
    have hC20 : Kd.F (Kd.int .i64) _ _ A0_0 l0_0.length l0_0 := (Kd.V_at (base := w.heap.size) HO0_0.out).2.2
    have q020 : (0 : Int) ≤ ((ji6) : Int) := of_decide_eq_true (by first | (with_reducible assumption) | assumption)
    have hcut20 := cut_from (P := Try.prog) 22 3 .i64 Try.underlying22 hi020 1 hsz20 A0_0 l0_0.length c0_0 (ji6) q020 q20
    have hr20 := Kd.F_cut (m := ((ji6) : Int).toNat) (c := c0_0) hC20 (by omega) hroom20
    obtain ⟨A20, hA20⟩ : ∃ A1, A1 = (if c0_0 = ((ji6) : Int).toNat then A0_0 else (A0_0 : Option Addr).map (·.add (((ji6) : Int).toNat * 1))) := ⟨_, rfl⟩
    obtain ⟨c20, hc20⟩ : ∃ c1, c1 = c0_0 - ((ji6) : Int).toNat := ⟨_, rfl⟩
    have hy20 : y133.length = l0_0.length - ((ji6) : Int).toNat := (by rw [Ny133.out, List.length_drop] <;> omega)
    rw [show (l0_0).drop ((ji6) : Int).toNat = y133 from Ny133.out.symm] at hr20
    replace hr20 : Kd.F (Kd.int .i64) _ _ A20 y133.length y133 := (by rw [hA20]; exact hr20)
    rw [← hy20, ← hA20, ← hc20] at hcut20
    have HO137 := Aside0.mk (show Kd.V (Kd.int .i64) 3 _ w.heap.size _ (.slice A20 y133.length c20) y133 from Kd.V_mk (by rw [hy20, hc20]; exact Nat.sub_le_sub_right hroom20 _) hr20)
    have HC137 := Aside0.mk (show y133.length ≤ c20 from by rw [hy20, hc20]; exact Nat.sub_le_sub_right hroom20 _)
    clear hr20 hC20 hroom20 hi020 hsz20 hc20
    have KY20 := Aside0.mk hy20
    have KA20 := Aside0.mk hA20
    clear hy20 hA20
    replace q20 := eq_true q20
    refine start_ (n := 13) (S := fun w' => w'.cell? ⟨gb125, 0, none⟩ = some (.slice A0_0 l0_0.length c0_0) ∧ w'.cell? ⟨gb125, 1, none⟩ = some (.slice A0_1 l0_1.length c0_1)) (ds := []) #[false, false, false, false, false, false, false, false, false, false, false, false, false] (by kernel_rfl) rfl rfl ⟨(blk_cell BK125.out 0).trans rfl, (blk_cell BK125.out 1).trans rfl⟩ (fun hHeld => ?_); refine with_tabW cond_Signal.tab5 cond_Signal.bits5 (fun HT_ HW_ => ?_)
    generalize w16.drew = w19 at HO0_0 HO0_1 HO132 BK125 BK126 HB HO137 hHeld ⊢
    refine pure_ (i := 0) (N := some 22) (v := ?_) (a' := ?_) #[true, false, false, false, false, false, false, false, false, false, false, false, false] rfl rfl (any_of HT_.out (by kernel_rfl)) (fun _ _ _ h => h) (Or.inl ⟨by rfl, ?_⟩) ?_ ?_
    rotate_left
    ·intro w'
     go_simp
     with_reducible rfl
    rotate_left
    ·simp only [Act.put, List.setIfInBounds_toArray, List.set_cons_zero, List.set_cons_succ, i64_w, i32_w]
     rfl
    refine pure_ (i := 2) (N := some 24) (v := ?_) (a' := ?_) #[true, false, true, false, false, false, false, false, false, false, false, false, false] rfl rfl (any_of HT_.out (by kernel_rfl)) (fun _ _ _ h => h) (Or.inl ⟨by rfl, ?_⟩) ?_ ?_
    rotate_left
    ·intro w'
     go_simp
     with_reducible rfl
    rotate_left
    ·simp only [Act.put, List.setIfInBounds_toArray, List.set_cons_zero, List.set_cons_succ, i64_w, i32_w]
     rfl
    refine pure_ (i := 4) (N := some 26) (v := ?_) (a' := ?_) #[true, false, true, false, true, false, false, false, false, false, false, false, false] rfl rfl (any_of HT_.out (by kernel_rfl)) (fun _ _ _ h => h) (Or.inl ⟨by rfl, ?_⟩) ?_ ?_
    rotate_left
    ·intro w'
     go_simp
     with_reducible rfl
    rotate_left
    ·simp only [Act.put, List.setIfInBounds_toArray, List.set_cons_zero, List.set_cons_succ, i64_w, i32_w]
     rfl
    refine pure_ (i := 6) (N := some 28) (v := ?_) (a' := ?_) #[true, false, true, false, true, false, true, false, false, false, false, false, false] rfl rfl (any_of HT_.out (by kernel_rfl)) (fun _ _ _ h => h) (Or.inl ⟨by rfl, ?_⟩) ?_ ?_
    rotate_left
    ·intro w'
     go_simp
     with_reducible rfl
    rotate_left
    ·simp only [Act.put, List.setIfInBounds_toArray, List.set_cons_zero, List.set_cons_succ, i64_w, i32_w]
     rfl
    refine pure_ (i := 10) (N := some 32) (v := ?_) (a' := ?_) #[true, false, true, false, true, false, true, false, false, false, true, false, false] rfl rfl (any_of HT_.out (by kernel_rfl)) (fun _ _ _ h => h) (Or.inl ⟨by rfl, ?_⟩) ?_ ?_
    rotate_left
    ·intro w'
     go_simp
     with_reducible rfl
    rotate_left
    ·simp only [Act.put, List.setIfInBounds_toArray, List.set_cons_zero, List.set_cons_succ, i64_w, i32_w]
     rfl
    refine take_ (i := 1) (N := some 23) (v := ?_) (a' := ?_) #[true, true, true, false, true, false, true, false, false, false, true, false, false] rfl rfl (take_ofW HT_.out HW_.out (by kernel_rfl)) (fun _ _ _ h => h) (Or.inl ⟨by rfl, ?_⟩) hHeld ?_ ?_
    rotate_left
    ·rintro w' ⟨s0, s1⟩
     go_simp
     with_reducible rfl
    rotate_left
    ·simp only [Act.put, List.setIfInBounds_toArray, List.set_cons_zero, List.set_cons_succ, i64_w, i32_w]
     rfl
    refine pure_ (i := 3) (N := some 25) (v := ?_) (a' := ?_) #[true, true, true, true, true, false, true, false, false, false, true, false, false] rfl rfl (any_of HT_.out (by kernel_rfl)) (fun _ _ _ h => h) (Or.inl ⟨by rfl, ?_⟩) ?_ ?_
    rotate_left
    ·intro w'
     go_simp
     with_reducible rfl
    rotate_left
    ·simp only [Act.put, List.setIfInBounds_toArray, List.set_cons_zero, List.set_cons_succ, i64_w, i32_w]
     rfl
    refine take_ (i := 5) (N := some 27) (v := ?_) (a' := ?_) #[true, true, true, true, true, true, true, false, false, false, true, false, false] rfl rfl (take_ofW HT_.out HW_.out (by kernel_rfl)) (fun _ _ _ h => h) (Or.inl ⟨by rfl, ?_⟩) hHeld ?_ ?_
    rotate_left
    ·rintro w' ⟨s0, s1⟩
     go_simp
     with_reducible rfl
    rotate_left
    ·simp only [Act.put, List.setIfInBounds_toArray, List.set_cons_zero, List.set_cons_succ, i64_w, i32_w]
     rfl
    refine one_ (i := 7) (N := some 29) #[true, true, true, true, true, true, true, true, false, false, true, false, false] rfl rfl (one_of HT_.out (by kernel_rfl)) (by decide) (fun K hK => ?_)
    refine Kd.N_lit_step (Kd.slice 3 (Kd.int .i64)) _ 22 ?hg (N' := 29) ?hd (xs := ([l0_1, y128] : List (List Int))) (inner := [.slice A0_1 l0_1.length c0_1, .slice A0_0 y128.length y128.length]) (ok := (fun k_ => ((P0_0_ k_ ∨ P0_1_ k_) ∨ w.heap.size ≤ k_) ∧ k_ ≠ gb125 ∧ k_ ≠ gb126)) (okp := (fun k_ => ((P0_0_ k_ ∨ P0_1_ k_) ∨ w.heap.size ≤ k_) ∧ k_ ≠ gb125 ∧ k_ ≠ gb126)) ?hr ?hp (fun _ hk => hk) ((show ∀ k_, w19.heap.size ≤ k_ → (fun k_ => ((P0_0_ k_ ∨ P0_1_ k_) ∨ w.heap.size ≤ k_) ∧ k_ ≠ gb125 ∧ k_ ≠ gb126) k_ from fun k_ hk => ⟨(.inr (Nat.le_trans (below_size (zc2 HB GE125 GE126)) hk)), Kd.freshB (g := gb125) (o := .cells #[.slice A0_0 l0_0.length c0_0, .slice A0_1 l0_1.length c0_1] 24 (0, 0)) (zb BK125) k_ hk, Kd.freshB (g := gb126) (o := .cells #[.slice none 0 0, .slice none 0 0] 24 (0, 0)) (zb BK126) k_ hk⟩) _ (Nat.le_refl _)) (Below.refl _ _) (Nat.le_refl _) (by simp) ?_; (case hd => rfl); (case hg => rfl); (case hr => first | (go_simp; done) | (go_simp; rfl)); (case hp => exact (Reps.one (show Kd.FK (Kd.slice 3 (Kd.int .i64)) _ _ l0_1 [.slice A0_1 l0_1.length c0_1] from (Kd.FK_slice_mk (Kd.V_reads' (Kd.V_mono (ok' := (fun k_ => ((P0_0_ k_ ∨ P0_1_ k_) ∨ w.heap.size ≤ k_) ∧ k_ ≠ gb125 ∧ k_ ≠ gb126)) (HO0_1.out) (fun k_ hk => ⟨hk.1.1, ⟨hk.1.2, hk.2⟩⟩))).2.1 (Kd.V_F (Kd.V_mono (ok' := (fun k_ => ((P0_0_ k_ ∨ P0_1_ k_) ∨ w.heap.size ≤ k_) ∧ k_ ≠ gb125 ∧ k_ ≠ gb126)) (HO0_1.out) (fun k_ hk => ⟨hk.1.1, ⟨hk.1.2, hk.2⟩⟩))))) (Reps.one (show Kd.FK (Kd.slice 3 (Kd.int .i64)) _ _ y128 [.slice A0_0 y128.length y128.length] from (Kd.FK_slice_mk (Kd.V_reads' (Kd.V_mono (ok' := (fun k_ => ((P0_0_ k_ ∨ P0_1_ k_) ∨ w.heap.size ≤ k_) ∧ k_ ≠ gb125 ∧ k_ ≠ gb126)) (HO132.out) (fun k_ hk => ⟨hk.1.1, ⟨hk.1.2, hk.2⟩⟩))).2.1 (Kd.V_F (Kd.V_mono (ok' := (fun k_ => ((P0_0_ k_ ∨ P0_1_ k_) ∨ w.heap.size ≤ k_) ∧ k_ ≠ gb125 ∧ k_ ≠ gb126)) (HO132.out) (fun k_ hk => ⟨hk.1.1, ⟨hk.1.2, hk.2⟩⟩))))) (Reps.none _ _))))
    intro v139 w21 ho22 hb hg_ hnew_
    clear hg_ hnew_
    (first | rw [← Ny138.out] at ho22 | (simp only [Int.reduceToNat] at ho22; rw [← Ny138.out] at ho22))
    have n0_ := Aside0.mk (Kd.V_elder' (zV HO0_0) (Kd.N_base ho22) hb)
    have n1_ := Aside0.mk (Kd.V_elder' (zV HO0_1) (Kd.N_base ho22) hb)
    have n2_ := Aside0.mk (Kd.V_elder' (zV HO132) (Kd.N_base ho22) hb)
    have n3_ := Aside0.mk (Kd.V_elder' (zV HO137) (Kd.N_base ho22) hb)
    have n4_ := Aside0.mk (Kd.N_lower ho22 (below_size (zc2 HB GE125 GE126)))
    have n5_ := Aside0.mk (blk_below (g := gb125) (o := .cells #[.slice A0_0 l0_0.length c0_0, .slice A0_1 l0_1.length c0_1] 24 (0, 0)) (zb BK125) hb)
    have n6_ := Aside0.mk (blk_below (g := gb126) (o := .cells #[.slice none 0 0, .slice none 0 0] 24 (0, 0)) (zb BK126) hb)
    have n7_ := Aside0.mk (below_step (zc2 HB GE125 GE126) hb)
    clear HO0_0
    clear HO0_1
    clear HO132
    clear HO137
    clear BK125
    clear BK126
    clear HB
    have HO0_0 := n0_
    have HO0_1 := n1_
    have HO132 := n2_
    have HO137 := n3_
    have HO140 := n4_
    have BK125 := n5_
    have BK126 := n6_
    have HB := n7_
    clear n0_ n1_ n2_ n3_ n4_ n5_ n6_ n7_
    clear hb ho22
    obtain ⟨Ao23, co23, eo23⟩ := Kd.N_slice HO140.out
    (first | subst eo23 | (injection eo23 with f1_ f2_ f3_; have f4_ := f1_.symm; have f5_ := f3_.symm; clear f1_ f2_ f3_; subst f4_; subst f5_))
    refine hK.out _ _ ⟨(blk_cell BK125.out 0).trans rfl, (blk_cell BK125.out 1).trans rfl⟩ (fun hHeld => ?_)
    clear hK K
    refine norm_ (a' := ?_) ?_ ?_
    rotate_left
    ·show Act.put _ (some 29) _ = _
     simp only [Act.put, List.setIfInBounds_toArray, List.set_cons_zero, List.set_cons_succ, i64_w, i32_w]
     rfl
    refine one_ (i := 8) (N := some 30) #[true, true, true, true, true, true, true, true, true, false, true, false, false] rfl rfl (one_of HT_.out (by kernel_rfl)) (by decide) (fun K hK => ?_)
    refine goes_ Try.func28 (by kernel_rfl) rfl #[.slice Ao23 y138.length co23] (by rfl) rfl rfl zm ?_
    with_reducible refine (slices_Concat_int_int.calls _ _ y138 t141 _ ?side1 ?side2 A11.out).mono ?_
    (case side1 => repeat (first | exact (Kd.N_reads' HO140.out).2.2 | (with_reducible refine Kd.C_alloc ?_ _) | (with_reducible refine Kd.C_drewN ?_ _) | (with_reducible refine Kd.C_drew ?_)))
    (case side2 => exact (Kd.N_reads' HO140.out).2.1)
    rintro e w24 ⟨v142, rfl, ho0, hb⟩
    refine ⟨_, rfl, ?_⟩
    have n0_ := Aside0.mk (Kd.V_elder' (zV HO0_0) (Kd.R_base ho0) hb)
    have n1_ := Aside0.mk (Kd.V_elder' (zV HO0_1) (Kd.R_base ho0) hb)
    have n2_ := Aside0.mk (Kd.V_elder' (zV HO132) (Kd.R_base ho0) hb)
    have n3_ := Aside0.mk (Kd.V_elder' (zV HO137) (Kd.R_base ho0) hb)
    have n4_ := Aside0.mk (Kd.N_elder' (zN HO140) (Kd.R_base ho0) hb)
    have n5_ := Aside0.mk (Kd.R_lower (Kd.R_newM (M := fun k_ => (w.heap.size ≤ k_)) ho0 (below_size (zc2 HB GE125 GE126)) (fun k_ h_ => h_)) (below_size (zc2 HB GE125 GE126)))
    have n6_ := Aside0.mk (blk_below (g := gb125) (o := .cells #[.slice A0_0 l0_0.length c0_0, .slice A0_1 l0_1.length c0_1] 24 (0, 0)) (zb BK125) hb)
    have n7_ := Aside0.mk (blk_below (g := gb126) (o := .cells #[.slice none 0 0, .slice none 0 0] 24 (0, 0)) (zb BK126) hb)
    have n8_ := Aside0.mk (below_step (zc2 HB GE125 GE126) hb)
    clear HO0_0
    clear HO0_1
    clear HO132
    clear HO137
    clear HO140
    clear BK125
    clear BK126
    clear HB
    have HO0_0 := n0_
    have HO0_1 := n1_
    have HO132 := n2_
    have HO137 := n3_
    have HO140 := n4_
    have HO143 := n5_
    have BK125 := n6_
    have BK126 := n7_
    have HB := n8_
    clear n0_ n1_ n2_ n3_ n4_ n5_ n6_ n7_ n8_
    (try clear hb)
    (try clear hb2)
    (try clear hk)
    (try clear hi)
    (try clear ho0)
    obtain ⟨Ao25, co25, eo25⟩ := Kd.R_slice HO143.out
    (first | subst eo25 | (injection eo25 with f1_ f2_ f3_; have f4_ := f1_.symm; have f5_ := f3_.symm; clear f1_ f2_ f3_; subst f4_; subst f5_))
    refine hK.out _ _ ⟨(blk_cell BK125.out 0).trans rfl, (blk_cell BK125.out 1).trans rfl⟩ (fun hHeld => ?_)
    clear hK K
    refine norm_ (a' := ?_) ?_ ?_
    rotate_left
    ·show Act.put _ (some 30) _ = _
     simp only [Act.put, List.setIfInBounds_toArray, List.set_cons_zero, List.set_cons_succ, i64_w, i32_w]
     rfl
    refine pure_ (i := 9) (N := some 31) (v := ?_) (a' := ?_) #[true, true, true, true, true, true, true, true, true, true, true, false, false] rfl rfl (any_of HT_.out (by kernel_rfl)) (fun _ _ _ h => h) (Or.inl ⟨by rfl, ?_⟩) ?_ ?_
    rotate_left
    ·intro w'
     go_simp
     with_reducible rfl
    rotate_left
    ·simp only [Act.put, List.setIfInBounds_toArray, List.set_cons_zero, List.set_cons_succ, i64_w, i32_w]
     rfl
    refine one_ (i := 11) (N := none) #[true, true, true, true, true, true, true, true, true, true, true, true, false] rfl rfl (one_of HT_.out (by kernel_rfl)) (by decide) (fun K hK => ?_)
    have hs26 : w24.cell? ⟨gb126, 0, none⟩ = some (.slice none 0 0) := (blk_cell BK126.out 0).trans rfl
    have hfs26 := blk_frozen BK126.out 0
    have hns26_0 := NB125_126.out
    have hms26_0 := NB126_125.out
    have hs27 : w24.cell? ⟨gb126, 1, none⟩ = some (.slice none 0 0) := (blk_cell BK126.out 1).trans rfl
    have hfs27 := blk_frozen BK126.out 1
    have hns27_0 := NB125_126.out
    have hms27_0 := NB126_125.out
    refine skip_ (w1 := ?_) (by rfl) rfl ?_ ?_
    rotate_left
    ·go_simp
     rfl
    refine hK.out _ _ ⟨((cell_far (p := ⟨gb126, _, none⟩) NB125_126.out _).trans (((cell_far (p := ⟨gb126, _, none⟩) NB125_126.out _).trans (hHeld.1)))), ((cell_far (p := ⟨gb126, _, none⟩) NB125_126.out _).trans (((cell_far (p := ⟨gb126, _, none⟩) NB125_126.out _).trans (hHeld.2))))⟩ (fun hHeld => ?_)
    clear hK K
    refine pure_ (i := 12) (N := some 5) (v := ?_) (a' := ?_) #[true, true, true, true, true, true, true, true, true, true, true, true, true] rfl rfl (any_of HT_.out (by kernel_rfl)) (fun _ _ _ h => h) (Or.inl ⟨by rfl, ?_⟩) ?_ ?_
    rotate_left
    ·intro w'
     go_simp
     with_reducible rfl
    rotate_left
    ·simp only [Act.put, List.setIfInBounds_toArray, List.set_cons_zero, List.set_cons_succ, i64_w, i32_w]
     rfl
    refine done_ (done_of HT_.out (by kernel_rfl)) ?_
    try go_wp2
    refine bodyPost_ret (results_ct rfl _ _ gb126 24 #[.slice A20 y133.length c20, .slice Ao25 t141.length co25] (0, 0) _ rfl (by (with_reducible repeat (first | refine blk_drewN ?_ _ | refine blk_drew ?_ | refine blk_alloc ?_ _)); refine blk_put (cs := #[.slice A20 y133.length c20, .slice none 0 0]) ?_ 1 _ rfl; (with_reducible repeat (first | refine blk_drewN ?_ _ | refine blk_drew ?_ | refine blk_alloc ?_ _)); refine blk_put (cs := #[.slice none 0 0, .slice none 0 0]) ?_ 0 _ rfl; (with_reducible repeat (first | refine blk_drewN ?_ _ | refine blk_drew ?_ | refine blk_alloc ?_ _)); exact BK126.out) Try.underlying24 rfl (by kernel_rfl)) rfl ?_
    exact ⟨_, _, _, by first | rfl | (simp [errW_none, errW_some] <;> rfl) | (simp only [← hji5, ← hji6]; first | rfl | (simp [errW_none, errW_some] <;> rfl)) | (simp [*, errW_none, errW_some] <;> rfl), by (with_reducible repeat (first | apply Kd.V_alloc | apply Kd.V_drewN | apply Kd.V_drew)); exact Kd.V_mono (Kd.V_far (p := ⟨gb126, 1, none⟩) (Kd.V_far (p := ⟨gb126, 0, none⟩) (Kd.V_mono HO137.out (fun k_ hk => (⟨hk, hk.1.1.2⟩ : _ ∧ k_ ≠ gb126))) (fun _ hk => hk.2) (.slice A20 y133.length c20)) (fun _ hk => hk.2) (.slice Ao25 t141.length co25)) (fun _ hk => hk.1.1.1.1.1), Kd.V_mono (Kd.R_V (Kd.R_mono (ok' := fun k_ => (w.heap.size ≤ k_)) (by (with_reducible repeat (first | apply Kd.R_alloc | apply Kd.R_drewN | apply Kd.R_drew)); exact Kd.R_mono (Kd.R_far (p := ⟨gb126, 1, none⟩) (Kd.R_far (p := ⟨gb126, 0, none⟩) (Kd.R_types HO143.out BK126.out (by decide)) (fun _ hk => hk.2) (.slice A20 y133.length c20)) (fun _ hk => hk.2) (.slice Ao25 t141.length co25)) (fun _ hk => hk.1.1)) (fun _ h_ => h_))) (fun k_ hk => by first | exact ⟨(.inr (hk.1)), hk.2⟩ | exact (.inr (hk))), by (with_reducible repeat (first | apply Kd.V_alloc | apply Kd.V_drewN | apply Kd.V_drew)); exact Kd.V_mono (Kd.V_far (p := ⟨gb126, 1, none⟩) (Kd.V_far (p := ⟨gb126, 0, none⟩) (Kd.V_mono HO132.out (fun k_ hk => (⟨hk, hk.1.1.2⟩ : _ ∧ k_ ≠ gb126))) (fun _ hk => hk.2) (.slice A20 y133.length c20)) (fun _ hk => hk.2) (.slice Ao25 t141.length co25)) (fun _ hk => hk.1.1.1.1.1), by repeat (first | (with_reducible first | exact HB.out | apply below_alloc | apply pw_below_drewN | apply below_drew1 | refine below_set ?_ GE125.out | refine below_set ?_ GE126.out) | exact HB.out)⟩
   ·rw [if_neg c8] at H
    exact absurd H (by simp)
  ·rw [if_neg c7] at H
   exact absurd H (by simp)
 ·replace c4 := Bool.eq_false_iff.mpr c4
  subst c4
  have H1 : (some (l0_0, l0_1, ([] : List Int))) = some (r1, r2, r3) := by rw [if_neg (show ¬ (false = true) by decide)] at H; exact H
  clear H
  have H := H1
  clear H1
  simp only [Option.some.injEq, Prod.mk.injEq] at H
  obtain ⟨rfl, rfl, rfl⟩ := H
  go_enter Try.func13, Try.ntmps13
  go_wp2_with (first | ((with_reducible refine gate_dst (N := 2) rfl ?_); refine box_event ?hg (N := 2) ?hd (cs := #[.slice A0_0 l0_0.length c0_0, .slice A0_1 l0_1.length c0_1]) (t := 24) ?hr ?_; (case hd => rfl); (case hg => rfl); (case hr => first | (go_simp; done) | (go_simp; rfl)); intro gb125 hg w28 hbox hb; have n0_ := Aside0.mk (Kd.V_below (Kd.V_elderB (zV HO0_0) gb125 (Nat.le_of_eq hg.symm)) hb); have n1_ := Aside0.mk (Kd.V_below (Kd.V_elderB (zV HO0_1) gb125 (Nat.le_of_eq hg.symm)) hb); have n2_ := Aside0.mk (below_step (zc0 HB) hb); have n3_ := Aside0.mk (hbox); have n4_ := Aside0.mk ((by rw [hg]; exact (below_size (zc0 HB)) : w.heap.size ≤ gb125)); have n5_ := Aside0.mk ((by rw [hg]; exact (below_size (zc0 HB)) : w.heap.size ≤ gb125)); clear HO0_0; clear HO0_1; clear HB; have HO0_0 := n0_; have HO0_1 := n1_; have HB := n2_; have BK125 := n3_; have GW125 := n4_; have GE125 := n5_; clear n0_ n1_ n2_ n3_ n4_ n5_; clear hb hbox hg) | ((with_reducible refine gate_dst (N := 4) rfl ?_); refine box_event ?hg (N := 4) ?hd (cs := #[.slice none 0 0, .slice none 0 0]) (t := 24) ?hr ?_; (case hd => rfl); (case hg => rfl); (case hr => first | (go_simp; done) | (go_simp; rfl)); intro gb126 hg w29 hbox hb; have n0_ := Aside0.mk (Kd.V_below (Kd.V_elderB (zV HO0_0) gb126 (Nat.le_of_eq hg.symm)) hb); have n1_ := Aside0.mk (Kd.V_below (Kd.V_elderB (zV HO0_1) gb126 (Nat.le_of_eq hg.symm)) hb); have n2_ := Aside0.mk (blk_below (g := gb125) (o := .cells #[.slice A0_0 l0_0.length c0_0, .slice A0_1 l0_1.length c0_1] 24 (0, 0)) (zb BK125) hb); have n3_ := Aside0.mk (below_step (zc1 HB GE125) hb); have n4_ := Aside0.mk (hbox); have n5_ := Aside0.mk ((by rw [hg]; exact (below_size (zc1 HB GE125)) : w.heap.size ≤ gb126)); have n6_ := Aside0.mk ((by rw [hg]; exact (below_size (zc1 HB GE125)) : w.heap.size ≤ gb126)); have n7_ := Aside0.mk ((by rw [hg]; exact Nat.ne_of_lt (blk_lt (g := gb125) (o := .cells #[.slice A0_0 l0_0.length c0_0, .slice A0_1 l0_1.length c0_1] 24 (0, 0)) (zb BK125)) : gb125 ≠ gb126)); have n8_ := Aside0.mk ((by rw [hg]; exact Nat.ne_of_gt (blk_lt (g := gb125) (o := .cells #[.slice A0_0 l0_0.length c0_0, .slice A0_1 l0_1.length c0_1] 24 (0, 0)) (zb BK125)) : gb126 ≠ gb125)); clear HO0_0; clear HO0_1; clear BK125; clear HB; have HO0_0 := n0_; have HO0_1 := n1_; have BK125 := n2_; have HB := n3_; have BK126 := n4_; have GW126 := n5_; have GE126 := n6_; have NB125_126 := n7_; have NB126_125 := n8_; clear n0_ n1_ n2_ n3_ n4_ n5_ n6_ n7_ n8_; clear hb hbox hg; have hnb30 := NB125_126.out; have hnc30 := NB126_125.out; have hcz31_0 : w29.cell? ⟨gb125, 0, none⟩ = some (.slice A0_0 l0_0.length c0_0) := (blk_cell BK125.out 0).trans rfl; have hcz31_1 : w29.cell? ⟨gb125, 1, none⟩ = some (.slice A0_1 l0_1.length c0_1) := (blk_cell BK125.out 1).trans rfl; have hfz31_0 := blk_frozen BK125.out 0; have hfz31_1 := blk_frozen BK125.out 1) | ((with_reducible refine gate_callee (f := 19) rfl ?_); refine goesL_ (some 8) rfl rfl Try.func19 (by kernel_rfl) rfl #[.agg #[.slice A0_0 l0_0.length c0_0, .slice A0_1 l0_1.length c0_1]] rfl zm ?_; (with_reducible refine (cond_Right.calls k (fun k_ => ((((P0_0_ k_ ∨ P0_1_ k_) ∨ w.heap.size ≤ k_) ∧ k_ ≠ gb125) ∧ k_ ≠ gb126)) _ _ l0_0 (fun k_ => ((((P0_0_ k_ ∨ P0_1_ k_) ∨ w.heap.size ≤ k_) ∧ k_ ≠ gb125) ∧ k_ ≠ gb126)) _ _ l0_1 false _ ?side1 ?side2 A3.out).mono ?_); (case side1 => exact HO0_0.out); (case side2 => exact HO0_1.out); rintro e w32 ⟨rfl, hb⟩; refine ⟨_, rfl, ?_⟩; have n0_ := Aside0.mk (Kd.V_below (zV HO0_0) hb); have n1_ := Aside0.mk (Kd.V_below (zV HO0_1) hb); have n2_ := Aside0.mk (blk_below (g := gb125) (o := .cells #[.slice A0_0 l0_0.length c0_0, .slice A0_1 l0_1.length c0_1] 24 (0, 0)) (zb BK125) hb); have n3_ := Aside0.mk (blk_below (g := gb126) (o := .cells #[.slice none 0 0, .slice none 0 0] 24 (0, 0)) (zb BK126) hb); have n4_ := Aside0.mk (below_step (zc2 HB GE125 GE126) hb); clear HO0_0; clear HO0_1; clear BK125; clear BK126; clear HB; have HO0_0 := n0_; have HO0_1 := n1_; have BK125 := n2_; have BK126 := n3_; have HB := n4_; clear n0_ n1_ n2_ n3_ n4_; (try clear hb); (try clear hb2); (try clear hk); (try clear hi); have hcz33_0 : w32.cell? ⟨gb125, 0, none⟩ = some (.slice A0_0 l0_0.length c0_0) := (blk_cell BK125.out 0).trans rfl; have hcz33_1 : w32.cell? ⟨gb125, 1, none⟩ = some (.slice A0_1 l0_1.length c0_1) := (blk_cell BK125.out 1).trans rfl; have hfz33_0 := blk_frozen BK125.out 0; have hfz33_1 := blk_frozen BK125.out 1; have hcz34_0 : w32.cell? ⟨gb126, 0, none⟩ = some (.slice none 0 0) := (blk_cell BK126.out 0).trans rfl; have hcz34_1 : w32.cell? ⟨gb126, 1, none⟩ = some (.slice none 0 0) := (blk_cell BK126.out 1).trans rfl; have hfz34_0 := blk_frozen BK126.out 0; have hfz34_1 := blk_frozen BK126.out 1))
  refine bodyPost_ret (results_ct rfl _ _ gb126 24 #[.slice A0_0 l0_0.length c0_0, .slice A0_1 l0_1.length c0_1] (0, 0) _ rfl (by (with_reducible repeat (first | refine blk_drewN ?_ _ | refine blk_drew ?_ | refine blk_alloc ?_ _)); refine blk_put (cs := #[.slice A0_0 l0_0.length c0_0, .slice none 0 0]) ?_ 1 _ rfl; (with_reducible repeat (first | refine blk_drewN ?_ _ | refine blk_drew ?_ | refine blk_alloc ?_ _)); refine blk_put (cs := #[.slice none 0 0, .slice none 0 0]) ?_ 0 _ rfl; (with_reducible repeat (first | refine blk_drewN ?_ _ | refine blk_drew ?_ | refine blk_alloc ?_ _)); exact BK126.out) Try.underlying24 rfl (by kernel_rfl)) rfl ?_
  exact ⟨_, _, _, by first | rfl | (simp [errW_none, errW_some] <;> rfl) | (simp [*, errW_none, errW_some] <;> rfl), by (with_reducible repeat (first | apply Kd.V_alloc | apply Kd.V_drewN | apply Kd.V_drew)); exact Kd.V_mono (Kd.V_far (p := ⟨gb126, 1, none⟩) (Kd.V_far (p := ⟨gb126, 0, none⟩) (Kd.V_mono HO0_0.out (fun k_ hk => (⟨hk, hk.2⟩ : _ ∧ k_ ≠ gb126))) (fun _ hk => hk.2) (.slice A0_0 l0_0.length c0_0)) (fun _ hk => hk.2) (.slice A0_1 l0_1.length c0_1)) (fun _ hk => hk.1.1.1), by (with_reducible repeat (first | apply Kd.V_alloc | apply Kd.V_drewN | apply Kd.V_drew)); exact Kd.V_mono (Kd.V_far (p := ⟨gb126, 1, none⟩) (Kd.V_far (p := ⟨gb126, 0, none⟩) (Kd.V_mono HO0_1.out (fun k_ hk => (⟨hk, hk.2⟩ : _ ∧ k_ ≠ gb126))) (fun _ hk => hk.2) (.slice A0_0 l0_0.length c0_0)) (fun _ hk => hk.2) (.slice A0_1 l0_1.length c0_1)) (fun _ hk => hk.1.1.1), by first | exact Kd.R_nil _ _ _ _ _ | exact Kd.N_nil _ _ _ _ _ | exact Kd.V_nil _ _ _ _ _ | exact Kd.Q_nil _ _ _ _ _ | exact Kd.S_nil _ _ _ _ _, by repeat (first | (with_reducible first | exact HB.out | apply below_alloc | apply pw_below_drewN | apply below_drew1 | refine below_set ?_ GE125.out | refine below_set ?_ GE126.out) | exact HB.out)⟩

-- NOT PRINTED: function 35 (slices_IndexFunc_int_int)

-- NOT PRINTED: function 33 (slices_DeleteFunc_int_int)

/-! ### cond_without_1: function 34 (by hand) -/
def cond_without_1.p (q0 : Int) (x : Int) : Bool := x == q0
set_option maxHeartbeats 8000000 in
set_option maxRecDepth 100000 in
theorem cond_without_1.calls (x : Int) (g : Nat) (q0 : Int) (w : World) (hb : w.heap[g]? = some (.cells #[.int .i64 q0] 3 (0, 0))) :
    Calls Try.prog 34 #[.int .i64 x, .pointer (some ⟨g, 0, none⟩)] w fun e w' => e = .returned (.bool (cond_without_1.p q0 x)) ∧ Below w.heap.size w w' := by
  have hlt : g < w.heap.size := blk_lt hb
  have hc0 := blk_cell hb 0
  have hf0 := blk_frozen hb 0
  clear hb
  go_enter Try.func34, Try.ntmps34
  go_wp2
  go_ret
  exact ⟨rfl, Below.refl _ _⟩

/-! ### idx_cond_without_1: function 35 over 34 (by hand) -/
def idx_cond_without_1.f (l0 : List Int) (q0 : Int) : Option (Int) := some (Go.Proofs.YtllmfahkiabkcaaG.idxBy (cond_without_1.p q0) l0)
set_option maxHeartbeats 8000000 in
set_option maxRecDepth 100000 in
theorem idx_cond_without_1.calls (A0 : Option Addr) (c0 : Nat) (l0 : List Int) (g : Nat) (q0 : Int) (r : Int) (w : World) (hr0 : Kd.C (Kd.int .i64) w A0 l0.length l0) (hc0 : l0.length ≤ c0) (hb0 : w.heap[g]? = some (.cells #[.int .i64 q0] 3 (0, 0))) (h : idx_cond_without_1.f l0 q0 = some r) :
    Calls Try.prog 35 #[.slice A0 l0.length c0, .func (.func 34) #[] #[.pointer (some ⟨g, 0, none⟩)]] w fun e w' => e = .returned (.int .i64 r) ∧ Below w.heap.size w w' := by
  obtain rfl := Option.some.inj h
  clear h
  have HR := Aside0.mk hr0
  have HM := Aside0.mk hr0.2.1
  have HC := Aside0.mk hc0
  have HBX := Aside0.mk hb0
  clear hr0 hc0 hb0
  have hm := HM.out
  go_enter Try.func35, Try.ntmps35
  go_wp2
  go_loopw [8] (fun v8 wr => ∃ j : Nat, v8 = .int .i64 (j : Int) ∧ j ≤ l0.length ∧ Aside0 (∀ (i : Nat) (y : Int), i < j → l0[i]? = some y → cond_without_1.p q0 y = false) ∧ Aside0 (Below w.heap.size w wr)) (fun v8 _ => (l0.length - (intOf v8).toNat))
  case atStart => exact ⟨0, rfl, Nat.zero_le _, ⟨fun i y hi => absurd hi (by omega)⟩, ⟨Below.refl _ _⟩⟩
  case round =>
    obtain ⟨j, rfl, hj, HN, HB⟩ := hrel
    by_cases hlt : j < l0.length
    · obtain ⟨ad, e, h0⟩ := Kd.at_int HR.out (j : Int) (by omega) (by omega)
      cases e
      simp only [Int.toNat_natCast] at h0
      have hx : l0[j]? = some (rd l0 (j : Int)) := by
        unfold rd
        rw [Int.toNat_natCast, List.getD_eq_getElem?_getD, List.getElem?_eq_getElem hlt]
        rfl
      have HX := Aside0.mk hx
      clear hx
      replace h0 := pw_cell_below HB.out h0
      have hbx := Aside0.mk (blk_below HBX.out HB.out)
      have hq0_ : (0 : Int) ≤ (j : Int) := by omega
      by_cases hp : cond_without_1.p q0 (rd l0 (j : Int)) = true
      · go_wp2_with (go_at_call 34; (with_reducible refine (cond_without_1.calls (rd l0 (j : Int)) g q0 _ ?side1).mono ?_); (case side1 => first | exact hbx.out | exact blk_drewN hbx.out _ | exact blk_drew hbx.out); rintro e w2 ⟨rfl, hb⟩; have HB2 := Aside0.mk hb; clear hb)
        go_ret
        exact ⟨by rw [Go.Proofs.YtllmfahkiabkcaaG.idxBy_some HX.out hp HN.out]; rfl, below_step HB.out HB2.out⟩
      · have hpf : cond_without_1.p q0 (rd l0 (j : Int)) = false := by simpa using hp
        clear hp
        go_wp2_with (go_at_call 34; (with_reducible refine (cond_without_1.calls (rd l0 (j : Int)) g q0 _ ?side1).mono ?_); (case side1 => first | exact hbx.out | exact blk_drewN hbx.out _ | exact blk_drew hbx.out); rintro e w2 ⟨rfl, hb⟩; have HB2 := Aside0.mk hb; clear hb)
        go_roundw
        case rel => exact ⟨j + 1, by go_num, by omega, ⟨fun i y hi hy => by
          rcases Nat.lt_succ_iff_lt_or_eq.1 hi with h | h
          · exact HN.out i y h hy
          · subst h; rw [HX.out] at hy; injection hy with hy; rw [← hy]; exact hpf⟩, ⟨below_step HB.out HB2.out⟩⟩
        case measure => simp [intOf]; omega
    · have hjl : j = l0.length := by omega
      subst hjl
      go_wp2
      go_ret
      exact ⟨by rw [Go.Proofs.YtllmfahkiabkcaaG.idxBy_none (fun i x hx => HN.out i x (List.getElem?_eq_some_iff.1 hx).1 hx)]; rfl, HB.out⟩

/-! ### del_cond_without_1: function 33 over 34 (by hand) -/
def del_cond_without_1.f (l0 : List Int) (q0 : Int) : Option (List Int) := some (l0.filter (fun x => !cond_without_1.p q0 x))
set_option maxHeartbeats 8000000 in
set_option maxRecDepth 100000 in
theorem del_cond_without_1.calls (P0_ : Nat → Prop) (u9000_ : Value) (l0 : List Int) (gc : Nat) (q0 : Int) (r : List Int) (w0 w : World) (hB : Below w0.heap.size w0 w) (ho0 : Kd.R (Kd.int .i64) 3 w w0.heap.size P0_ u9000_ l0) (hb0 : w.heap[gc]? = some (.cells #[.int .i64 q0] 3 (0, 0))) (hn0 : ¬ P0_ gc) (h : del_cond_without_1.f l0 q0 = some r) :
    Calls Try.prog 33 #[u9000_, .func (.func 34) #[] #[.pointer (some ⟨gc, 0, none⟩)]] w fun e w' => ∃ v0_ : Value, e = .returned (v0_) ∧ Kd.R (Kd.int .i64) 3 w' w0.heap.size (fun k_ => (P0_ k_ ∨ w.heap.size ≤ k_)) v0_ r ∧ Below w0.heap.size w0 w' ∧ Kept w w' (fun k_ => P0_ k_) := by
  obtain rfl := Option.some.inj h
  clear h
  obtain ⟨A0, c, rfl, hlc, hC⟩ := Kd.R_reads ho0
  have HO := Aside0.mk ho0
  have HCR := Aside0.mk hC
  have HCC := Aside0.mk hlc
  have HB := Aside0.mk hB
  have HBX := Aside0.mk hb0
  have HNG := Aside0.mk hn0
  have hs0 := hB.size
  have HS0 := Aside0.mk hs0
  by_cases hi : Go.Proofs.YtllmfahkiabkcaaG.idxBy (cond_without_1.p q0) l0 = -1
  · have HF := Aside0.mk (Go.Proofs.YtllmfahkiabkcaaG.filter_none hi)
    have HI := Aside0.mk (show idx_cond_without_1.f l0 q0 = some (-1) by unfold idx_cond_without_1.f; rw [hi])
    clear ho0 hC hlc hB hb0 hn0 hi hs0
    go_enter Try.func33, Try.ntmps33
    go_wp2_with (go_at_call 35; (with_reducible refine (idx_cond_without_1.calls _ _ l0 gc q0 _ _ ?side1 ?side2 ?side3 HI.out).mono ?_); (case side1 => exact HCR.out); (case side2 => exact HCC.out); (case side3 => exact HBX.out); rintro e w2 ⟨rfl, hb⟩; have HB2 := Aside0.mk hb; clear hb)
    go_ret
    refine ⟨_, rfl, ?_, below_step HB.out HB2.out, Kept.of_below HB2.out _⟩
    rw [HF.out]
    exact Kd.R_mono (Kd.R_below HO.out HB2.out) (fun _ hk => .inl hk)
  · obtain ⟨k0, x0, hk, hx0, hp0, hlow⟩ := Go.Proofs.YtllmfahkiabkcaaG.idxBy_found hi
    have hkl := (List.getElem?_eq_some_iff.1 hx0).1
    obtain ⟨g, c', hv, _⟩ := Kd.R_form ho0 (by omega)
    injection hv with hA _ hc'
    subst hA; subst hc'
    have HPG := Aside0.mk (ho0.1 g (by simp [Value.ownBlock]))
    have hne : gc ≠ g := fun e => HNG.out (e ▸ HPG.out)
    have HNE := Aside0.mk hne
    have hcm : c ≤ 9223372036854775807 := by
      obtain ⟨_, inner, hown, _⟩ := ho0
      rcases hown.2 with ⟨hv, _⟩ | ⟨g', cap', cur, hv, _, _, _, hcm, _⟩
      · cases hv
      · injection hv with _ _ hc
        subst hc
        unfold maxLen at hcm
        exact hcm
    have HI := Aside0.mk (show idx_cond_without_1.f l0 q0 = some (k0 : Int) by unfold idx_cond_without_1.f; rw [hk])
    have HST := Aside0.mk (Go.Proofs.YtllmfahkiabkcaaG.Kept1.start (q := fun x => !cond_without_1.p q0 x) hx0 (by simp [hp0]) (fun t y ht hy => by simp [hlow t y ht hy]))
    clear ho0 hC hB hb0 hn0 hi hk hx0 hp0 hlow hne hs0
    obtain ⟨n, hn⟩ : ∃ n, n = l0.length := ⟨_, rfl⟩
    have HN := Aside0.mk hn
    rw [← hn] at HO HCR HCC hkl hlc ⊢
    clear hn
    have hm1 : ((k0 : Int) == -1) = false := beq_eq_false_iff_ne.2 (by omega)
    go_enter Try.func33, Try.ntmps33
    go_wp2_with (go_at_call 35; rw [HN.out]; (with_reducible refine (idx_cond_without_1.calls _ _ l0 gc q0 _ _ ?side1 ?side2 ?side3 HI.out).mono ?_); (case side1 => rw [← HN.out]; exact HCR.out); (case side2 => rw [← HN.out]; exact HCC.out); (case side3 => exact HBX.out); rintro e w2 ⟨rfl, hb⟩; have HB2 := Aside0.mk hb; clear hb; rw [← HN.out])
    go_loopw [5, 6, 7] (fun s5 s6 _ wr => ∃ (i j : Nat) (ys : List Int), s5 = .int .i64 (i : Int) ∧ s6 = .int .i64 (j : Int) ∧ j ≤ n ∧ Aside0 (Go.Proofs.YtllmfahkiabkcaaG.Kept1 (fun x => !cond_without_1.p q0 x) l0 ys i j) ∧ Aside0 (Kd.R (Kd.int .i64) 3 wr w0.heap.size P0_ (.slice (some ⟨g, 0, none⟩) n c) ys) ∧ Aside0 (wr.heap[gc]? = some (.cells #[.int .i64 q0] 3 (0, 0))) ∧ Aside0 (Below w0.heap.size w0 wr) ∧ Aside0 (Kept w wr P0_)) (fun _ s6 _ _ => n - (intOf s6).toNat)
    case atStart => exact ⟨k0, k0 + 1, l0, rfl, by go_num, by omega, HST, ⟨Kd.R_below HO.out HB2.out⟩, ⟨blk_below HBX.out HB2.out⟩, ⟨below_step HB.out HB2.out⟩, ⟨Kept.of_below HB2.out _⟩⟩
    case round =>
      obtain ⟨i, j, ys, rfl, rfl, hj, HK1, HO1, HBX1, HB1, HKP⟩ := hrel
      have hij := HK1.out.lt
      by_cases hlt : j < n
      · have hyl := HK1.out.len
        rw [← HN.out] at hyl
        obtain ⟨hyn_, hnc1, hC1⟩ := Kd.R_reads' HO1.out
        obtain ⟨ad, e, h0⟩ := Kd.at_int hC1 (j : Int) (by omega) (by omega)
        obtain ⟨ad2, e2, k0_⟩ := Kd.at_int hC1 (i : Int) (by omega) (by omega)
        cases e
        cases e2
        simp only [Int.toNat_natCast, add_plain] at h0 k0_
        have hxj : ys[j]? = some (rd ys (j : Int)) := by
          unfold rd
          rw [Int.toNat_natCast, List.getD_eq_getElem?_getD, List.getElem?_eq_getElem (by omega)]
          rfl
        have HXJ := Aside0.mk hxj
        have HYL := Aside0.mk hyl
        have KC0 := Aside0.mk k0_
        clear hxj k0_ hC1 hyl hnc1 hyn_
        have hj0_ : (0 : Int) ≤ (j : Int) := by omega
        have hi0_ : (0 : Int) ≤ (i : Int) := by omega
        have hin : i < n := by omega
        by_cases hp : cond_without_1.p q0 (rd ys (j : Int)) = true
        · go_wp2_with (go_at_call 34; (with_reducible refine (cond_without_1.calls (rd ys (j : Int)) gc q0 _ ?side1).mono ?_); (case side1 => first | exact HBX1.out | exact blk_drewN HBX1.out _ | exact blk_drew HBX1.out | exact blk_alloc HBX1.out _); rintro e w3 ⟨rfl, hb⟩; have HB3 := Aside0.mk hb; clear hb)
          go_roundw
          case rel => exact ⟨i, j + 1, ys, by go_num, by go_num, by omega, ⟨HK1.out.skip HXJ.out (by simp [hp])⟩, ⟨Kd.R_below HO1.out HB3.out⟩, ⟨blk_below HBX1.out HB3.out⟩, ⟨below_step HB1.out HB3.out⟩, ⟨Kept.below HKP.out HB3.out⟩⟩
          case measure => simp [intOf]; omega
        · have hpf : cond_without_1.p q0 (rd ys (j : Int)) = false := by simpa using hp
          clear hp
          go_wp2_with (first | (go_at_call 34; (with_reducible refine (cond_without_1.calls (rd ys (j : Int)) gc q0 _ ?side1).mono ?_); (case side1 => first | exact HBX1.out | exact blk_drewN HBX1.out _ | exact blk_drew HBX1.out | exact blk_alloc HBX1.out _); rintro e w3 ⟨rfl, hb⟩; have HB3 := Aside0.mk hb; have KD0 := Aside0.mk (pw_cell_below hb KC0.out); clear hb) | ((with_reducible refine gate_store (t := 3) (p := 33) rfl ?_); refine Kd.R_store (Kd.int .i64) (w0 := w0) w0.heap.size rfl rfl 3 (.tmp 33) (.tmp 32) rfl 3 (g := g) (n := n) (cap := c) (o' := i) (i : Int) 0 ys (rd ys (j : Int)) (.int .i64 (rd ys (j : Int))) [.int .i64 (rd ys (j : Int))] [.int .i64 (rd ys (i : Int))] P0_ (fun _ => False) rfl ?ho rfl rfl (by kernel_rfl) (by simp [Value.oneCell']) (Kd.R_below HO1.out HB3.out) hi0_ ?hi rfl ?hcc (show 0 + 1 ≤ 1 from by omega) rfl (fun _ h => h.elim) (below_step HB1.out HB3.out) ?_; (case ho => simp [Kd.int, Kd.scalar]); (case hi => omega); (case hcc => intro t u ht; cases t with | zero => (injection ht with ht; subst ht; simpa [Kd.int, Kd.scalar] using KD0.out) | succ t => (simp at ht)); intro w4 ho hb hg; have HO4 := Aside0.mk ho; have HB4 := Aside0.mk hb; have HG4 := Aside0.mk hg; clear ho hb hg))
          go_roundw
          case rel => exact ⟨i + 1, j + 1, ys.set i (rd ys (j : Int)), by go_num, by go_num, by omega, ⟨HK1.out.keep HXJ.out (by simp [hpf])⟩, ⟨by simpa using HO4.out⟩, ⟨blk_grown (blk_below HBX1.out HB3.out) HG4.out (fun e => HNE.out (by injection e))⟩, ⟨HB4.out⟩, ⟨Kept.of_grown HG4.out (Kept.below HKP.out HB3.out) (fun k hk => by injection hk with hk; subst hk; exact .inl HPG.out)⟩⟩
          case measure => simp [intOf]; omega
      · obtain rfl : j = n := by omega
        have hin : i < j := hij
        have hci : ¬ (c = i) := by omega
        have hic : i ≤ c := by omega
        have hi0_ : (0 : Int) ≤ (i : Int) := by omega
        obtain ⟨w4, hcl, ho, hg⟩ := Go.Proofs.YtllmfahkiabkcaaG.clear_rest (Kd.int .i64) w0.heap.size 22 0 3 (.int .i64 0) Try.underlying22 (fun _ => by kernel_rfl) rfl (by decide) (by decide) HO1.out hin (c - i) (A := ⟨g, i, none⟩) (by simp [Kd.int, Kd.scalar])
        have HO4 := Aside0.mk ho
        have HG4 := Aside0.mk hg
        clear ho hg
        have hlt' : ¬ ((j : Int) < (j : Int)) := by omega
        go_wp2
        go_ret
        refine ⟨_, rfl, ?_, HB1.out.grown HG4.out HB1.out.size (fun k hk => by injection hk with hk; subst hk; exact Kd.R_base HO1.out _ (by simp [Value.ownBlock])), Kept.of_grown HG4.out HKP.out (fun k hk => by injection hk with hk; subst hk; exact .inl HPG.out)⟩
        rw [← HK1.out.done HN.out]
        exact Kd.R_mono HO4.out (fun _ hk => .inl hk)

/-! ### cond_without: function 29 -/
def cond_without.f (l0 : List Int) (a1 : Int) : Option (List Int) := (slices_Clone_int_int.f l0).bind fun t145 => ((del_cond_without_1.f t145 a1).bind fun t148 => (some t148))
set_option maxHeartbeats 8000000 in
set_option maxRecDepth 100000 in
theorem cond_without.calls (A0 : Option Addr) (c0 : Nat) (l0 : List Int) (a1 : Int) (r : List Int) (w : World) (hr0 : Kd.C (Kd.int .i64) w A0 l0.length l0) (hc0 : l0.length ≤ c0) (h : cond_without.f l0 a1 = some r) :
  Calls Try.prog 29 #[.slice A0 l0.length c0, .int .i64 a1] w fun e w' => ∃ v0_ : Value, e = .returned (v0_) ∧ Kd.R (Kd.int .i64) 3 w' w.heap.size (fun _ => True) v0_ r ∧ Below w.heap.size w w' := by
 have HR0 := Aside0.mk hr0
 have HC0 := Aside0.mk hc0
 clear hr0 hc0
 have HB := Aside0.mk (Below.refl w.heap.size w)
 have H : ((slices_Clone_int_int.f l0).bind fun t145 => ((del_cond_without_1.f t145 a1).bind fun t148 => (some t148))) = some r := h
 clear h
 replace H := Option.bind_eq_some_iff.mp H
 obtain ⟨t145, A30, H⟩ := H
 replace H : ((del_cond_without_1.f t145 a1).bind fun t148 => (some t148)) = some r := H
 have A3 := Aside0.mk A30
 clear A30
 replace H := Option.bind_eq_some_iff.mp H
 obtain ⟨t148, A40, H⟩ := H
 replace H : (some t148) = some r := H
 have A4 := Aside0.mk A40
 clear A40
 obtain rfl := Option.some.inj H
 go_enter Try.func29, Try.ntmps29
 go_wp2_with (first | ((with_reducible refine gate_dst (N := 3) rfl ?_); refine box_event ?hg (N := 3) ?hd (cs := #[.int .i64 a1]) (t := 3) ?hr ?_; (case hd => rfl); (case hg => rfl); (case hr => first | (go_simp; done) | (go_simp; rfl)); intro gb144 hg w5 hbox hb; have n0_ := Aside0.mk (below_step (zc0 HB) hb); have n1_ := Aside0.mk (hbox); have n2_ := Aside0.mk ((by rw [hg]; exact (below_size (zc0 HB)) : w.heap.size ≤ gb144)); have n3_ := Aside0.mk ((by rw [hg]; exact (below_size (zc0 HB)) : w.heap.size ≤ gb144)); clear HB; have HB := n0_; have BK144 := n1_; have GW144 := n2_; have GE144 := n3_; clear n0_ n1_ n2_ n3_; clear hb hbox hg) | ((with_reducible refine gate_callee (f := 25) rfl ?_); refine goesL_ (some 6) rfl rfl Try.func25 (by kernel_rfl) rfl #[.slice A0 l0.length c0] rfl zm ?_; (with_reducible refine (slices_Clone_int_int.calls _ _ l0 t145 _ ?side1 ?side2 A3.out).mono ?_); (case side1 => repeat (first | exact (Kd.C_below HR0.out HB.out) | (with_reducible refine Kd.C_alloc ?_ _) | (with_reducible refine Kd.C_drewN ?_ _) | (with_reducible refine Kd.C_drew ?_))); (case side2 => exact HC0.out); rintro e w6 ⟨v146, rfl, ho0, hb⟩; refine ⟨_, rfl, ?_⟩; have n0_ := Aside0.mk (Kd.R_lower (Kd.R_newB ho0 (g := gb144) (o := .cells #[.int .i64 a1] 3 (0, 0)) (zb BK144)) (below_size (zc1 HB GE144))); have n1_ := Aside0.mk (blk_below (g := gb144) (o := .cells #[.int .i64 a1] 3 (0, 0)) (zb BK144) hb); have n2_ := Aside0.mk (below_step (zc1 HB GE144) hb); clear BK144; clear HB; have HO147 := n0_; have BK144 := n1_; have HB := n2_; clear n0_ n1_ n2_; (try clear hb); (try clear hb2); (try clear hk); (try clear hi); (try clear ho0); obtain ⟨Ao7, co7, eo7⟩ := Kd.R_slice HO147.out; subst eo7) | ((with_reducible refine gate_callee (f := 33) rfl ?_); refine goesL_ (some 8) rfl rfl Try.func33 (by kernel_rfl) rfl #[.slice Ao7 t145.length co7, .func (.func 34) #[] #[.pointer (some ⟨gb144, 0, none⟩)]] rfl zm ?_; (with_reducible refine (del_cond_without_1.calls (fun k_ => some k_ = (.slice Ao7 t145.length co7 : Value).ownBlock) (.slice Ao7 t145.length co7) t145 gb144 a1 t148 w _ ?side1 ?side2 ?side3 ?side4 A4.out).mono ?_); (case side1 => repeat (first | (with_reducible first | exact HB.out | apply below_alloc | apply pw_below_drewN | apply below_drew1 | refine below_set ?_ GE144.out) | exact HB.out)); (case side2 => exact Kd.R_tight rfl HO147.out); (case side3 => exact (zb BK144)); (case side4 => exact fun e_ => (Kd.R_away HO147.out (fun _ hk => hk.2)) e_); rintro e w8 ⟨v149, rfl, ho0, hb, hkp⟩; refine ⟨_, rfl, ?_⟩; have n0_ := Aside0.mk (blk_kept (zb BK144) hkp (fun hs_ => (fun e_ => (Kd.R_away HO147.out (fun _ hk => hk.2)) e_) hs_)); have n1_ := Aside0.mk (Kd.R_mono (ok' := fun k_ => k_ ≠ gb144) ho0 (fun k_ hk_ => Or.elim hk_ (fun hs_ => fun e_ => (Kd.R_away HO147.out (fun _ hk => hk.2)) (by rw [← e_]; exact hs_)) (fun hn_ => (Kd.freshB (g := gb144) (o := .cells #[.int .i64 a1] 3 (0, 0)) (zb BK144) k_ hn_)))); have n2_ := Aside0.mk (hb); clear BK144; clear HB; clear HO147; have BK144 := n0_; have HO150 := n1_; have HB := n2_; clear n0_ n1_ n2_; (try clear hb); (try clear hkp); (try clear ho0)))
 go_ret
 exact ⟨_, by first | rfl | (simp [errW_none, errW_some] <;> rfl) | (simp [*, errW_none, errW_some] <;> rfl), by (with_reducible repeat (first | apply Kd.R_alloc | apply Kd.R_drewN | apply Kd.R_drew)); exact Kd.R_mono HO150.out (fun _ hk => trivial), by repeat (first | (with_reducible first | exact HB.out | apply below_alloc | apply pw_below_drewN | apply below_drew1 | refine below_set ?_ GE144.out) | exact HB.out)⟩

/-! ### cond_Go: function 15 -/
def cond_Go.f (k : Nat) (l0_0 : List Int) (l0_1 : List Int) (a1 : Int) : Option (List Int × List Int × Int) := (cond_Right.f k l0_0 l0_1).bind fun t153 => (if t153 = true then ((slices_Contains_int_int.f k l0_0 a1).bind fun t154 => (if t154 = true then (some (l0_0, l0_1, 9)) else ((slices_Contains_int_int.f k l0_1 a1).bind fun t155 => (if t155 = true then ((cond_without.f l0_1 a1).bind fun t156 => (some (l0_0, t156, 0))) else (some (l0_0, l0_1, 3)))))) else (some (l0_0, l0_1, 1)))
theorem cond_Go.mono : ∀ a0 a1 a2 k, LeO (cond_Go.f k a0 a1 a2) (cond_Go.f (k + 1) a0 a1 a2) := by
 intro a0 a1 a2 k
 unfold cond_Go.f
 repeat' first
   | (with_reducible exact cond_Right.mono _ _ _)
   | (with_reducible exact slices_Contains_int_int.mono _ _ _)
   | (with_reducible exact LeO.refl _)
   | (with_reducible exact LeO.none _)
   | (with_reducible refine LeO.ite ?_ ?_)
   | (with_reducible refine LeO.bind ?_ (fun _ => ?_))
   | exact cond_Right.mono _ _ _
   | exact slices_Contains_int_int.mono _ _ _
   | exact LeO.none _
   | refine LeO.ite ?_ ?_
   | refine LeO.bind ?_ (fun _ => ?_)
set_option maxHeartbeats 8000000 in
set_option maxRecDepth 100000 in
theorem cond_Go.calls (k : Nat) (P0_0_ : Nat → Prop) (A0_0 : Option Addr) (c0_0 : Nat) (l0_0 : List Int) (P0_1_ : Nat → Prop) (A0_1 : Option Addr) (c0_1 : Nat) (l0_1 : List Int) (a1 : Int) (r1 : List Int) (r2 : List Int) (r3 : Int) (w : World) (hs0_0 : Kd.V (Kd.int .i64) 3 w w.heap.size (fun k_ => P0_0_ k_) (.slice A0_0 l0_0.length c0_0) l0_0) (hs0_1 : Kd.V (Kd.int .i64) 3 w w.heap.size (fun k_ => P0_1_ k_) (.slice A0_1 l0_1.length c0_1) l0_1) (h : cond_Go.f k l0_0 l0_1 a1 = some (r1, r2, r3)) :
  Calls Try.prog 15 #[.agg #[.slice A0_0 l0_0.length c0_0, .slice A0_1 l0_1.length c0_1], .int .i64 a1] w fun e w' => ∃ v0_ v1_ : Value, e = .returned (.tuple #[.agg #[v0_, v1_], .int .i64 r3]) ∧ Kd.V (Kd.int .i64) 3 w' w.heap.size (fun k_ => ((P0_0_ k_ ∨ P0_1_ k_) ∨ w.heap.size ≤ k_)) v0_ r1 ∧ Kd.V (Kd.int .i64) 3 w' w.heap.size (fun k_ => ((P0_0_ k_ ∨ P0_1_ k_) ∨ w.heap.size ≤ k_)) v1_ r2 ∧ Below w.heap.size w w' := by
 have hu24 := Try.underlying24
 have HO0_0 := Aside0.mk (show Kd.V (Kd.int .i64) 3 w w.heap.size (fun k_ => ((P0_0_ k_ ∨ P0_1_ k_) ∨ w.heap.size ≤ k_)) (.slice A0_0 l0_0.length c0_0) l0_0 from Kd.V_mono hs0_0 (fun k_ hk => .inl (.inl hk)))
 have HO0_1 := Aside0.mk (show Kd.V (Kd.int .i64) 3 w w.heap.size (fun k_ => ((P0_0_ k_ ∨ P0_1_ k_) ∨ w.heap.size ≤ k_)) (.slice A0_1 l0_1.length c0_1) l0_1 from Kd.V_mono hs0_1 (fun k_ hk => .inl (.inr hk)))
 have HB := Aside0.mk (Below.refl w.heap.size w)
 have H : ((cond_Right.f k l0_0 l0_1).bind fun t153 => (if t153 = true then ((slices_Contains_int_int.f k l0_0 a1).bind fun t154 => (if t154 = true then (some (l0_0, l0_1, 9)) else ((slices_Contains_int_int.f k l0_1 a1).bind fun t155 => (if t155 = true then ((cond_without.f l0_1 a1).bind fun t156 => (some (l0_0, t156, 0))) else (some (l0_0, l0_1, 3)))))) else (some (l0_0, l0_1, 1)))) = some (r1, r2, r3) := h
 clear h
 replace H := Option.bind_eq_some_iff.mp H
 obtain ⟨t153, A30, H⟩ := H
 replace H : (if t153 = true then ((slices_Contains_int_int.f k l0_0 a1).bind fun t154 => (if t154 = true then (some (l0_0, l0_1, 9)) else ((slices_Contains_int_int.f k l0_1 a1).bind fun t155 => (if t155 = true then ((cond_without.f l0_1 a1).bind fun t156 => (some (l0_0, t156, 0))) else (some (l0_0, l0_1, 3)))))) else (some (l0_0, l0_1, 1))) = some (r1, r2, r3) := H
 have A3 := Aside0.mk A30
 clear A30
 by_cases c4 : t153 = true
 ·subst c4
  have H1 : ((slices_Contains_int_int.f k l0_0 a1).bind fun t154 => (if t154 = true then (some (l0_0, l0_1, 9)) else ((slices_Contains_int_int.f k l0_1 a1).bind fun t155 => (if t155 = true then ((cond_without.f l0_1 a1).bind fun t156 => (some (l0_0, t156, 0))) else (some (l0_0, l0_1, 3)))))) = some (r1, r2, r3) := by rw [if_pos rfl] at H; exact H
  clear H
  have H := H1
  clear H1
  replace H := Option.bind_eq_some_iff.mp H
  obtain ⟨t154, A50, H⟩ := H
  replace H : (if t154 = true then (some (l0_0, l0_1, 9)) else ((slices_Contains_int_int.f k l0_1 a1).bind fun t155 => (if t155 = true then ((cond_without.f l0_1 a1).bind fun t156 => (some (l0_0, t156, 0))) else (some (l0_0, l0_1, 3))))) = some (r1, r2, r3) := H
  have A5 := Aside0.mk A50
  clear A50
  by_cases c6 : t154 = true
  ·subst c6
   have H1 : (some (l0_0, l0_1, 9)) = some (r1, r2, r3) := by rw [if_pos rfl] at H; exact H
   clear H
   have H := H1
   clear H1
   simp only [Option.some.injEq, Prod.mk.injEq] at H
   obtain ⟨rfl, rfl, rfl⟩ := H
   go_enter Try.func15, Try.ntmps15
   go_wp2_with (first | ((with_reducible refine gate_dst (N := 2) rfl ?_); refine box_event ?hg (N := 2) ?hd (cs := #[.slice A0_0 l0_0.length c0_0, .slice A0_1 l0_1.length c0_1]) (t := 24) ?hr ?_; (case hd => rfl); (case hg => rfl); (case hr => first | (go_simp; done) | (go_simp; rfl)); intro gb151 hg w7 hbox hb; have n0_ := Aside0.mk (Kd.V_below (Kd.V_elderB (zV HO0_0) gb151 (Nat.le_of_eq hg.symm)) hb); have n1_ := Aside0.mk (Kd.V_below (Kd.V_elderB (zV HO0_1) gb151 (Nat.le_of_eq hg.symm)) hb); have n2_ := Aside0.mk (below_step (zc0 HB) hb); have n3_ := Aside0.mk (hbox); have n4_ := Aside0.mk ((by rw [hg]; exact (below_size (zc0 HB)) : w.heap.size ≤ gb151)); have n5_ := Aside0.mk ((by rw [hg]; exact (below_size (zc0 HB)) : w.heap.size ≤ gb151)); clear HO0_0; clear HO0_1; clear HB; have HO0_0 := n0_; have HO0_1 := n1_; have HB := n2_; have BK151 := n3_; have GW151 := n4_; have GE151 := n5_; clear n0_ n1_ n2_ n3_ n4_ n5_; clear hb hbox hg) | ((with_reducible refine gate_dst (N := 4) rfl ?_); refine box_event ?hg (N := 4) ?hd (cs := #[.slice none 0 0, .slice none 0 0]) (t := 24) ?hr ?_; (case hd => rfl); (case hg => rfl); (case hr => first | (go_simp; done) | (go_simp; rfl)); intro gb152 hg w8 hbox hb; have n0_ := Aside0.mk (Kd.V_below (Kd.V_elderB (zV HO0_0) gb152 (Nat.le_of_eq hg.symm)) hb); have n1_ := Aside0.mk (Kd.V_below (Kd.V_elderB (zV HO0_1) gb152 (Nat.le_of_eq hg.symm)) hb); have n2_ := Aside0.mk (blk_below (g := gb151) (o := .cells #[.slice A0_0 l0_0.length c0_0, .slice A0_1 l0_1.length c0_1] 24 (0, 0)) (zb BK151) hb); have n3_ := Aside0.mk (below_step (zc1 HB GE151) hb); have n4_ := Aside0.mk (hbox); have n5_ := Aside0.mk ((by rw [hg]; exact (below_size (zc1 HB GE151)) : w.heap.size ≤ gb152)); have n6_ := Aside0.mk ((by rw [hg]; exact (below_size (zc1 HB GE151)) : w.heap.size ≤ gb152)); have n7_ := Aside0.mk ((by rw [hg]; exact Nat.ne_of_lt (blk_lt (g := gb151) (o := .cells #[.slice A0_0 l0_0.length c0_0, .slice A0_1 l0_1.length c0_1] 24 (0, 0)) (zb BK151)) : gb151 ≠ gb152)); have n8_ := Aside0.mk ((by rw [hg]; exact Nat.ne_of_gt (blk_lt (g := gb151) (o := .cells #[.slice A0_0 l0_0.length c0_0, .slice A0_1 l0_1.length c0_1] 24 (0, 0)) (zb BK151)) : gb152 ≠ gb151)); clear HO0_0; clear HO0_1; clear BK151; clear HB; have HO0_0 := n0_; have HO0_1 := n1_; have BK151 := n2_; have HB := n3_; have BK152 := n4_; have GW152 := n5_; have GE152 := n6_; have NB151_152 := n7_; have NB152_151 := n8_; clear n0_ n1_ n2_ n3_ n4_ n5_ n6_ n7_ n8_; clear hb hbox hg; have hnb9 := NB151_152.out; have hnc9 := NB152_151.out; have hcz10_0 : w8.cell? ⟨gb151, 0, none⟩ = some (.slice A0_0 l0_0.length c0_0) := (blk_cell BK151.out 0).trans rfl; have hcz10_1 : w8.cell? ⟨gb151, 1, none⟩ = some (.slice A0_1 l0_1.length c0_1) := (blk_cell BK151.out 1).trans rfl; have hfz10_0 := blk_frozen BK151.out 0; have hfz10_1 := blk_frozen BK151.out 1) | ((with_reducible refine gate_callee (f := 19) rfl ?_); refine goesL_ (some 8) rfl rfl Try.func19 (by kernel_rfl) rfl #[.agg #[.slice A0_0 l0_0.length c0_0, .slice A0_1 l0_1.length c0_1]] rfl zm ?_; (with_reducible refine (cond_Right.calls k (fun k_ => ((((P0_0_ k_ ∨ P0_1_ k_) ∨ w.heap.size ≤ k_) ∧ k_ ≠ gb151) ∧ k_ ≠ gb152)) _ _ l0_0 (fun k_ => ((((P0_0_ k_ ∨ P0_1_ k_) ∨ w.heap.size ≤ k_) ∧ k_ ≠ gb151) ∧ k_ ≠ gb152)) _ _ l0_1 true _ ?side1 ?side2 A3.out).mono ?_); (case side1 => exact HO0_0.out); (case side2 => exact HO0_1.out); rintro e w11 ⟨rfl, hb⟩; refine ⟨_, rfl, ?_⟩; have n0_ := Aside0.mk (Kd.V_below (zV HO0_0) hb); have n1_ := Aside0.mk (Kd.V_below (zV HO0_1) hb); have n2_ := Aside0.mk (blk_below (g := gb151) (o := .cells #[.slice A0_0 l0_0.length c0_0, .slice A0_1 l0_1.length c0_1] 24 (0, 0)) (zb BK151) hb); have n3_ := Aside0.mk (blk_below (g := gb152) (o := .cells #[.slice none 0 0, .slice none 0 0] 24 (0, 0)) (zb BK152) hb); have n4_ := Aside0.mk (below_step (zc2 HB GE151 GE152) hb); clear HO0_0; clear HO0_1; clear BK151; clear BK152; clear HB; have HO0_0 := n0_; have HO0_1 := n1_; have BK151 := n2_; have BK152 := n3_; have HB := n4_; clear n0_ n1_ n2_ n3_ n4_; (try clear hb); (try clear hb2); (try clear hk); (try clear hi); have hcz12_0 : w11.cell? ⟨gb151, 0, none⟩ = some (.slice A0_0 l0_0.length c0_0) := (blk_cell BK151.out 0).trans rfl; have hcz12_1 : w11.cell? ⟨gb151, 1, none⟩ = some (.slice A0_1 l0_1.length c0_1) := (blk_cell BK151.out 1).trans rfl; have hfz12_0 := blk_frozen BK151.out 0; have hfz12_1 := blk_frozen BK151.out 1) | ((with_reducible refine gate_callee (f := 24) rfl ?_); refine goesL_ (some 15) rfl rfl Try.func24 (by kernel_rfl) rfl #[.slice A0_0 l0_0.length c0_0, .int .i64 a1] rfl zm ?_; (with_reducible refine (slices_Contains_int_int.calls k _ _ l0_0 a1 true _ ?side1 ?side2 A5.out).mono ?_); (case side1 => repeat (first | exact (Kd.V_reads' HO0_0.out).2.2 | (with_reducible refine Kd.C_alloc ?_ _) | (with_reducible refine Kd.C_drewN ?_ _) | (with_reducible refine Kd.C_drew ?_))); (case side2 => exact (Kd.V_reads' HO0_0.out).2.1); rintro e w' ⟨rfl, ⟨nd, rfl⟩⟩; refine ⟨_, rfl, ?_⟩; (try (rw [drewN_self w11]; generalize hq_ : World.drewN w11 _ = w11; have n0_ : Aside0 (Kd.V (Kd.int .i64) 3 w11 w.heap.size (fun k_ => ((P0_0_ k_ ∨ P0_1_ k_) ∨ w.heap.size ≤ k_) ∧ k_ ≠ gb151 ∧ k_ ≠ gb152) (.slice A0_0 l0_0.length c0_0) l0_0) := ⟨by rw [← hq_]; exact (by (with_reducible repeat (first | apply Kd.V_alloc | apply Kd.V_drewN | apply Kd.V_drew)); exact Kd.V_mono HO0_0.out (fun _ hk => ⟨hk.1.1, ⟨hk.1.2, hk.2⟩⟩))⟩; have n1_ : Aside0 (Kd.V (Kd.int .i64) 3 w11 w.heap.size (fun k_ => ((P0_0_ k_ ∨ P0_1_ k_) ∨ w.heap.size ≤ k_) ∧ k_ ≠ gb151 ∧ k_ ≠ gb152) (.slice A0_1 l0_1.length c0_1) l0_1) := ⟨by rw [← hq_]; exact (by (with_reducible repeat (first | apply Kd.V_alloc | apply Kd.V_drewN | apply Kd.V_drew)); exact Kd.V_mono HO0_1.out (fun _ hk => ⟨hk.1.1, ⟨hk.1.2, hk.2⟩⟩))⟩; have n2_ : Aside0 (w11.heap[gb151]? = some (.cells #[.slice A0_0 l0_0.length c0_0, .slice A0_1 l0_1.length c0_1] 24 (0, 0))) := ⟨by rw [← hq_]; exact (zb BK151)⟩; have n3_ : Aside0 (w11.heap[gb152]? = some (.cells #[.slice none 0 0, .slice none 0 0] 24 (0, 0))) := ⟨by rw [← hq_]; exact (zb BK152)⟩; have n4_ : Aside0 (Below w.heap.size w w11) := ⟨by rw [← hq_]; exact (zc2 HB GE151 GE152)⟩; clear HO0_0 HO0_1 BK151 BK152 HB hq_; have HO0_0 := n0_; have HO0_1 := n1_; have BK151 := n2_; have BK152 := n3_; have HB := n4_; clear n0_ n1_ n2_ n3_ n4_)); have n_ := Aside0.mk (Kd.V_mono (ok' := (fun k_ => ((P0_0_ k_ ∨ P0_1_ k_) ∨ w.heap.size ≤ k_) ∧ k_ ≠ gb151 ∧ k_ ≠ gb152)) HO0_0.out (fun k_ hk => by first | exact hk | exact ⟨hk.1.1, ⟨hk.1.2, hk.2⟩⟩)); clear HO0_0; have HO0_0 := n_; clear n_; have n_ := Aside0.mk (Kd.V_mono (ok' := (fun k_ => ((P0_0_ k_ ∨ P0_1_ k_) ∨ w.heap.size ≤ k_) ∧ k_ ≠ gb151 ∧ k_ ≠ gb152)) HO0_1.out (fun k_ hk => by first | exact hk | exact ⟨hk.1.1, ⟨hk.1.2, hk.2⟩⟩)); clear HO0_1; have HO0_1 := n_; clear n_; have hcz13_0 : w11.cell? ⟨gb151, 0, none⟩ = some (.slice A0_0 l0_0.length c0_0) := (blk_cell BK151.out 0).trans rfl; have hcz13_1 : w11.cell? ⟨gb151, 1, none⟩ = some (.slice A0_1 l0_1.length c0_1) := (blk_cell BK151.out 1).trans rfl; have hfz13_0 := blk_frozen BK151.out 0; have hfz13_1 := blk_frozen BK151.out 1; have hcz14_0 : w11.cell? ⟨gb152, 0, none⟩ = some (.slice none 0 0) := (blk_cell BK152.out 0).trans rfl; have hcz14_1 : w11.cell? ⟨gb152, 1, none⟩ = some (.slice none 0 0) := (blk_cell BK152.out 1).trans rfl; have hfz14_0 := blk_frozen BK152.out 0; have hfz14_1 := blk_frozen BK152.out 1))
   refine bodyPost_ret (results_ct rfl _ _ gb152 24 #[.slice A0_0 l0_0.length c0_0, .slice A0_1 l0_1.length c0_1] (0, 0) _ rfl (by (with_reducible repeat (first | refine blk_drewN ?_ _ | refine blk_drew ?_ | refine blk_alloc ?_ _)); refine blk_put (cs := #[.slice A0_0 l0_0.length c0_0, .slice none 0 0]) ?_ 1 _ rfl; (with_reducible repeat (first | refine blk_drewN ?_ _ | refine blk_drew ?_ | refine blk_alloc ?_ _)); refine blk_put (cs := #[.slice none 0 0, .slice none 0 0]) ?_ 0 _ rfl; (with_reducible repeat (first | refine blk_drewN ?_ _ | refine blk_drew ?_ | refine blk_alloc ?_ _)); exact BK152.out) Try.underlying24 rfl (by kernel_rfl)) rfl ?_
   exact ⟨_, _, by first | rfl | (simp [errW_none, errW_some] <;> rfl) | (simp [*, errW_none, errW_some] <;> rfl), by (with_reducible repeat (first | apply Kd.V_alloc | apply Kd.V_drewN | apply Kd.V_drew)); exact Kd.V_mono (Kd.V_far (p := ⟨gb152, 1, none⟩) (Kd.V_far (p := ⟨gb152, 0, none⟩) (Kd.V_mono HO0_0.out (fun k_ hk => (⟨hk, hk.2.2⟩ : _ ∧ k_ ≠ gb152))) (fun _ hk => hk.2) (.slice A0_0 l0_0.length c0_0)) (fun _ hk => hk.2) (.slice A0_1 l0_1.length c0_1)) (fun _ hk => hk.1.1), by (with_reducible repeat (first | apply Kd.V_alloc | apply Kd.V_drewN | apply Kd.V_drew)); exact Kd.V_mono (Kd.V_far (p := ⟨gb152, 1, none⟩) (Kd.V_far (p := ⟨gb152, 0, none⟩) (Kd.V_mono HO0_1.out (fun k_ hk => (⟨hk, hk.2.2⟩ : _ ∧ k_ ≠ gb152))) (fun _ hk => hk.2) (.slice A0_0 l0_0.length c0_0)) (fun _ hk => hk.2) (.slice A0_1 l0_1.length c0_1)) (fun _ hk => hk.1.1), by repeat (first | (with_reducible first | exact HB.out | apply below_alloc | apply pw_below_drewN | apply below_drew1 | refine below_set ?_ GE151.out | refine below_set ?_ GE152.out) | exact HB.out)⟩
  ·replace c6 := Bool.eq_false_iff.mpr c6
   subst c6
   have H1 : ((slices_Contains_int_int.f k l0_1 a1).bind fun t155 => (if t155 = true then ((cond_without.f l0_1 a1).bind fun t156 => (some (l0_0, t156, 0))) else (some (l0_0, l0_1, 3)))) = some (r1, r2, r3) := by rw [if_neg (show ¬ (false = true) by decide)] at H; exact H
   clear H
   have H := H1
   clear H1
   replace H := Option.bind_eq_some_iff.mp H
   obtain ⟨t155, A150, H⟩ := H
   replace H : (if t155 = true then ((cond_without.f l0_1 a1).bind fun t156 => (some (l0_0, t156, 0))) else (some (l0_0, l0_1, 3))) = some (r1, r2, r3) := H
   have A15 := Aside0.mk A150
   clear A150
   by_cases c16 : t155 = true
   ·subst c16
    have H1 : ((cond_without.f l0_1 a1).bind fun t156 => (some (l0_0, t156, 0))) = some (r1, r2, r3) := by rw [if_pos rfl] at H; exact H
    clear H
    have H := H1
    clear H1
    replace H := Option.bind_eq_some_iff.mp H
    obtain ⟨t156, A170, H⟩ := H
    replace H : (some (l0_0, t156, 0)) = some (r1, r2, r3) := H
    have A17 := Aside0.mk A170
    clear A170
    simp only [Option.some.injEq, Prod.mk.injEq] at H
    obtain ⟨rfl, rfl, rfl⟩ := H
    go_enter Try.func15, Try.ntmps15
    go_wp2_with (first | ((with_reducible refine gate_dst (N := 2) rfl ?_); refine box_event ?hg (N := 2) ?hd (cs := #[.slice A0_0 l0_0.length c0_0, .slice A0_1 l0_1.length c0_1]) (t := 24) ?hr ?_; (case hd => rfl); (case hg => rfl); (case hr => first | (go_simp; done) | (go_simp; rfl)); intro gb151 hg w18 hbox hb; have n0_ := Aside0.mk (Kd.V_below (Kd.V_elderB (zV HO0_0) gb151 (Nat.le_of_eq hg.symm)) hb); have n1_ := Aside0.mk (Kd.V_below (Kd.V_elderB (zV HO0_1) gb151 (Nat.le_of_eq hg.symm)) hb); have n2_ := Aside0.mk (below_step (zc0 HB) hb); have n3_ := Aside0.mk (hbox); have n4_ := Aside0.mk ((by rw [hg]; exact (below_size (zc0 HB)) : w.heap.size ≤ gb151)); have n5_ := Aside0.mk ((by rw [hg]; exact (below_size (zc0 HB)) : w.heap.size ≤ gb151)); clear HO0_0; clear HO0_1; clear HB; have HO0_0 := n0_; have HO0_1 := n1_; have HB := n2_; have BK151 := n3_; have GW151 := n4_; have GE151 := n5_; clear n0_ n1_ n2_ n3_ n4_ n5_; clear hb hbox hg) | ((with_reducible refine gate_dst (N := 4) rfl ?_); refine box_event ?hg (N := 4) ?hd (cs := #[.slice none 0 0, .slice none 0 0]) (t := 24) ?hr ?_; (case hd => rfl); (case hg => rfl); (case hr => first | (go_simp; done) | (go_simp; rfl)); intro gb152 hg w19 hbox hb; have n0_ := Aside0.mk (Kd.V_below (Kd.V_elderB (zV HO0_0) gb152 (Nat.le_of_eq hg.symm)) hb); have n1_ := Aside0.mk (Kd.V_below (Kd.V_elderB (zV HO0_1) gb152 (Nat.le_of_eq hg.symm)) hb); have n2_ := Aside0.mk (blk_below (g := gb151) (o := .cells #[.slice A0_0 l0_0.length c0_0, .slice A0_1 l0_1.length c0_1] 24 (0, 0)) (zb BK151) hb); have n3_ := Aside0.mk (below_step (zc1 HB GE151) hb); have n4_ := Aside0.mk (hbox); have n5_ := Aside0.mk ((by rw [hg]; exact (below_size (zc1 HB GE151)) : w.heap.size ≤ gb152)); have n6_ := Aside0.mk ((by rw [hg]; exact (below_size (zc1 HB GE151)) : w.heap.size ≤ gb152)); have n7_ := Aside0.mk ((by rw [hg]; exact Nat.ne_of_lt (blk_lt (g := gb151) (o := .cells #[.slice A0_0 l0_0.length c0_0, .slice A0_1 l0_1.length c0_1] 24 (0, 0)) (zb BK151)) : gb151 ≠ gb152)); have n8_ := Aside0.mk ((by rw [hg]; exact Nat.ne_of_gt (blk_lt (g := gb151) (o := .cells #[.slice A0_0 l0_0.length c0_0, .slice A0_1 l0_1.length c0_1] 24 (0, 0)) (zb BK151)) : gb152 ≠ gb151)); clear HO0_0; clear HO0_1; clear BK151; clear HB; have HO0_0 := n0_; have HO0_1 := n1_; have BK151 := n2_; have HB := n3_; have BK152 := n4_; have GW152 := n5_; have GE152 := n6_; have NB151_152 := n7_; have NB152_151 := n8_; clear n0_ n1_ n2_ n3_ n4_ n5_ n6_ n7_ n8_; clear hb hbox hg; have hnb20 := NB151_152.out; have hnc20 := NB152_151.out; have hcz21_0 : w19.cell? ⟨gb151, 0, none⟩ = some (.slice A0_0 l0_0.length c0_0) := (blk_cell BK151.out 0).trans rfl; have hcz21_1 : w19.cell? ⟨gb151, 1, none⟩ = some (.slice A0_1 l0_1.length c0_1) := (blk_cell BK151.out 1).trans rfl; have hfz21_0 := blk_frozen BK151.out 0; have hfz21_1 := blk_frozen BK151.out 1) | ((with_reducible refine gate_callee (f := 19) rfl ?_); refine goesL_ (some 8) rfl rfl Try.func19 (by kernel_rfl) rfl #[.agg #[.slice A0_0 l0_0.length c0_0, .slice A0_1 l0_1.length c0_1]] rfl zm ?_; (with_reducible refine (cond_Right.calls k (fun k_ => ((((P0_0_ k_ ∨ P0_1_ k_) ∨ w.heap.size ≤ k_) ∧ k_ ≠ gb151) ∧ k_ ≠ gb152)) _ _ l0_0 (fun k_ => ((((P0_0_ k_ ∨ P0_1_ k_) ∨ w.heap.size ≤ k_) ∧ k_ ≠ gb151) ∧ k_ ≠ gb152)) _ _ l0_1 true _ ?side1 ?side2 A3.out).mono ?_); (case side1 => exact HO0_0.out); (case side2 => exact HO0_1.out); rintro e w22 ⟨rfl, hb⟩; refine ⟨_, rfl, ?_⟩; have n0_ := Aside0.mk (Kd.V_below (zV HO0_0) hb); have n1_ := Aside0.mk (Kd.V_below (zV HO0_1) hb); have n2_ := Aside0.mk (blk_below (g := gb151) (o := .cells #[.slice A0_0 l0_0.length c0_0, .slice A0_1 l0_1.length c0_1] 24 (0, 0)) (zb BK151) hb); have n3_ := Aside0.mk (blk_below (g := gb152) (o := .cells #[.slice none 0 0, .slice none 0 0] 24 (0, 0)) (zb BK152) hb); have n4_ := Aside0.mk (below_step (zc2 HB GE151 GE152) hb); clear HO0_0; clear HO0_1; clear BK151; clear BK152; clear HB; have HO0_0 := n0_; have HO0_1 := n1_; have BK151 := n2_; have BK152 := n3_; have HB := n4_; clear n0_ n1_ n2_ n3_ n4_; (try clear hb); (try clear hb2); (try clear hk); (try clear hi); have hcz23_0 : w22.cell? ⟨gb151, 0, none⟩ = some (.slice A0_0 l0_0.length c0_0) := (blk_cell BK151.out 0).trans rfl; have hcz23_1 : w22.cell? ⟨gb151, 1, none⟩ = some (.slice A0_1 l0_1.length c0_1) := (blk_cell BK151.out 1).trans rfl; have hfz23_0 := blk_frozen BK151.out 0; have hfz23_1 := blk_frozen BK151.out 1) | ((with_reducible refine gate_callee (f := 24) rfl ?_); refine goesL_ (some 15) rfl rfl Try.func24 (by kernel_rfl) rfl #[.slice A0_0 l0_0.length c0_0, .int .i64 a1] rfl zm ?_; (with_reducible refine (slices_Contains_int_int.calls k _ _ l0_0 a1 false _ ?side1 ?side2 A5.out).mono ?_); (case side1 => repeat (first | exact (Kd.V_reads' HO0_0.out).2.2 | (with_reducible refine Kd.C_alloc ?_ _) | (with_reducible refine Kd.C_drewN ?_ _) | (with_reducible refine Kd.C_drew ?_))); (case side2 => exact (Kd.V_reads' HO0_0.out).2.1); rintro e w' ⟨rfl, ⟨nd, rfl⟩⟩; refine ⟨_, rfl, ?_⟩; (try (rw [drewN_self w22]; generalize hq_ : World.drewN w22 _ = w22; have n0_ : Aside0 (Kd.V (Kd.int .i64) 3 w22 w.heap.size (fun k_ => ((P0_0_ k_ ∨ P0_1_ k_) ∨ w.heap.size ≤ k_) ∧ k_ ≠ gb151 ∧ k_ ≠ gb152) (.slice A0_0 l0_0.length c0_0) l0_0) := ⟨by rw [← hq_]; exact (by (with_reducible repeat (first | apply Kd.V_alloc | apply Kd.V_drewN | apply Kd.V_drew)); exact Kd.V_mono HO0_0.out (fun _ hk => ⟨hk.1.1, ⟨hk.1.2, hk.2⟩⟩))⟩; have n1_ : Aside0 (Kd.V (Kd.int .i64) 3 w22 w.heap.size (fun k_ => ((P0_0_ k_ ∨ P0_1_ k_) ∨ w.heap.size ≤ k_) ∧ k_ ≠ gb151 ∧ k_ ≠ gb152) (.slice A0_1 l0_1.length c0_1) l0_1) := ⟨by rw [← hq_]; exact (by (with_reducible repeat (first | apply Kd.V_alloc | apply Kd.V_drewN | apply Kd.V_drew)); exact Kd.V_mono HO0_1.out (fun _ hk => ⟨hk.1.1, ⟨hk.1.2, hk.2⟩⟩))⟩; have n2_ : Aside0 (w22.heap[gb151]? = some (.cells #[.slice A0_0 l0_0.length c0_0, .slice A0_1 l0_1.length c0_1] 24 (0, 0))) := ⟨by rw [← hq_]; exact (zb BK151)⟩; have n3_ : Aside0 (w22.heap[gb152]? = some (.cells #[.slice none 0 0, .slice none 0 0] 24 (0, 0))) := ⟨by rw [← hq_]; exact (zb BK152)⟩; have n4_ : Aside0 (Below w.heap.size w w22) := ⟨by rw [← hq_]; exact (zc2 HB GE151 GE152)⟩; clear HO0_0 HO0_1 BK151 BK152 HB hq_; have HO0_0 := n0_; have HO0_1 := n1_; have BK151 := n2_; have BK152 := n3_; have HB := n4_; clear n0_ n1_ n2_ n3_ n4_)); have n_ := Aside0.mk (Kd.V_mono (ok' := (fun k_ => ((P0_0_ k_ ∨ P0_1_ k_) ∨ w.heap.size ≤ k_) ∧ k_ ≠ gb151 ∧ k_ ≠ gb152)) HO0_0.out (fun k_ hk => by first | exact hk | exact ⟨hk.1.1, ⟨hk.1.2, hk.2⟩⟩)); clear HO0_0; have HO0_0 := n_; clear n_; have n_ := Aside0.mk (Kd.V_mono (ok' := (fun k_ => ((P0_0_ k_ ∨ P0_1_ k_) ∨ w.heap.size ≤ k_) ∧ k_ ≠ gb151 ∧ k_ ≠ gb152)) HO0_1.out (fun k_ hk => by first | exact hk | exact ⟨hk.1.1, ⟨hk.1.2, hk.2⟩⟩)); clear HO0_1; have HO0_1 := n_; clear n_; have hcz24_0 : w22.cell? ⟨gb151, 0, none⟩ = some (.slice A0_0 l0_0.length c0_0) := (blk_cell BK151.out 0).trans rfl; have hcz24_1 : w22.cell? ⟨gb151, 1, none⟩ = some (.slice A0_1 l0_1.length c0_1) := (blk_cell BK151.out 1).trans rfl; have hfz24_0 := blk_frozen BK151.out 0; have hfz24_1 := blk_frozen BK151.out 1) | ((with_reducible refine gate_callee (f := 24) rfl ?_); refine goesL_ (some 21) rfl rfl Try.func24 (by kernel_rfl) rfl #[.slice A0_1 l0_1.length c0_1, .int .i64 a1] rfl zm ?_; (with_reducible refine (slices_Contains_int_int.calls k _ _ l0_1 a1 true _ ?side1 ?side2 A15.out).mono ?_); (case side1 => repeat (first | exact (Kd.V_reads' HO0_1.out).2.2 | (with_reducible refine Kd.C_alloc ?_ _) | (with_reducible refine Kd.C_drewN ?_ _) | (with_reducible refine Kd.C_drew ?_))); (case side2 => exact (Kd.V_reads' HO0_1.out).2.1); rintro e w' ⟨rfl, ⟨nd, rfl⟩⟩; refine ⟨_, rfl, ?_⟩; (try (rw [drewN_self w22]; generalize hq_ : World.drewN w22 _ = w22; have n0_ : Aside0 (Kd.V (Kd.int .i64) 3 w22 w.heap.size (fun k_ => ((P0_0_ k_ ∨ P0_1_ k_) ∨ w.heap.size ≤ k_) ∧ k_ ≠ gb151 ∧ k_ ≠ gb152) (.slice A0_0 l0_0.length c0_0) l0_0) := ⟨by rw [← hq_]; exact (zV HO0_0)⟩; have n1_ : Aside0 (Kd.V (Kd.int .i64) 3 w22 w.heap.size (fun k_ => ((P0_0_ k_ ∨ P0_1_ k_) ∨ w.heap.size ≤ k_) ∧ k_ ≠ gb151 ∧ k_ ≠ gb152) (.slice A0_1 l0_1.length c0_1) l0_1) := ⟨by rw [← hq_]; exact (zV HO0_1)⟩; have n2_ : Aside0 (w22.heap[gb151]? = some (.cells #[.slice A0_0 l0_0.length c0_0, .slice A0_1 l0_1.length c0_1] 24 (0, 0))) := ⟨by rw [← hq_]; exact (zb BK151)⟩; have n3_ : Aside0 (w22.heap[gb152]? = some (.cells #[.slice none 0 0, .slice none 0 0] 24 (0, 0))) := ⟨by rw [← hq_]; exact (zb BK152)⟩; have n4_ : Aside0 (Below w.heap.size w w22) := ⟨by rw [← hq_]; exact (zc2 HB GE151 GE152)⟩; clear HO0_0 HO0_1 BK151 BK152 HB hq_; have HO0_0 := n0_; have HO0_1 := n1_; have BK151 := n2_; have BK152 := n3_; have HB := n4_; clear n0_ n1_ n2_ n3_ n4_)); have hcz25_0 : w22.cell? ⟨gb151, 0, none⟩ = some (.slice A0_0 l0_0.length c0_0) := (blk_cell BK151.out 0).trans rfl; have hcz25_1 : w22.cell? ⟨gb151, 1, none⟩ = some (.slice A0_1 l0_1.length c0_1) := (blk_cell BK151.out 1).trans rfl; have hfz25_0 := blk_frozen BK151.out 0; have hfz25_1 := blk_frozen BK151.out 1) | ((with_reducible refine gate_callee (f := 29) rfl ?_); refine goesL_ (some 27) rfl rfl Try.func29 (by kernel_rfl) rfl #[.slice A0_1 l0_1.length c0_1, .int .i64 a1] rfl zm ?_; (with_reducible refine (cond_without.calls _ _ l0_1 a1 t156 _ ?side1 ?side2 A17.out).mono ?_); (case side1 => repeat (first | exact (Kd.V_reads' HO0_1.out).2.2 | (with_reducible refine Kd.C_alloc ?_ _) | (with_reducible refine Kd.C_drewN ?_ _) | (with_reducible refine Kd.C_drew ?_))); (case side2 => exact (Kd.V_reads' HO0_1.out).2.1); rintro e w26 ⟨v157, rfl, ho0, hb⟩; refine ⟨_, rfl, ?_⟩; have n0_ := Aside0.mk (Kd.V_elder' (zV HO0_0) (Kd.R_base ho0) hb); have n1_ := Aside0.mk (Kd.V_elder' (zV HO0_1) (Kd.R_base ho0) hb); have n2_ := Aside0.mk (Kd.R_lower (Kd.R_newM (M := fun k_ => (w.heap.size ≤ k_)) ho0 (below_size (zc2 HB GE151 GE152)) (fun k_ h_ => h_)) (below_size (zc2 HB GE151 GE152))); have n3_ := Aside0.mk (blk_below (g := gb151) (o := .cells #[.slice A0_0 l0_0.length c0_0, .slice A0_1 l0_1.length c0_1] 24 (0, 0)) (zb BK151) hb); have n4_ := Aside0.mk (blk_below (g := gb152) (o := .cells #[.slice none 0 0, .slice none 0 0] 24 (0, 0)) (zb BK152) hb); have n5_ := Aside0.mk (below_step (zc2 HB GE151 GE152) hb); clear HO0_0; clear HO0_1; clear BK151; clear BK152; clear HB; have HO0_0 := n0_; have HO0_1 := n1_; have HO158 := n2_; have BK151 := n3_; have BK152 := n4_; have HB := n5_; clear n0_ n1_ n2_ n3_ n4_ n5_; (try clear hb); (try clear hb2); (try clear hk); (try clear hi); (try clear ho0); obtain ⟨Ao27, co27, eo27⟩ := Kd.R_slice HO158.out; subst eo27; have hcz28_0 : w26.cell? ⟨gb151, 0, none⟩ = some (.slice A0_0 l0_0.length c0_0) := (blk_cell BK151.out 0).trans rfl; have hcz28_1 : w26.cell? ⟨gb151, 1, none⟩ = some (.slice A0_1 l0_1.length c0_1) := (blk_cell BK151.out 1).trans rfl; have hfz28_0 := blk_frozen BK151.out 0; have hfz28_1 := blk_frozen BK151.out 1; have hcz29_0 : w26.cell? ⟨gb152, 0, none⟩ = some (.slice none 0 0) := (blk_cell BK152.out 0).trans rfl; have hcz29_1 : w26.cell? ⟨gb152, 1, none⟩ = some (.slice none 0 0) := (blk_cell BK152.out 1).trans rfl; have hfz29_0 := blk_frozen BK152.out 0; have hfz29_1 := blk_frozen BK152.out 1))
    refine bodyPost_ret (results_ct rfl _ _ gb152 24 #[.slice A0_0 l0_0.length c0_0, .slice Ao27 t156.length co27] (0, 0) _ rfl (by (with_reducible repeat (first | refine blk_drewN ?_ _ | refine blk_drew ?_ | refine blk_alloc ?_ _)); refine blk_put (cs := #[.slice A0_0 l0_0.length c0_0, .slice none 0 0]) ?_ 1 _ rfl; (with_reducible repeat (first | refine blk_drewN ?_ _ | refine blk_drew ?_ | refine blk_alloc ?_ _)); refine blk_put (cs := #[.slice none 0 0, .slice none 0 0]) ?_ 0 _ rfl; (with_reducible repeat (first | refine blk_drewN ?_ _ | refine blk_drew ?_ | refine blk_alloc ?_ _)); refine blk_far ?_ NB152_151.out _; (with_reducible repeat (first | refine blk_drewN ?_ _ | refine blk_drew ?_ | refine blk_alloc ?_ _)); exact BK152.out) Try.underlying24 rfl (by kernel_rfl)) rfl ?_
    exact ⟨_, _, by first | rfl | (simp [errW_none, errW_some] <;> rfl) | (simp [*, errW_none, errW_some] <;> rfl), by (with_reducible repeat (first | apply Kd.V_alloc | apply Kd.V_drewN | apply Kd.V_drew)); exact Kd.V_mono (Kd.V_far (p := ⟨gb152, 1, none⟩) (Kd.V_far (p := ⟨gb152, 0, none⟩) (Kd.V_far (p := ⟨gb151, 1, none⟩) (Kd.V_mono (Kd.V_mono HO0_0.out (fun k_ hk => (⟨hk, hk.1.2.1⟩ : _ ∧ k_ ≠ gb151))) (fun k_ hk => (⟨hk, hk.1.1.2.2⟩ : _ ∧ k_ ≠ gb152))) (fun _ hk => hk.1.2) (.slice Ao27 t156.length co27)) (fun _ hk => hk.2) (.slice A0_0 l0_0.length c0_0)) (fun _ hk => hk.2) (.slice Ao27 t156.length co27)) (fun _ hk => hk.1.1.1.1), Kd.V_mono (Kd.R_V (Kd.R_mono (ok' := fun k_ => (w.heap.size ≤ k_)) (by (with_reducible repeat (first | apply Kd.R_alloc | apply Kd.R_drewN | apply Kd.R_drew)); exact Kd.R_mono (Kd.R_far (p := ⟨gb152, 1, none⟩) (Kd.R_far (p := ⟨gb152, 0, none⟩) (Kd.R_far (p := ⟨gb151, 1, none⟩) (Kd.R_types (Kd.R_types HO158.out BK151.out (by decide)) BK152.out (by decide)) (fun _ hk => hk.1.2) (.slice Ao27 t156.length co27)) (fun _ hk => hk.2) (.slice A0_0 l0_0.length c0_0)) (fun _ hk => hk.2) (.slice Ao27 t156.length co27)) (fun _ hk => hk.1.1.1)) (fun _ h_ => h_))) (fun k_ hk => by first | exact ⟨(.inr (hk.1)), hk.2⟩ | exact (.inr (hk))), by repeat (first | (with_reducible first | exact HB.out | apply below_alloc | apply pw_below_drewN | apply below_drew1 | refine below_set ?_ GE151.out | refine below_set ?_ GE152.out) | exact HB.out)⟩
   ·replace c16 := Bool.eq_false_iff.mpr c16
    subst c16
    have H1 : (some (l0_0, l0_1, 3)) = some (r1, r2, r3) := by rw [if_neg (show ¬ (false = true) by decide)] at H; exact H
    clear H
    have H := H1
    clear H1
    simp only [Option.some.injEq, Prod.mk.injEq] at H
    obtain ⟨rfl, rfl, rfl⟩ := H
    go_enter Try.func15, Try.ntmps15
    go_wp2_with (first | ((with_reducible refine gate_dst (N := 2) rfl ?_); refine box_event ?hg (N := 2) ?hd (cs := #[.slice A0_0 l0_0.length c0_0, .slice A0_1 l0_1.length c0_1]) (t := 24) ?hr ?_; (case hd => rfl); (case hg => rfl); (case hr => first | (go_simp; done) | (go_simp; rfl)); intro gb151 hg w30 hbox hb; have n0_ := Aside0.mk (Kd.V_below (Kd.V_elderB (zV HO0_0) gb151 (Nat.le_of_eq hg.symm)) hb); have n1_ := Aside0.mk (Kd.V_below (Kd.V_elderB (zV HO0_1) gb151 (Nat.le_of_eq hg.symm)) hb); have n2_ := Aside0.mk (below_step (zc0 HB) hb); have n3_ := Aside0.mk (hbox); have n4_ := Aside0.mk ((by rw [hg]; exact (below_size (zc0 HB)) : w.heap.size ≤ gb151)); have n5_ := Aside0.mk ((by rw [hg]; exact (below_size (zc0 HB)) : w.heap.size ≤ gb151)); clear HO0_0; clear HO0_1; clear HB; have HO0_0 := n0_; have HO0_1 := n1_; have HB := n2_; have BK151 := n3_; have GW151 := n4_; have GE151 := n5_; clear n0_ n1_ n2_ n3_ n4_ n5_; clear hb hbox hg) | ((with_reducible refine gate_dst (N := 4) rfl ?_); refine box_event ?hg (N := 4) ?hd (cs := #[.slice none 0 0, .slice none 0 0]) (t := 24) ?hr ?_; (case hd => rfl); (case hg => rfl); (case hr => first | (go_simp; done) | (go_simp; rfl)); intro gb152 hg w31 hbox hb; have n0_ := Aside0.mk (Kd.V_below (Kd.V_elderB (zV HO0_0) gb152 (Nat.le_of_eq hg.symm)) hb); have n1_ := Aside0.mk (Kd.V_below (Kd.V_elderB (zV HO0_1) gb152 (Nat.le_of_eq hg.symm)) hb); have n2_ := Aside0.mk (blk_below (g := gb151) (o := .cells #[.slice A0_0 l0_0.length c0_0, .slice A0_1 l0_1.length c0_1] 24 (0, 0)) (zb BK151) hb); have n3_ := Aside0.mk (below_step (zc1 HB GE151) hb); have n4_ := Aside0.mk (hbox); have n5_ := Aside0.mk ((by rw [hg]; exact (below_size (zc1 HB GE151)) : w.heap.size ≤ gb152)); have n6_ := Aside0.mk ((by rw [hg]; exact (below_size (zc1 HB GE151)) : w.heap.size ≤ gb152)); have n7_ := Aside0.mk ((by rw [hg]; exact Nat.ne_of_lt (blk_lt (g := gb151) (o := .cells #[.slice A0_0 l0_0.length c0_0, .slice A0_1 l0_1.length c0_1] 24 (0, 0)) (zb BK151)) : gb151 ≠ gb152)); have n8_ := Aside0.mk ((by rw [hg]; exact Nat.ne_of_gt (blk_lt (g := gb151) (o := .cells #[.slice A0_0 l0_0.length c0_0, .slice A0_1 l0_1.length c0_1] 24 (0, 0)) (zb BK151)) : gb152 ≠ gb151)); clear HO0_0; clear HO0_1; clear BK151; clear HB; have HO0_0 := n0_; have HO0_1 := n1_; have BK151 := n2_; have HB := n3_; have BK152 := n4_; have GW152 := n5_; have GE152 := n6_; have NB151_152 := n7_; have NB152_151 := n8_; clear n0_ n1_ n2_ n3_ n4_ n5_ n6_ n7_ n8_; clear hb hbox hg; have hnb32 := NB151_152.out; have hnc32 := NB152_151.out; have hcz33_0 : w31.cell? ⟨gb151, 0, none⟩ = some (.slice A0_0 l0_0.length c0_0) := (blk_cell BK151.out 0).trans rfl; have hcz33_1 : w31.cell? ⟨gb151, 1, none⟩ = some (.slice A0_1 l0_1.length c0_1) := (blk_cell BK151.out 1).trans rfl; have hfz33_0 := blk_frozen BK151.out 0; have hfz33_1 := blk_frozen BK151.out 1) | ((with_reducible refine gate_callee (f := 19) rfl ?_); refine goesL_ (some 8) rfl rfl Try.func19 (by kernel_rfl) rfl #[.agg #[.slice A0_0 l0_0.length c0_0, .slice A0_1 l0_1.length c0_1]] rfl zm ?_; (with_reducible refine (cond_Right.calls k (fun k_ => ((((P0_0_ k_ ∨ P0_1_ k_) ∨ w.heap.size ≤ k_) ∧ k_ ≠ gb151) ∧ k_ ≠ gb152)) _ _ l0_0 (fun k_ => ((((P0_0_ k_ ∨ P0_1_ k_) ∨ w.heap.size ≤ k_) ∧ k_ ≠ gb151) ∧ k_ ≠ gb152)) _ _ l0_1 true _ ?side1 ?side2 A3.out).mono ?_); (case side1 => exact HO0_0.out); (case side2 => exact HO0_1.out); rintro e w34 ⟨rfl, hb⟩; refine ⟨_, rfl, ?_⟩; have n0_ := Aside0.mk (Kd.V_below (zV HO0_0) hb); have n1_ := Aside0.mk (Kd.V_below (zV HO0_1) hb); have n2_ := Aside0.mk (blk_below (g := gb151) (o := .cells #[.slice A0_0 l0_0.length c0_0, .slice A0_1 l0_1.length c0_1] 24 (0, 0)) (zb BK151) hb); have n3_ := Aside0.mk (blk_below (g := gb152) (o := .cells #[.slice none 0 0, .slice none 0 0] 24 (0, 0)) (zb BK152) hb); have n4_ := Aside0.mk (below_step (zc2 HB GE151 GE152) hb); clear HO0_0; clear HO0_1; clear BK151; clear BK152; clear HB; have HO0_0 := n0_; have HO0_1 := n1_; have BK151 := n2_; have BK152 := n3_; have HB := n4_; clear n0_ n1_ n2_ n3_ n4_; (try clear hb); (try clear hb2); (try clear hk); (try clear hi); have hcz35_0 : w34.cell? ⟨gb151, 0, none⟩ = some (.slice A0_0 l0_0.length c0_0) := (blk_cell BK151.out 0).trans rfl; have hcz35_1 : w34.cell? ⟨gb151, 1, none⟩ = some (.slice A0_1 l0_1.length c0_1) := (blk_cell BK151.out 1).trans rfl; have hfz35_0 := blk_frozen BK151.out 0; have hfz35_1 := blk_frozen BK151.out 1) | ((with_reducible refine gate_callee (f := 24) rfl ?_); refine goesL_ (some 15) rfl rfl Try.func24 (by kernel_rfl) rfl #[.slice A0_0 l0_0.length c0_0, .int .i64 a1] rfl zm ?_; (with_reducible refine (slices_Contains_int_int.calls k _ _ l0_0 a1 false _ ?side1 ?side2 A5.out).mono ?_); (case side1 => repeat (first | exact (Kd.V_reads' HO0_0.out).2.2 | (with_reducible refine Kd.C_alloc ?_ _) | (with_reducible refine Kd.C_drewN ?_ _) | (with_reducible refine Kd.C_drew ?_))); (case side2 => exact (Kd.V_reads' HO0_0.out).2.1); rintro e w' ⟨rfl, ⟨nd, rfl⟩⟩; refine ⟨_, rfl, ?_⟩; (try (rw [drewN_self w34]; generalize hq_ : World.drewN w34 _ = w34; have n0_ : Aside0 (Kd.V (Kd.int .i64) 3 w34 w.heap.size (fun k_ => ((P0_0_ k_ ∨ P0_1_ k_) ∨ w.heap.size ≤ k_) ∧ k_ ≠ gb151 ∧ k_ ≠ gb152) (.slice A0_0 l0_0.length c0_0) l0_0) := ⟨by rw [← hq_]; exact (by (with_reducible repeat (first | apply Kd.V_alloc | apply Kd.V_drewN | apply Kd.V_drew)); exact Kd.V_mono HO0_0.out (fun _ hk => ⟨hk.1.1, ⟨hk.1.2, hk.2⟩⟩))⟩; have n1_ : Aside0 (Kd.V (Kd.int .i64) 3 w34 w.heap.size (fun k_ => ((P0_0_ k_ ∨ P0_1_ k_) ∨ w.heap.size ≤ k_) ∧ k_ ≠ gb151 ∧ k_ ≠ gb152) (.slice A0_1 l0_1.length c0_1) l0_1) := ⟨by rw [← hq_]; exact (by (with_reducible repeat (first | apply Kd.V_alloc | apply Kd.V_drewN | apply Kd.V_drew)); exact Kd.V_mono HO0_1.out (fun _ hk => ⟨hk.1.1, ⟨hk.1.2, hk.2⟩⟩))⟩; have n2_ : Aside0 (w34.heap[gb151]? = some (.cells #[.slice A0_0 l0_0.length c0_0, .slice A0_1 l0_1.length c0_1] 24 (0, 0))) := ⟨by rw [← hq_]; exact (zb BK151)⟩; have n3_ : Aside0 (w34.heap[gb152]? = some (.cells #[.slice none 0 0, .slice none 0 0] 24 (0, 0))) := ⟨by rw [← hq_]; exact (zb BK152)⟩; have n4_ : Aside0 (Below w.heap.size w w34) := ⟨by rw [← hq_]; exact (zc2 HB GE151 GE152)⟩; clear HO0_0 HO0_1 BK151 BK152 HB hq_; have HO0_0 := n0_; have HO0_1 := n1_; have BK151 := n2_; have BK152 := n3_; have HB := n4_; clear n0_ n1_ n2_ n3_ n4_)); have n_ := Aside0.mk (Kd.V_mono (ok' := (fun k_ => ((P0_0_ k_ ∨ P0_1_ k_) ∨ w.heap.size ≤ k_) ∧ k_ ≠ gb151 ∧ k_ ≠ gb152)) HO0_0.out (fun k_ hk => by first | exact hk | exact ⟨hk.1.1, ⟨hk.1.2, hk.2⟩⟩)); clear HO0_0; have HO0_0 := n_; clear n_; have n_ := Aside0.mk (Kd.V_mono (ok' := (fun k_ => ((P0_0_ k_ ∨ P0_1_ k_) ∨ w.heap.size ≤ k_) ∧ k_ ≠ gb151 ∧ k_ ≠ gb152)) HO0_1.out (fun k_ hk => by first | exact hk | exact ⟨hk.1.1, ⟨hk.1.2, hk.2⟩⟩)); clear HO0_1; have HO0_1 := n_; clear n_; have hcz36_0 : w34.cell? ⟨gb151, 0, none⟩ = some (.slice A0_0 l0_0.length c0_0) := (blk_cell BK151.out 0).trans rfl; have hcz36_1 : w34.cell? ⟨gb151, 1, none⟩ = some (.slice A0_1 l0_1.length c0_1) := (blk_cell BK151.out 1).trans rfl; have hfz36_0 := blk_frozen BK151.out 0; have hfz36_1 := blk_frozen BK151.out 1) | ((with_reducible refine gate_callee (f := 24) rfl ?_); refine goesL_ (some 21) rfl rfl Try.func24 (by kernel_rfl) rfl #[.slice A0_1 l0_1.length c0_1, .int .i64 a1] rfl zm ?_; (with_reducible refine (slices_Contains_int_int.calls k _ _ l0_1 a1 false _ ?side1 ?side2 A15.out).mono ?_); (case side1 => repeat (first | exact (Kd.V_reads' HO0_1.out).2.2 | (with_reducible refine Kd.C_alloc ?_ _) | (with_reducible refine Kd.C_drewN ?_ _) | (with_reducible refine Kd.C_drew ?_))); (case side2 => exact (Kd.V_reads' HO0_1.out).2.1); rintro e w' ⟨rfl, ⟨nd, rfl⟩⟩; refine ⟨_, rfl, ?_⟩; (try (rw [drewN_self w34]; generalize hq_ : World.drewN w34 _ = w34; have n0_ : Aside0 (Kd.V (Kd.int .i64) 3 w34 w.heap.size (fun k_ => ((P0_0_ k_ ∨ P0_1_ k_) ∨ w.heap.size ≤ k_) ∧ k_ ≠ gb151 ∧ k_ ≠ gb152) (.slice A0_0 l0_0.length c0_0) l0_0) := ⟨by rw [← hq_]; exact (zV HO0_0)⟩; have n1_ : Aside0 (Kd.V (Kd.int .i64) 3 w34 w.heap.size (fun k_ => ((P0_0_ k_ ∨ P0_1_ k_) ∨ w.heap.size ≤ k_) ∧ k_ ≠ gb151 ∧ k_ ≠ gb152) (.slice A0_1 l0_1.length c0_1) l0_1) := ⟨by rw [← hq_]; exact (zV HO0_1)⟩; have n2_ : Aside0 (w34.heap[gb151]? = some (.cells #[.slice A0_0 l0_0.length c0_0, .slice A0_1 l0_1.length c0_1] 24 (0, 0))) := ⟨by rw [← hq_]; exact (zb BK151)⟩; have n3_ : Aside0 (w34.heap[gb152]? = some (.cells #[.slice none 0 0, .slice none 0 0] 24 (0, 0))) := ⟨by rw [← hq_]; exact (zb BK152)⟩; have n4_ : Aside0 (Below w.heap.size w w34) := ⟨by rw [← hq_]; exact (zc2 HB GE151 GE152)⟩; clear HO0_0 HO0_1 BK151 BK152 HB hq_; have HO0_0 := n0_; have HO0_1 := n1_; have BK151 := n2_; have BK152 := n3_; have HB := n4_; clear n0_ n1_ n2_ n3_ n4_)); have hcz37_0 : w34.cell? ⟨gb151, 0, none⟩ = some (.slice A0_0 l0_0.length c0_0) := (blk_cell BK151.out 0).trans rfl; have hcz37_1 : w34.cell? ⟨gb151, 1, none⟩ = some (.slice A0_1 l0_1.length c0_1) := (blk_cell BK151.out 1).trans rfl; have hfz37_0 := blk_frozen BK151.out 0; have hfz37_1 := blk_frozen BK151.out 1; have hcz38_0 : w34.cell? ⟨gb152, 0, none⟩ = some (.slice none 0 0) := (blk_cell BK152.out 0).trans rfl; have hcz38_1 : w34.cell? ⟨gb152, 1, none⟩ = some (.slice none 0 0) := (blk_cell BK152.out 1).trans rfl; have hfz38_0 := blk_frozen BK152.out 0; have hfz38_1 := blk_frozen BK152.out 1))
    refine bodyPost_ret (results_ct rfl _ _ gb152 24 #[.slice A0_0 l0_0.length c0_0, .slice A0_1 l0_1.length c0_1] (0, 0) _ rfl (by (with_reducible repeat (first | refine blk_drewN ?_ _ | refine blk_drew ?_ | refine blk_alloc ?_ _)); refine blk_put (cs := #[.slice A0_0 l0_0.length c0_0, .slice none 0 0]) ?_ 1 _ rfl; (with_reducible repeat (first | refine blk_drewN ?_ _ | refine blk_drew ?_ | refine blk_alloc ?_ _)); refine blk_put (cs := #[.slice none 0 0, .slice none 0 0]) ?_ 0 _ rfl; (with_reducible repeat (first | refine blk_drewN ?_ _ | refine blk_drew ?_ | refine blk_alloc ?_ _)); exact BK152.out) Try.underlying24 rfl (by kernel_rfl)) rfl ?_
    exact ⟨_, _, by first | rfl | (simp [errW_none, errW_some] <;> rfl) | (simp [*, errW_none, errW_some] <;> rfl), by (with_reducible repeat (first | apply Kd.V_alloc | apply Kd.V_drewN | apply Kd.V_drew)); exact Kd.V_mono (Kd.V_far (p := ⟨gb152, 1, none⟩) (Kd.V_far (p := ⟨gb152, 0, none⟩) (Kd.V_mono HO0_0.out (fun k_ hk => (⟨hk, hk.2.2⟩ : _ ∧ k_ ≠ gb152))) (fun _ hk => hk.2) (.slice A0_0 l0_0.length c0_0)) (fun _ hk => hk.2) (.slice A0_1 l0_1.length c0_1)) (fun _ hk => hk.1.1), by (with_reducible repeat (first | apply Kd.V_alloc | apply Kd.V_drewN | apply Kd.V_drew)); exact Kd.V_mono (Kd.V_far (p := ⟨gb152, 1, none⟩) (Kd.V_far (p := ⟨gb152, 0, none⟩) (Kd.V_mono HO0_1.out (fun k_ hk => (⟨hk, hk.2.2⟩ : _ ∧ k_ ≠ gb152))) (fun _ hk => hk.2) (.slice A0_0 l0_0.length c0_0)) (fun _ hk => hk.2) (.slice A0_1 l0_1.length c0_1)) (fun _ hk => hk.1.1), by repeat (first | (with_reducible first | exact HB.out | apply below_alloc | apply pw_below_drewN | apply below_drew1 | refine below_set ?_ GE151.out | refine below_set ?_ GE152.out) | exact HB.out)⟩
 ·replace c4 := Bool.eq_false_iff.mpr c4
  subst c4
  have H1 : (some (l0_0, l0_1, 1)) = some (r1, r2, r3) := by rw [if_neg (show ¬ (false = true) by decide)] at H; exact H
  clear H
  have H := H1
  clear H1
  simp only [Option.some.injEq, Prod.mk.injEq] at H
  obtain ⟨rfl, rfl, rfl⟩ := H
  go_enter Try.func15, Try.ntmps15
  go_wp2_with (first | ((with_reducible refine gate_dst (N := 2) rfl ?_); refine box_event ?hg (N := 2) ?hd (cs := #[.slice A0_0 l0_0.length c0_0, .slice A0_1 l0_1.length c0_1]) (t := 24) ?hr ?_; (case hd => rfl); (case hg => rfl); (case hr => first | (go_simp; done) | (go_simp; rfl)); intro gb151 hg w39 hbox hb; have n0_ := Aside0.mk (Kd.V_below (Kd.V_elderB (zV HO0_0) gb151 (Nat.le_of_eq hg.symm)) hb); have n1_ := Aside0.mk (Kd.V_below (Kd.V_elderB (zV HO0_1) gb151 (Nat.le_of_eq hg.symm)) hb); have n2_ := Aside0.mk (below_step (zc0 HB) hb); have n3_ := Aside0.mk (hbox); have n4_ := Aside0.mk ((by rw [hg]; exact (below_size (zc0 HB)) : w.heap.size ≤ gb151)); have n5_ := Aside0.mk ((by rw [hg]; exact (below_size (zc0 HB)) : w.heap.size ≤ gb151)); clear HO0_0; clear HO0_1; clear HB; have HO0_0 := n0_; have HO0_1 := n1_; have HB := n2_; have BK151 := n3_; have GW151 := n4_; have GE151 := n5_; clear n0_ n1_ n2_ n3_ n4_ n5_; clear hb hbox hg) | ((with_reducible refine gate_dst (N := 4) rfl ?_); refine box_event ?hg (N := 4) ?hd (cs := #[.slice none 0 0, .slice none 0 0]) (t := 24) ?hr ?_; (case hd => rfl); (case hg => rfl); (case hr => first | (go_simp; done) | (go_simp; rfl)); intro gb152 hg w40 hbox hb; have n0_ := Aside0.mk (Kd.V_below (Kd.V_elderB (zV HO0_0) gb152 (Nat.le_of_eq hg.symm)) hb); have n1_ := Aside0.mk (Kd.V_below (Kd.V_elderB (zV HO0_1) gb152 (Nat.le_of_eq hg.symm)) hb); have n2_ := Aside0.mk (blk_below (g := gb151) (o := .cells #[.slice A0_0 l0_0.length c0_0, .slice A0_1 l0_1.length c0_1] 24 (0, 0)) (zb BK151) hb); have n3_ := Aside0.mk (below_step (zc1 HB GE151) hb); have n4_ := Aside0.mk (hbox); have n5_ := Aside0.mk ((by rw [hg]; exact (below_size (zc1 HB GE151)) : w.heap.size ≤ gb152)); have n6_ := Aside0.mk ((by rw [hg]; exact (below_size (zc1 HB GE151)) : w.heap.size ≤ gb152)); have n7_ := Aside0.mk ((by rw [hg]; exact Nat.ne_of_lt (blk_lt (g := gb151) (o := .cells #[.slice A0_0 l0_0.length c0_0, .slice A0_1 l0_1.length c0_1] 24 (0, 0)) (zb BK151)) : gb151 ≠ gb152)); have n8_ := Aside0.mk ((by rw [hg]; exact Nat.ne_of_gt (blk_lt (g := gb151) (o := .cells #[.slice A0_0 l0_0.length c0_0, .slice A0_1 l0_1.length c0_1] 24 (0, 0)) (zb BK151)) : gb152 ≠ gb151)); clear HO0_0; clear HO0_1; clear BK151; clear HB; have HO0_0 := n0_; have HO0_1 := n1_; have BK151 := n2_; have HB := n3_; have BK152 := n4_; have GW152 := n5_; have GE152 := n6_; have NB151_152 := n7_; have NB152_151 := n8_; clear n0_ n1_ n2_ n3_ n4_ n5_ n6_ n7_ n8_; clear hb hbox hg; have hnb41 := NB151_152.out; have hnc41 := NB152_151.out; have hcz42_0 : w40.cell? ⟨gb151, 0, none⟩ = some (.slice A0_0 l0_0.length c0_0) := (blk_cell BK151.out 0).trans rfl; have hcz42_1 : w40.cell? ⟨gb151, 1, none⟩ = some (.slice A0_1 l0_1.length c0_1) := (blk_cell BK151.out 1).trans rfl; have hfz42_0 := blk_frozen BK151.out 0; have hfz42_1 := blk_frozen BK151.out 1) | ((with_reducible refine gate_callee (f := 19) rfl ?_); refine goesL_ (some 8) rfl rfl Try.func19 (by kernel_rfl) rfl #[.agg #[.slice A0_0 l0_0.length c0_0, .slice A0_1 l0_1.length c0_1]] rfl zm ?_; (with_reducible refine (cond_Right.calls k (fun k_ => ((((P0_0_ k_ ∨ P0_1_ k_) ∨ w.heap.size ≤ k_) ∧ k_ ≠ gb151) ∧ k_ ≠ gb152)) _ _ l0_0 (fun k_ => ((((P0_0_ k_ ∨ P0_1_ k_) ∨ w.heap.size ≤ k_) ∧ k_ ≠ gb151) ∧ k_ ≠ gb152)) _ _ l0_1 false _ ?side1 ?side2 A3.out).mono ?_); (case side1 => exact HO0_0.out); (case side2 => exact HO0_1.out); rintro e w43 ⟨rfl, hb⟩; refine ⟨_, rfl, ?_⟩; have n0_ := Aside0.mk (Kd.V_below (zV HO0_0) hb); have n1_ := Aside0.mk (Kd.V_below (zV HO0_1) hb); have n2_ := Aside0.mk (blk_below (g := gb151) (o := .cells #[.slice A0_0 l0_0.length c0_0, .slice A0_1 l0_1.length c0_1] 24 (0, 0)) (zb BK151) hb); have n3_ := Aside0.mk (blk_below (g := gb152) (o := .cells #[.slice none 0 0, .slice none 0 0] 24 (0, 0)) (zb BK152) hb); have n4_ := Aside0.mk (below_step (zc2 HB GE151 GE152) hb); clear HO0_0; clear HO0_1; clear BK151; clear BK152; clear HB; have HO0_0 := n0_; have HO0_1 := n1_; have BK151 := n2_; have BK152 := n3_; have HB := n4_; clear n0_ n1_ n2_ n3_ n4_; (try clear hb); (try clear hb2); (try clear hk); (try clear hi); have hcz44_0 : w43.cell? ⟨gb151, 0, none⟩ = some (.slice A0_0 l0_0.length c0_0) := (blk_cell BK151.out 0).trans rfl; have hcz44_1 : w43.cell? ⟨gb151, 1, none⟩ = some (.slice A0_1 l0_1.length c0_1) := (blk_cell BK151.out 1).trans rfl; have hfz44_0 := blk_frozen BK151.out 0; have hfz44_1 := blk_frozen BK151.out 1; have hcz45_0 : w43.cell? ⟨gb152, 0, none⟩ = some (.slice none 0 0) := (blk_cell BK152.out 0).trans rfl; have hcz45_1 : w43.cell? ⟨gb152, 1, none⟩ = some (.slice none 0 0) := (blk_cell BK152.out 1).trans rfl; have hfz45_0 := blk_frozen BK152.out 0; have hfz45_1 := blk_frozen BK152.out 1))
  refine bodyPost_ret (results_ct rfl _ _ gb152 24 #[.slice A0_0 l0_0.length c0_0, .slice A0_1 l0_1.length c0_1] (0, 0) _ rfl (by (with_reducible repeat (first | refine blk_drewN ?_ _ | refine blk_drew ?_ | refine blk_alloc ?_ _)); refine blk_put (cs := #[.slice A0_0 l0_0.length c0_0, .slice none 0 0]) ?_ 1 _ rfl; (with_reducible repeat (first | refine blk_drewN ?_ _ | refine blk_drew ?_ | refine blk_alloc ?_ _)); refine blk_put (cs := #[.slice none 0 0, .slice none 0 0]) ?_ 0 _ rfl; (with_reducible repeat (first | refine blk_drewN ?_ _ | refine blk_drew ?_ | refine blk_alloc ?_ _)); exact BK152.out) Try.underlying24 rfl (by kernel_rfl)) rfl ?_
  exact ⟨_, _, by first | rfl | (simp [errW_none, errW_some] <;> rfl) | (simp [*, errW_none, errW_some] <;> rfl), by (with_reducible repeat (first | apply Kd.V_alloc | apply Kd.V_drewN | apply Kd.V_drew)); exact Kd.V_mono (Kd.V_far (p := ⟨gb152, 1, none⟩) (Kd.V_far (p := ⟨gb152, 0, none⟩) (Kd.V_mono HO0_0.out (fun k_ hk => (⟨hk, hk.2⟩ : _ ∧ k_ ≠ gb152))) (fun _ hk => hk.2) (.slice A0_0 l0_0.length c0_0)) (fun _ hk => hk.2) (.slice A0_1 l0_1.length c0_1)) (fun _ hk => hk.1.1.1), by (with_reducible repeat (first | apply Kd.V_alloc | apply Kd.V_drewN | apply Kd.V_drew)); exact Kd.V_mono (Kd.V_far (p := ⟨gb152, 1, none⟩) (Kd.V_far (p := ⟨gb152, 0, none⟩) (Kd.V_mono HO0_1.out (fun k_ hk => (⟨hk, hk.2⟩ : _ ∧ k_ ≠ gb152))) (fun _ hk => hk.2) (.slice A0_0 l0_0.length c0_0)) (fun _ hk => hk.2) (.slice A0_1 l0_1.length c0_1)) (fun _ hk => hk.1.1.1), by repeat (first | (with_reducible first | exact HB.out | apply below_alloc | apply pw_below_drewN | apply below_drew1 | refine below_set ?_ GE151.out | refine below_set ?_ GE152.out) | exact HB.out)⟩

end Go.Proofs.Ytllmfahkiabkcaa.PCondKeeps
