/- Lean functions that say what functions of the given program compute, and proofs by walking the code that each call does just that; no condition but those that each statement names. -/
import Derived.Test.YtllmfahkiabkcaaPCondTellsx0
import Derived.Test.YtllmfahkiabkcaaPCondTellsx4
namespace Go.Proofs.Ytllmfahkiabkcaa.PCondTells
open Go.RowKit Go.Proofs.YtllmfahkiabkcaaW.PrintWords Go.Proofs.YtllmfahkiabkcaaW.PrintLast Go.Proofs.YtllmfahkiabkcaaW.PrintMore
attribute [local go_sem] max2_int min2_int max_two min_two max_three min_three max_four min_four   -- for this text's walks alone
set_option linter.unusedVariables false
set_option linter.unusedSimpArgs false

/-! ### handshakerref20_Signal: function 14 -/
def handshakerref20_Signal.l0 : Nat → Int → Bool → List Int → List Int → List Int → Option (List Int × List Int × List Int)
 | 0, _, _, _, _, _ => none
 | k + 1, x1, x6, x7, x274000, x274001 => if x6 = true then (if x1 > 0 then (if (x274000.length : Int) > 0 then (if 0 < (x274000.length : Int) then (if ([] : List Int).length + x274001.length < 17592186044416 then ((some (([] : List Int) ++ x274001 : List Int)).bind fun y277 => (if 1 ≤ (x274000.length : Int) then (if y277.length < 17592186044416 then (if x7.length < 17592186044416 then (handshakerref20_Signal.l0 k (wrap64 (x1 - 1)) x6 (x7 ++ [rd x274000 0]) (x274000.drop 1) (y277 ++ [rd x274000 0])) else (none)) else (none)) else (none))) else (none)) else (none)) else (some (x274000, x274001, x7))) else (some (x274000, x274001, x7))) else (some (x274000, x274001, x7))
def handshakerref20_Signal.f (k : Nat) (l0_0 : List Int) (l0_1 : List Int) (a1 : Int) : Option (List Int × List Int × List Int) := (handshakerref20_Right.f l0_0 l0_1).bind fun t275 => (handshakerref20_Signal.l0 k a1 t275 ([] : List Int) l0_0 l0_1)
theorem handshakerref20_Signal.mono_l : ∀ k, (∀ y0 y1 y2 y3 y4, LeO (handshakerref20_Signal.l0 k y0 y1 y2 y3 y4) (handshakerref20_Signal.l0 (k + 1) y0 y1 y2 y3 y4))
 | 0 => fun _ _ _ _ _ r h => by simp [handshakerref20_Signal.l0] at h
 | k + 1 => by
  have ih0 := handshakerref20_Signal.mono_l k
  ·intro y0 y1 y2 y3 y4
   unfold handshakerref20_Signal.l0
   repeat' first
   | (with_reducible exact ih0 _ _ _ _ _)
   | (with_reducible exact LeO.refl _)
   | (with_reducible exact LeO.none _)
   | (with_reducible refine LeO.ite ?_ ?_)
   | (with_reducible refine LeO.bind ?_ (fun _ => ?_))
   | exact ih0 _ _ _ _ _
   | exact LeO.none _
   | refine LeO.ite ?_ ?_
   | refine LeO.bind ?_ (fun _ => ?_)
theorem handshakerref20_Signal.mono : ∀ a0 a1 a2 k, LeO (handshakerref20_Signal.f k a0 a1 a2) (handshakerref20_Signal.f (k + 1) a0 a1 a2) := by
 intro a0 a1 a2 k
 have ih0 := handshakerref20_Signal.mono_l k
 unfold handshakerref20_Signal.f
 repeat' first
   | (with_reducible exact ih0 _ _ _ _ _)
   | (with_reducible exact LeO.refl _)
   | (with_reducible exact LeO.none _)
   | (with_reducible refine LeO.ite ?_ ?_)
   | (with_reducible refine LeO.bind ?_ (fun _ => ?_))
   | exact ih0 _ _ _ _ _
   | exact LeO.none _
   | refine LeO.ite ?_ ?_
   | refine LeO.bind ?_ (fun _ => ?_)
def handshakerref20_Signal.T7 : Bool × List (List Nat × List Nat) := (true, [([], []), ([0], [0]), ([1], [1]), ([], []), ([], []), ([4], [4]), ([3, 5], [3, 5]), ([2, 6], [2, 6]), ([7, 6, 0, 1, 2, 3, 4, 5, 6, 7], [7])])
def handshakerref20_Signal.B7 : List Nat := [0, 1, 3, 0, 0, 16, 56, 127, 255]
theorem handshakerref20_Signal.tab7 : rtab .any (opsOf Try.f14 7) = handshakerref20_Signal.T7 := by kernel_rfl
theorem handshakerref20_Signal.bits7 : waitsOk handshakerref20_Signal.T7.2 handshakerref20_Signal.B7 = true := by kernel_rfl
set_option maxHeartbeats 8000000 in
set_option maxRecDepth 100000 in
theorem handshakerref20_Signal.calls (k : Nat) (P0_0_ : Nat → Prop) (A0_0 : Option Addr) (c0_0 : Nat) (l0_0 : List Int) (P0_1_ : Nat → Prop) (A0_1 : Option Addr) (c0_1 : Nat) (l0_1 : List Int) (a1 : Int) (r1 : List Int) (r2 : List Int) (r3 : List Int) (w : World) (hs0_0 : Kd.V (Kd.int .i64) 3 w w.heap.size (fun k_ => P0_0_ k_) (.slice A0_0 l0_0.length c0_0) l0_0) (hs0_1 : Kd.V (Kd.int .i64) 3 w w.heap.size (fun k_ => P0_1_ k_) (.slice A0_1 l0_1.length c0_1) l0_1) (h : handshakerref20_Signal.f k l0_0 l0_1 a1 = some (r1, r2, r3)) :
  Calls Try.prog 14 #[.agg #[.slice A0_0 l0_0.length c0_0, .slice A0_1 l0_1.length c0_1], .int .i64 a1] w fun e w' => ∃ v0_ v1_ v2_ : Value, e = .returned (.tuple #[.agg #[v0_, v1_], v2_]) ∧ Kd.V (Kd.int .i64) 3 w' w.heap.size (fun k_ => ((P0_0_ k_ ∨ P0_1_ k_) ∨ w.heap.size ≤ k_) ∧ some k_ ≠ (v2_ : Value).ownBlock) v0_ r1 ∧ Kd.V (Kd.int .i64) 3 w' w.heap.size (fun k_ => ((P0_0_ k_ ∨ P0_1_ k_) ∨ w.heap.size ≤ k_) ∧ some k_ ≠ (v2_ : Value).ownBlock) v1_ r2 ∧ Kd.R (Kd.int .i64) 3 w' w.heap.size (fun k_ => (w.heap.size ≤ k_)) v2_ r3 ∧ Below w.heap.size w w' := by
 have hu30 := Try.underlying30
 have HO0_0 := am (show Kd.V (Kd.int .i64) 3 w w.heap.size (fun k_ => ((P0_0_ k_ ∨ P0_1_ k_) ∨ w.heap.size ≤ k_)) (.slice A0_0 l0_0.length c0_0) l0_0 from Kd.V_mono hs0_0 (fun k_ hk => .inl (.inl hk)))
 have HO0_1 := am (show Kd.V (Kd.int .i64) 3 w w.heap.size (fun k_ => ((P0_0_ k_ ∨ P0_1_ k_) ∨ w.heap.size ≤ k_)) (.slice A0_1 l0_1.length c0_1) l0_1 from Kd.V_mono hs0_1 (fun k_ hk => .inl (.inr hk)))
 have HB := am (Below.refl w.heap.size w)
 have H : ((handshakerref20_Right.f l0_0 l0_1).bind fun t275 => (handshakerref20_Signal.l0 k a1 t275 ([] : List Int) l0_0 l0_1)) = some (r1, r2, r3) := h
 clear h
 replace H := Option.bind_eq_some_iff.mp H
 obtain ⟨t275, A30, H⟩ := H
 try dsimp only at H
 have A3 := am A30
 clear A30
 have H' := am H
 clear H
 go_enter Try.func14, Try.ntmps14
 go_wp2_with (first | ((with_reducible refine gate_dst (N := 2) rfl ?_); (try (refine gate_guard (by rfl) ?_; dsimp only)); refine box_event ?hg (N := 2) ?hd (cs := #[.slice A0_0 l0_0.length c0_0, .slice A0_1 l0_1.length c0_1]) (t := 30) ?hr ?_; (case hd => rfl); (case hg => rfl); (case hr => first | (go_simp; done) | (go_simp; rfl)); intro gb273 hg w4 hbox hb; replace HO0_0 := zVe HO0_0 hg hb; replace HO0_1 := zVe HO0_1 hg hb; have BK273 := am (hbox); have GW273 := zsz hg (zc0 HB); have GE273 := zsz hg (zc0 HB); replace HB := am (below_step (zc0 HB) hb); clear hb hbox hg) | ((with_reducible refine gate_dst (N := 4) rfl ?_); (try (refine gate_guard (by rfl) ?_; dsimp only)); refine box_event ?hg (N := 4) ?hd (cs := #[.slice none 0 0, .slice none 0 0]) (t := 30) ?hr ?_; (case hd => rfl); (case hg => rfl); (case hr => first | (go_simp; done) | (go_simp; rfl)); intro gb274 hg w5 hbox hb; replace HO0_0 := zVe HO0_0 hg hb; replace HO0_1 := zVe HO0_1 hg hb; have BK274 := am (hbox); have GW274 := zsz hg (zc1 HB GE273); have GE274 := zsz hg (zc1 HB GE273); replace HB := am (below_step (zc1 HB GE273) hb); have NB273_274 := znt BK273 hg; have NB274_273 := zng BK273 hg; replace BK273 := zbb BK273 hb; clear hb hbox hg; have hnb6 := NB273_274.out; have hnc6 := NB274_273.out; have hcz7_0 : w5.cell? ⟨gb273, 0, none⟩ = some (.slice A0_0 l0_0.length c0_0) := (blk_cell BK273.out 0).trans rfl; have hcz7_1 : w5.cell? ⟨gb273, 1, none⟩ = some (.slice A0_1 l0_1.length c0_1) := (blk_cell BK273.out 1).trans rfl; have hfz7_0 := blk_frozen BK273.out 0; have hfz7_1 := blk_frozen BK273.out 1) | ((with_reducible refine gate_callee (f := 20) rfl ?_); refine goesL_ (some 11) rfl rfl Try.func20 (by kernel_rfl) rfl #[.agg #[.slice A0_0 l0_0.length c0_0, .slice A0_1 l0_1.length c0_1]] rfl zm ?_; (with_reducible refine (handshakerref20_Right.calls _ _ l0_0 _ _ l0_1 t275 _ ?side1 ?side2 ?side3 ?side4 A3.out).mono ?_); (case side1 => repeat (first | exact (Kd.V_reads' HO0_0.out).2.2 | (with_reducible refine Kd.C_alloc ?_ _) | (with_reducible refine Kd.C_drewN ?_ _) | (with_reducible refine Kd.C_drew ?_))); (case side2 => exact (Kd.V_reads' HO0_0.out).2.1); (case side3 => repeat (first | exact (Kd.V_reads' HO0_1.out).2.2 | (with_reducible refine Kd.C_alloc ?_ _) | (with_reducible refine Kd.C_drewN ?_ _) | (with_reducible refine Kd.C_drew ?_))); (case side4 => exact (Kd.V_reads' HO0_1.out).2.1); rintro e w8 ⟨rfl, hb⟩; refine ⟨_, rfl, ?_⟩; replace HO0_0 := zVb HO0_0 hb; replace HO0_1 := zVb HO0_1 hb; replace BK273 := zbb BK273 hb; replace BK274 := zbb BK274 hb; replace HB := am (below_step (zc2 HB GE273 GE274) hb); (try clear hb); (try clear hb2); (try clear hk); (try clear hi)))
 go_loopg [1, 7] k (fun kq v1 v7 w' => ∃ (x1_1 : Int) (x7_1 : List Int) (x274000_1 : List Int) (x274001_1 : List Int) (u274000 : Value) (u274001 : Value), v1 = .int .i64 x1_1 ∧ Aside0 (handshakerref20_Signal.l0 kq x1_1 t275 x7_1 x274000_1 x274001_1 = some (r1, r2, r3)) ∧ Aside0 (kq ≤ k) ∧ Aside0 (Kd.R (Kd.int .i64) 3 w' w.heap.size (fun k_ => (w.heap.size ≤ k_)) v7 x7_1) ∧ Aside0 (Kd.V (Kd.int .i64) 3 w' w.heap.size (fun k_ => ((P0_0_ k_ ∨ P0_1_ k_) ∨ w.heap.size ≤ k_) ∧ some k_ ≠ (v7 : Value).ownBlock ∧ k_ ≠ gb273 ∧ k_ ≠ gb274) u274000 x274000_1) ∧ Aside0 (Kd.V (Kd.int .i64) 3 w' w.heap.size (fun k_ => ((P0_0_ k_ ∨ P0_1_ k_) ∨ w.heap.size ≤ k_) ∧ some k_ ≠ (v7 : Value).ownBlock ∧ k_ ≠ gb273 ∧ k_ ≠ gb274) u274001 x274001_1) ∧ Aside0 (w'.heap[gb273]? = some (.cells #[u274000, u274001] 30 (0, 0))) ∧ Aside0 (w'.heap[gb274]? = some (.cells #[(.slice none 0 0), (.slice none 0 0)] 30 (0, 0))) ∧ Aside0 (Below w.heap.size w w'))
 case atStart => exact ⟨(a1), (([] : List Int)), (l0_0), (l0_1), (.slice A0_0 l0_0.length c0_0), (.slice A0_1 l0_1.length c0_1), (by first | rfl | (simp; done) | (simp [*]; done)), H', ⟨Nat.le_refl _⟩, ⟨by first | exact Kd.R_nil _ _ _ _ _ | exact Kd.N_nil _ _ _ _ _ | exact Kd.V_nil _ _ _ _ _ | exact Kd.Q_nil _ _ _ _ _ | exact Kd.S_nil _ _ _ _ _⟩, ⟨by (with_reducible repeat (first | apply Kd.V_alloc | apply Kd.V_drewN | apply Kd.V_drew)); exact Kd.V_mono HO0_0.out (fun _ hk => ⟨hk.1.1, ⟨(by simp [Value.ownBlock]), ⟨hk.1.2, hk.2⟩⟩⟩)⟩, ⟨by (with_reducible repeat (first | apply Kd.V_alloc | apply Kd.V_drewN | apply Kd.V_drew)); exact Kd.V_mono HO0_1.out (fun _ hk => ⟨hk.1.1, ⟨(by simp [Value.ownBlock]), ⟨hk.1.2, hk.2⟩⟩⟩)⟩, ⟨by (with_reducible repeat (first | refine blk_drewN ?_ _ | refine blk_drew ?_ | refine blk_alloc ?_ _)); exact BK273.out⟩, ⟨by (with_reducible repeat (first | refine blk_drewN ?_ _ | refine blk_drew ?_ | refine blk_alloc ?_ _)); exact BK274.out⟩, ⟨by repeat (first | (with_reducible first | exact HB.out | apply below_alloc | apply pw_below_drewN | apply below_drew1 | refine below_set ?_ GE273.out | refine below_set ?_ GE274.out) | exact HB.out)⟩⟩
 case round =>
  clear H'
  try clear c1
  try clear c2
  try clear p2
  try clear c6
  try clear hcz7_0
  try clear hcz7_1
  try clear hfz7_0
  try clear hfz7_1
  obtain ⟨x1_1, x7_1, x274000_1, x274001_1, u274000, u274001, rfl, HA, HK1, HO_7, HO_274000, HO_274001, BK273, BK274, HB⟩ := hrel
  cases gk with
  | zero => exact absurd HA.out (by simp [handshakerref20_Signal.l0])
  | succ k1 =>
   have H := HA.out
   clear HA
   simp only [handshakerref20_Signal.l0] at H
   by_cases c9 : t275 = true
   ·subst c9
    have H1 : (if x1_1 > 0 then (if (x274000_1.length : Int) > 0 then (if 0 < (x274000_1.length : Int) then (if ([] : List Int).length + x274001_1.length < 17592186044416 then ((some (([] : List Int) ++ x274001_1 : List Int)).bind fun y277 => (if 1 ≤ (x274000_1.length : Int) then (if y277.length < 17592186044416 then (if x7_1.length < 17592186044416 then (handshakerref20_Signal.l0 k1 (wrap64 (x1_1 - 1)) true (x7_1 ++ [rd x274000_1 0]) (x274000_1.drop 1) (y277 ++ [rd x274000_1 0])) else (none)) else (none)) else (none))) else (none)) else (none)) else (some (x274000_1, x274001_1, x7_1))) else (some (x274000_1, x274001_1, x7_1))) = some (r1, r2, r3) := by rw [if_pos rfl] at H; exact H
    clear H
    have H := H1
    clear H1
    by_cases c10 : x1_1 > 0
    ·rw [if_pos c10] at H
     have c10b0 : decide (0 < x1_1) = true := decide_eq_true c10
     clear c10
     by_cases c11 : (x274000_1.length : Int) > 0
     ·rw [if_pos c11] at H
      have c11b0 : decide (0 < (x274000_1.length : Int)) = true := decide_eq_true c11
      have c11b1 : decide (0 < x274000_1.length) = true := decide_eq_true (by omega)
      clear c11
      by_cases c12 : 0 < (x274000_1.length : Int)
      ·rw [if_pos c12] at H
       have c12b0 : decide (0 < (x274000_1.length : Int)) = true := decide_eq_true c12
       have c12b1 : decide (0 < x274000_1.length) = true := decide_eq_true (by omega)
       clear c12
       by_cases c13 : ([] : List Int).length + x274001_1.length < 17592186044416
       ·rw [if_pos c13] at H
        have LMc13 := am c13
        clear c13
        obtain ⟨y277, hy277⟩ : ∃ y_ : List Int, y_ = (([] : List Int) ++ x274001_1) := ⟨_, rfl⟩
        replace H : (if 1 ≤ (x274000_1.length : Int) then (if y277.length < 17592186044416 then (if x7_1.length < 17592186044416 then (handshakerref20_Signal.l0 k1 (wrap64 (x1_1 - 1)) true (x7_1 ++ [rd x274000_1 0]) (x274000_1.drop 1) (y277 ++ [rd x274000_1 0])) else (none)) else (none)) else (none)) = some (r1, r2, r3) := by first | (rw [hy277]; with_reducible exact H) | (have H2_ := (Option.bind_some _ _).symm.trans H; rw [hy277]; with_reducible exact H2_) | (have H2_ := (Option.bind_some _ _).symm.trans H; with_reducible exact H2_) | with_reducible exact H | (rw [hy277]; exact H) | exact H
        have Ny277 := am hy277
        clear hy277
        by_cases c14 : 1 ≤ (x274000_1.length : Int)
        ·rw [if_pos c14] at H
         have c14b0 := eq_true c14
         have c14b1 : decide (1 ≤ (x274000_1.length : Int)) = true := decide_eq_true c14
         clear c14
         obtain ⟨y280, hy280⟩ : ∃ y_ : List Int, y_ = (x274000_1.drop 1) := ⟨_, rfl⟩
         replace H : (if y277.length < 17592186044416 then (if x7_1.length < 17592186044416 then (handshakerref20_Signal.l0 k1 (wrap64 (x1_1 - 1)) true (x7_1 ++ [rd x274000_1 0]) y280 (y277 ++ [rd x274000_1 0])) else (none)) else (none)) = some (r1, r2, r3) := by first | (rw [hy280]; with_reducible exact H) | (have H2_ := (Option.bind_some _ _).symm.trans H; rw [hy280]; with_reducible exact H2_) | (have H2_ := (Option.bind_some _ _).symm.trans H; with_reducible exact H2_) | with_reducible exact H | (rw [hy280]; exact H) | exact H
         have Ny280 := am hy280
         clear hy280
         by_cases c15 : y277.length < 17592186044416
         ·rw [if_pos c15] at H
          have LMc15 := am c15
          clear c15
          obtain ⟨y285, hy285⟩ : ∃ y_ : List Int, y_ = (y277 ++ [rd x274000_1 0]) := ⟨_, rfl⟩
          replace H : (if x7_1.length < 17592186044416 then (handshakerref20_Signal.l0 k1 (wrap64 (x1_1 - 1)) true (x7_1 ++ [rd x274000_1 0]) y280 y285) else (none)) = some (r1, r2, r3) := by first | (rw [hy285]; with_reducible exact H) | (have H2_ := (Option.bind_some _ _).symm.trans H; rw [hy285]; with_reducible exact H2_) | (have H2_ := (Option.bind_some _ _).symm.trans H; with_reducible exact H2_) | with_reducible exact H | (rw [hy285]; exact H) | exact H
          have Ny285 := am hy285
          clear hy285
          by_cases c16 : x7_1.length < 17592186044416
          ·rw [if_pos c16] at H
           have LMc16 := am c16
           clear c16
           obtain ⟨y288, hy288⟩ : ∃ y_ : List Int, y_ = (x7_1 ++ [rd x274000_1 0]) := ⟨_, rfl⟩
           replace H : (handshakerref20_Signal.l0 k1 (wrap64 (x1_1 - 1)) true y288 y280 y285) = some (r1, r2, r3) := by first | (rw [hy288]; with_reducible exact H) | (have H2_ := (Option.bind_some _ _).symm.trans H; rw [hy288]; with_reducible exact H2_) | (have H2_ := (Option.bind_some _ _).symm.trans H; with_reducible exact H2_) | with_reducible exact H | (rw [hy288]; exact H) | exact H
           have Ny288 := am hy288
           clear hy288
           have H' := am H
           clear H
           have hnb17 := NB273_274.out
           have hnc17 := NB274_273.out
           have hcz18_0 : wr.cell? ⟨gb273, 0, none⟩ = some (u274000) := (blk_cell BK273.out 0).trans rfl
           have hcz18_1 : wr.cell? ⟨gb273, 1, none⟩ = some (u274001) := (blk_cell BK273.out 1).trans rfl
           have hfz18_0 := blk_frozen BK273.out 0
           have hfz18_1 := blk_frozen BK273.out 1
           obtain ⟨Ao19, co19, eo19⟩ := Kd.V_slice HO_274000.out
           subst eo19
           have p276 : 0 ≤ (0 : Int) := (by omega)
           have q276 : 0 < (x274000_1.length : Int) := of_decide_eq_true (by first | (with_reducible assumption) | assumption)
           obtain ⟨ad276, e276, hx276_0⟩ := Kd.at_int (Kd.V_reads' HO_274000.out).2.2 0 p276 q276
           cases e276
           have qi276 : (0 < x274000_1.length) = True := eq_true (by omega)
           (try rw [show ((0 : Int)).toNat = 0 from rfl] at hx276_0)
           (try rw [Addr.add_zero'] at hx276_0)
           replace p276 := eq_true p276
           replace q276 := eq_true q276
           obtain ⟨Ao21, co21, eo21⟩ := Kd.V_slice HO_274001.out
           subst eo21
           try go_wp2_with (first | ((with_reducible refine gate_builtin (b := .append) (xs := #[.tmp 27, .tmp 29]) rfl ?_); (try (refine gate_guard (by rfl) ?_; dsimp only)); at_builtin; refine Kd.R_append_rows (Kd.int .i64) (w0 := w) w.heap.size rfl (.tmp 27) (.tmp 29) 22 3 (.int .i64 0) 8 rfl Try.underlying22 info3 rfl (by decide) (by omega) (.slice none 0 0) ([] : List Int) x274001_1 _ _ _ (fun k_ => (w.heap.size ≤ k_) ∧ some k_ ≠ (u7 : Value).ownBlock) (fun _ => False) rfl rfl ?aO ?aR (fun _ _ h => h) (fun _ h => h.elim) ?aF ?aB ?aS ?aL ?_; (case aR => repeat (first | exact (Kd.V_reads' HO_274001.out).2.2 | (with_reducible refine Kd.C_alloc ?_ _) | (with_reducible refine Kd.C_drewN ?_ _) | (with_reducible refine Kd.C_drew ?_))); (case aB => exact (zc2 HB GE273 GE274)); (case aF => exact (fun k_ hk => ⟨(Nat.le_trans (below_size (zc2 HB GE273 GE274)) hk), Kd.fresh' (Kd.R_lt (zR HO_7)) k_ hk⟩)); (case aO => exact ((Kd.R_nil _ _ _ _ (fun k_ => (w.heap.size ≤ k_) ∧ some k_ ≠ (u7 : Value).ownBlock)))); (case aS => exact (below_size (zc2 HB GE273 GE274))); (case aL => have := LMc13.out; omega); intro v278 w20 ho hb hg hat; rw [← Ny277.out] at ho; replace HO_7 := am (Kd.R_after (Kd.R_apart_nil (zR HO_7)) hg hat); replace HO_274000 := am (Kd.V_afterv (Kd.V_apart_nil (zV HO_274000)) hg hat); replace HO_274001 := am (Kd.V_afterv (Kd.V_apart_nil (zV HO_274001)) hg hat); replace BK273 := am (blk_grown (g := gb273) (o := .cells #[.slice (some ad276) x274000_1.length co19, .slice Ao21 x274001_1.length co21] 30 (0, 0)) (zb BK273) hg (by simp [Value.ownBlock])); replace BK274 := am (blk_grown (g := gb274) (o := .cells #[.slice none 0 0, .slice none 0 0] 30 (0, 0)) (zb BK274) hg (by simp [Value.ownBlock])); replace HB := am (hb); have HO279 := am (ho); clear ho hb hg hat))
           replace HO_7 := am (Kd.R_drew HO_7.out)
           replace HO_274000 := am (Kd.V_drew HO_274000.out)
           replace HO_274001 := am (Kd.V_drew HO_274001.out)
           replace HO279 := am (Kd.R_drew HO279.out)
           replace BK273 := am (blk_drew BK273.out)
           replace BK274 := am (blk_drew BK274.out)
           replace HB := am (below_drew1 HB.out)
           have q23 : (1 : Int) ≤ ((x274000_1.length : Int) : Int) := of_decide_eq_true (by first | (with_reducible assumption) | assumption)
           obtain ⟨i023, hi023, _, hsz23, _⟩ := info_parts info3
           have hroom23 : x274000_1.length ≤ co19 := (Kd.V_reads' HO_274000.out).2.1
           have hC23 : Kd.F (Kd.int .i64) _ _ (some ad276) x274000_1.length x274000_1 := (Kd.V_at (base := w.heap.size) HO_274000.out).2.2
           have hcut23 := cut_from (P := Try.prog) 22 3 .i64 Try.underlying22 hi023 1 hsz23 (some ad276) x274000_1.length co19 1 (by omega) q23
           have hr23 := Kd.F_cut (m := (1 : Int).toNat) (c := co19) hC23 (by omega) hroom23
           obtain ⟨A23, hA23⟩ : ∃ A1, A1 = (if co19 = (1 : Int).toNat then (some ad276) else ((some ad276) : Option Addr).map (·.add ((1 : Int).toNat * 1))) := ⟨_, rfl⟩
           obtain ⟨c23, hc23⟩ : ∃ c1, c1 = co19 - (1 : Int).toNat := ⟨_, rfl⟩
           have hy23 : y280.length = x274000_1.length - (1 : Int).toNat := (by rw [Ny280.out, List.length_drop] <;> omega)
           rw [show (x274000_1).drop (1 : Int).toNat = y280 from Ny280.out.symm] at hr23
           replace hr23 : Kd.F (Kd.int .i64) _ _ A23 y280.length y280 := (by rw [hA23]; exact hr23)
           rw [← hy23, ← hA23, ← hc23] at hcut23
           have HO284 := am (show Kd.V (Kd.int .i64) 3 _ w.heap.size _ (.slice A23 y280.length c23) y280 from Kd.V_mk (by rw [hy23, hc23]; exact Nat.sub_le_sub_right hroom23 _) hr23)
           have HC284 := am (show y280.length ≤ c23 from by rw [hy23, hc23]; exact Nat.sub_le_sub_right hroom23 _)
           clear hr23 hC23 hroom23 hi023 hsz23 hc23
           have KY23 := am hy23
           have KA23 := am hA23
           clear hy23 hA23
           replace q23 := eq_true q23
           refine start_ (n := 9) (S := fun w' => w'.cell? ⟨gb273, 0, none⟩ = some (.slice (some ad276) x274000_1.length co19) ∧ w'.cell? ⟨gb273, 1, none⟩ = some (.slice Ao21 x274001_1.length co21)) (ds := [8]) #[false, false, false, false, false, false, false, false, false] (by kernel_rfl) rfl rfl ⟨(blk_cell BK273.out 0).trans rfl, (blk_cell BK273.out 1).trans rfl⟩ (fun hHeld => ?_); refine with_tabW handshakerref20_Signal.tab7 handshakerref20_Signal.bits7 (fun HT_ HW_ => ?_)
           generalize w20.drew = w22 at HO_7 HO_274000 HO_274001 HO279 BK273 BK274 HB HO284 hHeld ⊢
           refine pure_ (i := 0) (N := some 31) (v := ?_) (a' := ?_) #[true, false, false, false, false, false, false, false, false] rfl rfl (any_of HT_.out (by kernel_rfl)) (fun _ _ _ h => h) (Or.inl ⟨by rfl, ?_⟩) ?_ ?_
           rotate_left
           ·intro w'
            go_simp
            with_reducible rfl
           rotate_left
           ·simp only [Act.put, List.setIfInBounds_toArray, List.set_cons_zero, List.set_cons_succ, i64_w, i32_w]
            rfl
           refine pure_ (i := 3) (N := some 34) (v := ?_) (a' := ?_) #[true, false, false, true, false, false, false, false, false] rfl rfl (any_of HT_.out (by kernel_rfl)) (fun _ _ _ h => h) (Or.inl ⟨by rfl, ?_⟩) ?_ ?_
           rotate_left
           ·intro w'
            go_simp
            with_reducible rfl
           rotate_left
           ·simp only [Act.put, List.setIfInBounds_toArray, List.set_cons_zero, List.set_cons_succ, i64_w, i32_w]
            rfl
           refine pure_ (i := 4) (N := some 35) (v := ?_) (a' := ?_) #[true, false, false, true, true, false, false, false, false] rfl rfl (any_of HT_.out (by kernel_rfl)) (fun _ _ _ h => h) (Or.inl ⟨by rfl, ?_⟩) ?_ ?_
           rotate_left
           ·intro w'
            go_simp
            with_reducible rfl
           rotate_left
           ·simp only [Act.put, List.setIfInBounds_toArray, List.set_cons_zero, List.set_cons_succ, i64_w, i32_w]
            rfl
           refine take_ (i := 1) (N := some 32) (v := ?_) (a' := ?_) #[true, true, false, true, true, false, false, false, false] rfl rfl (take_ofW HT_.out HW_.out (by kernel_rfl)) (fun _ _ _ h => h) (Or.inl ⟨by rfl, ?_⟩) hHeld ?_ ?_
           rotate_left
           ·rintro w' ⟨s0, s1⟩
            go_simp
            with_reducible rfl
           rotate_left
           ·simp only [Act.put, List.setIfInBounds_toArray, List.set_cons_zero, List.set_cons_succ, i64_w, i32_w]
            rfl
           refine pure_ (i := 2) (N := some 33) (v := ?_) (a' := ?_) #[true, true, true, true, true, false, false, false, false] rfl rfl (any_of HT_.out (by kernel_rfl)) (fun _ _ _ h => h) (Or.inl ⟨by rfl, ?_⟩) ?_ ?_
           rotate_left
           ·intro w'
            go_simp
            with_reducible rfl
           rotate_left
           ·simp only [Act.put, List.setIfInBounds_toArray, List.set_cons_zero, List.set_cons_succ, i64_w, i32_w]
            rfl
           refine one_ (i := 5) (N := some 36) #[true, true, true, true, true, true, false, false, false] rfl rfl (one_of HT_.out (by kernel_rfl)) (by decide) (fun K hK => ?_)
           refine value_ (w1 := ?_) (v := ?_) (by rfl) rfl ?_ ?_
           rotate_left 2
           ·go_simp
            constructor
            ·rfl
            ·rfl
           refine hK.out _ _ ⟨(blk_cell (blk_alloc BK273.out _) 0).trans rfl, (blk_cell (blk_alloc BK273.out _) 1).trans rfl⟩ (fun hHeld => ?_)
           clear hK K
           refine norm_ (a' := ?_) ?_ ?_
           rotate_left
           ·show Act.put _ (some 36) _ = _
            simp only [Act.put, List.setIfInBounds_toArray, List.set_cons_zero, List.set_cons_succ, i64_w, i32_w]
            rfl
           refine one_ (i := 6) (N := some 37) #[true, true, true, true, true, true, true, false, false] rfl rfl (one_of HT_.out (by kernel_rfl)) (by decide) (fun K hK => ?_)
           refine Kd.R_append_step (Kd.int .i64) (w0 := w) w.heap.size (by rfl) (.tmp 34) (.tmp 36) 22 3 (.int .i64 0) 8 rfl Try.underlying22 info3 rfl (by decide) (by omega) v278 y277 (rd x274000_1 0) [.int .i64 (rd x274000_1 0)] (fun k_ => (w.heap.size ≤ k_) ∧ some k_ ≠ (u7 : Value).ownBlock) (fun _ => False) rfl rfl ?aP (fun _ hk => hk.elim) ?aF ?aO ?aB ?aS ?aL ?_
           (case aP => exact rfl)
           (case aB => exact (zc2 HB GE273 GE274))
           (case aF => exact (fun k_ hk => ⟨(Nat.le_trans (below_size (zc2 HB GE273 GE274)) hk), Kd.fresh' (Kd.R_lt (zR HO_7)) k_ hk⟩))
           (case aO => exact (zR HO279))
           (case aS => exact (below_size (zc2 HB GE273 GE274)))
           (case aL => have := LMc15.out; omega)
           intro v286 w24 ho hb hg hat
           rw [← Ny285.out] at ho
           replace HO_7 := am (Kd.R_after (ok := (fun k_ => (w.heap.size ≤ k_))) (zR HO_7) hg hat)
           replace HO_274000 := am (Kd.V_afterv (ok := (fun k_ => ((P0_0_ k_ ∨ P0_1_ k_) ∨ w.heap.size ≤ k_) ∧ some k_ ≠ (u7 : Value).ownBlock ∧ k_ ≠ gb273 ∧ k_ ≠ gb274)) (zV HO_274000) hg hat)
           replace HO_274001 := am (Kd.V_afterv (ok := (fun k_ => ((P0_0_ k_ ∨ P0_1_ k_) ∨ w.heap.size ≤ k_) ∧ some k_ ≠ (u7 : Value).ownBlock ∧ k_ ≠ gb273 ∧ k_ ≠ gb274)) (zV HO_274001) hg hat)
           replace BK273 := am (blk_grown (g := gb273) (o := .cells #[.slice (some ad276) x274000_1.length co19, .slice Ao21 x274001_1.length co21] 30 (0, 0)) (zb BK273) hg (Kd.R_ne HO279.out BK273.out (by decide)))
           replace BK274 := am (blk_grown (g := gb274) (o := .cells #[.slice none 0 0, .slice none 0 0] 30 (0, 0)) (zb BK274) hg (Kd.R_ne HO279.out BK274.out (by decide)))
           replace HO284 := am (Kd.V_afterv (ok := (fun k_ => ((P0_0_ k_ ∨ P0_1_ k_) ∨ w.heap.size ≤ k_) ∧ some k_ ≠ (u7 : Value).ownBlock ∧ k_ ≠ gb273 ∧ k_ ≠ gb274)) (zV HO284) hg hat)
           replace HB := am (hb)
           have HO287 := am (ho)
           clear HO279
           clear ho hb hg hat
           obtain ⟨Ao25, co25, eo25⟩ := Kd.R_slice HO287.out
           (first | subst eo25 | (injection eo25 with f1_ f2_ f3_; have f4_ := f1_.symm; have f5_ := f3_.symm; clear f1_ f2_ f3_; subst f4_; subst f5_))
           refine hK.out _ _ ⟨(blk_cell BK273.out 0).trans rfl, (blk_cell BK273.out 1).trans rfl⟩ (fun hHeld => ?_)
           clear hK K
           refine norm_ (a' := ?_) ?_ ?_
           rotate_left
           ·show Act.put _ (some 37) _ = _
            simp only [Act.put, List.setIfInBounds_toArray, List.set_cons_zero, List.set_cons_succ, i64_w, i32_w]
            rfl
           refine pure_ (i := 7) (N := some 38) (v := ?_) (a' := ?_) #[true, true, true, true, true, true, true, true, false] rfl rfl (any_of HT_.out (by kernel_rfl)) (fun _ _ _ h => h) (Or.inl ⟨by rfl, ?_⟩) ?_ ?_
           rotate_left
           ·intro w'
            go_simp
            with_reducible rfl
           rotate_left
           ·simp only [Act.put, List.setIfInBounds_toArray, List.set_cons_zero, List.set_cons_succ, i64_w, i32_w]
            rfl
           refine last_ (i := 8) (N := none) #[true, true, true, true, true, true, true, true, true] rfl rfl (one_of HT_.out (by kernel_rfl)) (by decide) (fun K hK => ?_)
           have hs26 : w24.cell? ⟨gb273, 0, none⟩ = some (.slice (some ad276) x274000_1.length co19) := (blk_cell BK273.out 0).trans rfl
           have hfs26 := blk_frozen BK273.out 0
           have hns26_1 := NB274_273.out
           have hms26_1 := NB273_274.out
           have hs27 : w24.cell? ⟨gb273, 1, none⟩ = some (.slice Ao21 x274001_1.length co21) := (blk_cell BK273.out 1).trans rfl
           have hfs27 := blk_frozen BK273.out 1
           have hns27_1 := NB274_273.out
           have hms27_1 := NB273_274.out
           refine skip_ (w1 := ?_) (by rfl) rfl ?_ ?_
           rotate_left
           ·go_simp
            rfl
           refine hK.out _ _ ?_
           clear hK K
           refine done_ (done_of HT_.out (by kernel_rfl)) ?_
           try go_wp2_with (first | ((with_reducible refine gate_builtin (b := .append) (xs := #[.tmp 39, .tmp 41]) rfl ?_); (try (refine gate_guard (by rfl) ?_; dsimp only)); at_builtin; refine Kd.R_append (Kd.int .i64) (w0 := w) w.heap.size rfl (.tmp 39) (.tmp 41) 22 3 (.int .i64 0) 8 rfl Try.underlying22 info3 rfl (by decide) (by omega) u7 x7_1 (rd x274000_1 0) [.int .i64 (rd x274000_1 0)] (fun k_ => (w.heap.size ≤ k_) ∧ some k_ ≠ (.slice Ao25 y285.length co25 : Value).ownBlock) (fun _ => False) rfl (by first | (go_simp; done) | (go_simp; rfl)) ?aP (fun _ hk => hk.elim) ?aF ?aO ?aB ?aS ?aL ?_; (case aP => exact rfl); (case aB => exact (zc2 HB GE273 GE274)); (case aF => exact (fun k_ hk => ⟨(Nat.le_trans (below_size (zc2 HB GE273 GE274)) hk), Kd.fresh' (Kd.R_lt (by (with_reducible repeat (first | apply Kd.R_alloc | apply Kd.R_drewN | apply Kd.R_drew)); exact (Kd.R_mono (Kd.R_far (p := ⟨gb273, 1, none⟩) (Kd.R_far (p := ⟨gb273, 0, none⟩) (Kd.R_types HO287.out BK273.out (by decide)) (fun _ hk => hk.2) (.slice A23 y280.length c23)) (fun _ hk => hk.2) (.slice Ao25 y285.length co25)) (fun _ h_ => h_.1)))) k_ hk⟩)); (case aO => exact (by (with_reducible repeat (first | apply Kd.R_alloc | apply Kd.R_drewN | apply Kd.R_drew)); exact Kd.R_mono (Kd.R_far (p := ⟨gb273, 1, none⟩) (Kd.R_far (p := ⟨gb273, 0, none⟩) (Kd.R_types HO_7.out BK273.out (by decide)) (fun _ hk => hk.2) (.slice A23 y280.length c23)) (fun _ hk => hk.2) (.slice Ao25 y285.length co25)) (fun _ hk => ⟨hk.1.1, hk.1.2⟩))); (case aS => exact (below_size (zc2 HB GE273 GE274))); (case aL => have := LMc16.out; omega); intro v289 w28 ho hb hg hat; rw [← Ny288.out] at ho; replace HO_274000 := am (Kd.V_afterv (ok := (fun k_ => ((P0_0_ k_ ∨ P0_1_ k_) ∨ w.heap.size ≤ k_) ∧ some k_ ≠ (.slice Ao25 y285.length co25 : Value).ownBlock ∧ k_ ≠ gb273 ∧ k_ ≠ gb274)) (by (with_reducible repeat (first | apply Kd.V_alloc | apply Kd.V_drewN | apply Kd.V_drew)); exact Kd.V_mono (Kd.V_far (p := ⟨gb273, 1, none⟩) (Kd.V_far (p := ⟨gb273, 0, none⟩) (Kd.V_mono HO_274000.out (fun k_ hk => (⟨hk, hk.1.2.2.1⟩ : _ ∧ k_ ≠ gb273))) (fun _ hk => hk.2) (.slice A23 y280.length c23)) (fun _ hk => hk.2) (.slice Ao25 y285.length co25)) (fun _ hk => ⟨⟨hk.1.1.1, ⟨hk.1.2, ⟨hk.1.1.2.2.1, hk.1.1.2.2.2⟩⟩⟩, hk.1.1.2.1⟩)) hg hat); replace HO_274001 := am (Kd.V_afterv (ok := (fun k_ => ((P0_0_ k_ ∨ P0_1_ k_) ∨ w.heap.size ≤ k_) ∧ some k_ ≠ (.slice Ao25 y285.length co25 : Value).ownBlock ∧ k_ ≠ gb273 ∧ k_ ≠ gb274)) (by (with_reducible repeat (first | apply Kd.V_alloc | apply Kd.V_drewN | apply Kd.V_drew)); exact Kd.V_mono (Kd.V_far (p := ⟨gb273, 1, none⟩) (Kd.V_far (p := ⟨gb273, 0, none⟩) (Kd.V_mono HO_274001.out (fun k_ hk => (⟨hk, hk.1.2.2.1⟩ : _ ∧ k_ ≠ gb273))) (fun _ hk => hk.2) (.slice A23 y280.length c23)) (fun _ hk => hk.2) (.slice Ao25 y285.length co25)) (fun _ hk => ⟨⟨hk.1.1.1, ⟨hk.1.2, ⟨hk.1.1.2.2.1, hk.1.1.2.2.2⟩⟩⟩, hk.1.1.2.1⟩)) hg hat); replace BK274 := am (blk_grown (g := gb274) (o := .cells #[.slice none 0 0, .slice none 0 0] 30 (0, 0)) (by (with_reducible repeat (first | refine blk_drewN ?_ _ | refine blk_drew ?_ | refine blk_alloc ?_ _)); refine blk_far ?_ NB274_273.out _; (with_reducible repeat (first | refine blk_drewN ?_ _ | refine blk_drew ?_ | refine blk_alloc ?_ _)); refine blk_far ?_ NB274_273.out _; (with_reducible repeat (first | refine blk_drewN ?_ _ | refine blk_drew ?_ | refine blk_alloc ?_ _)); exact BK274.out) hg (Kd.R_ne HO_7.out BK274.out (by decide))); replace HO284 := am (Kd.V_afterv (ok := (fun k_ => ((P0_0_ k_ ∨ P0_1_ k_) ∨ w.heap.size ≤ k_) ∧ some k_ ≠ (.slice Ao25 y285.length co25 : Value).ownBlock ∧ k_ ≠ gb273 ∧ k_ ≠ gb274)) (by (with_reducible repeat (first | apply Kd.V_alloc | apply Kd.V_drewN | apply Kd.V_drew)); exact Kd.V_mono (Kd.V_far (p := ⟨gb273, 1, none⟩) (Kd.V_far (p := ⟨gb273, 0, none⟩) (Kd.V_mono HO284.out (fun k_ hk => (⟨hk, hk.1.2.2.1⟩ : _ ∧ k_ ≠ gb273))) (fun _ hk => hk.2) (.slice A23 y280.length c23)) (fun _ hk => hk.2) (.slice Ao25 y285.length co25)) (fun _ hk => ⟨⟨hk.1.1.1, ⟨hk.1.2, ⟨hk.1.1.2.2.1, hk.1.1.2.2.2⟩⟩⟩, hk.1.1.2.1⟩)) hg hat); replace HO287 := am (Kd.R_after (ok := (fun k_ => (w.heap.size ≤ k_))) (by (with_reducible repeat (first | apply Kd.R_alloc | apply Kd.R_drewN | apply Kd.R_drew)); exact Kd.R_mono (Kd.R_far (p := ⟨gb273, 1, none⟩) (Kd.R_far (p := ⟨gb273, 0, none⟩) (Kd.R_types HO287.out BK273.out (by decide)) (fun _ hk => hk.2) (.slice A23 y280.length c23)) (fun _ hk => hk.2) (.slice Ao25 y285.length co25)) (fun _ hk => ⟨hk.1.1, hk.1.2⟩)) hg hat); replace BK273 := am (blk_grown (g := gb273) (o := .cells #[.slice A23 y280.length c23, .slice Ao25 y285.length co25] 30 (0, 0)) (by (with_reducible repeat (first | refine blk_drewN ?_ _ | refine blk_drew ?_ | refine blk_alloc ?_ _)); refine blk_put (cs := #[.slice A23 y280.length c23, .slice Ao21 x274001_1.length co21]) ?_ 1 _ rfl; (with_reducible repeat (first | refine blk_drewN ?_ _ | refine blk_drew ?_ | refine blk_alloc ?_ _)); refine blk_put (cs := #[.slice (some ad276) x274000_1.length co19, .slice Ao21 x274001_1.length co21]) ?_ 0 _ rfl; (with_reducible repeat (first | refine blk_drewN ?_ _ | refine blk_drew ?_ | refine blk_alloc ?_ _)); exact BK273.out) hg (Kd.R_ne HO_7.out BK273.out (by decide))); replace HB := am (hb); have HO290 := am (ho); clear HO_7; clear ho hb hg hat))
           go_roundg k1
           case measure => have := HK1.out; omega
           case rel => exact ⟨(wrap64 (x1_1 - 1)), (y288), (y280), (y285), (.slice A23 y280.length c23), (.slice Ao25 y285.length co25), (by first | rfl | (simp; done) | (simp [*]; done)), H', ⟨by have := HK1.out; omega⟩, ⟨by (with_reducible repeat (first | apply Kd.R_alloc | apply Kd.R_drewN | apply Kd.R_drew)); exact Kd.R_mono HO290.out (fun _ hk => hk.1)⟩, ⟨by (with_reducible repeat (first | apply Kd.V_alloc | apply Kd.V_drewN | apply Kd.V_drew)); exact Kd.V_mono HO284.out (fun _ hk => ⟨hk.1.1, ⟨hk.2, ⟨hk.1.2.2.1, hk.1.2.2.2⟩⟩⟩)⟩, ⟨Kd.V_mono (Kd.R_V (Kd.R_mono (ok' := fun k_ => ((w.heap.size ≤ k_) ∧ (some k_ ≠ (v289 : Value).ownBlock ∧ (k_ ≠ gb273 ∧ k_ ≠ gb274)))) (by (with_reducible repeat (first | apply Kd.R_alloc | apply Kd.R_drewN | apply Kd.R_drew)); exact Kd.R_mono (Kd.R_types (Kd.R_types HO287.out BK273.out (by decide)) BK274.out (by decide)) (fun _ hk => ⟨hk.1.1.1, ⟨hk.1.1.2, ⟨hk.1.2, hk.2⟩⟩⟩)) (fun _ h_ => h_))) (fun k_ hk => by first | exact ⟨(.inr (hk.1)), hk.2⟩ | exact (.inr (hk)))⟩, ⟨by (with_reducible repeat (first | refine blk_drewN ?_ _ | refine blk_drew ?_ | refine blk_alloc ?_ _)); exact BK273.out⟩, ⟨by (with_reducible repeat (first | refine blk_drewN ?_ _ | refine blk_drew ?_ | refine blk_alloc ?_ _)); exact BK274.out⟩, ⟨by repeat (first | (with_reducible first | exact HB.out | apply below_alloc | apply pw_below_drewN | apply below_drew1 | refine below_set ?_ GE273.out | refine below_set ?_ GE274.out) | exact HB.out)⟩⟩
          ·rw [if_neg c16] at H
           exact absurd H (by simp)
         ·rw [if_neg c15] at H
          exact absurd H (by simp)
        ·rw [if_neg c14] at H
         exact absurd H (by simp)
       ·rw [if_neg c13] at H
        exact absurd H (by simp)
      ·rw [if_neg c12] at H
       exact absurd H (by simp)
     ·rw [if_neg c11] at H
      have c11b0 : decide (0 < (x274000_1.length : Int)) = false := decide_eq_false c11
      have c11b1 : decide (0 < x274000_1.length) = false := decide_eq_false (by omega)
      clear c11
      simp only [Option.some.injEq, Prod.mk.injEq] at H
      obtain ⟨rfl, rfl, rfl⟩ := H
      have hnb29 := NB273_274.out
      have hnc29 := NB274_273.out
      have hcz30_0 : wr.cell? ⟨gb273, 0, none⟩ = some (u274000) := (blk_cell BK273.out 0).trans rfl
      have hcz30_1 : wr.cell? ⟨gb273, 1, none⟩ = some (u274001) := (blk_cell BK273.out 1).trans rfl
      have hfz30_0 := blk_frozen BK273.out 0
      have hfz30_1 := blk_frozen BK273.out 1
      obtain ⟨Ao31, co31, eo31⟩ := Kd.V_slice HO_274000.out
      subst eo31
      have hcz32_0 : wr.cell? ⟨gb274, 0, none⟩ = some (.slice none 0 0) := (blk_cell BK274.out 0).trans rfl
      have hcz32_1 : wr.cell? ⟨gb274, 1, none⟩ = some (.slice none 0 0) := (blk_cell BK274.out 1).trans rfl
      have hfz32_0 := blk_frozen BK274.out 0
      have hfz32_1 := blk_frozen BK274.out 1
      obtain ⟨Ao33, co33, eo33⟩ := Kd.V_slice HO_274001.out
      subst eo33
      go_wp2
      refine bodyPost_ret (results_ct rfl _ _ gb274 30 #[.slice Ao31 x274000_1.length co31, .slice Ao33 x274001_1.length co33] (0, 0) _ rfl (by (with_reducible repeat (first | refine blk_drewN ?_ _ | refine blk_drew ?_ | refine blk_alloc ?_ _)); refine blk_put (cs := #[.slice Ao31 x274000_1.length co31, .slice none 0 0]) ?_ 1 _ rfl; (with_reducible repeat (first | refine blk_drewN ?_ _ | refine blk_drew ?_ | refine blk_alloc ?_ _)); refine blk_put (cs := #[.slice none 0 0, .slice none 0 0]) ?_ 0 _ rfl; (with_reducible repeat (first | refine blk_drewN ?_ _ | refine blk_drew ?_ | refine blk_alloc ?_ _)); exact BK274.out) Try.underlying30 rfl (by kernel_rfl)) rfl ?_
      exact ⟨_, _, _, by first | rfl | (simp [errW_none, errW_some] <;> rfl) | (simp [*, errW_none, errW_some] <;> rfl), by (with_reducible repeat (first | apply Kd.V_alloc | apply Kd.V_drewN | apply Kd.V_drew)); exact Kd.V_mono (Kd.V_far (p := ⟨gb274, 1, none⟩) (Kd.V_far (p := ⟨gb274, 0, none⟩) (Kd.V_mono HO_274000.out (fun k_ hk => (⟨hk, hk.2.2.2⟩ : _ ∧ k_ ≠ gb274))) (fun _ hk => hk.2) (.slice Ao31 x274000_1.length co31)) (fun _ hk => hk.2) (.slice Ao33 x274001_1.length co33)) (fun _ hk => ⟨hk.1.1, hk.1.2.1⟩), by (with_reducible repeat (first | apply Kd.V_alloc | apply Kd.V_drewN | apply Kd.V_drew)); exact Kd.V_mono (Kd.V_far (p := ⟨gb274, 1, none⟩) (Kd.V_far (p := ⟨gb274, 0, none⟩) (Kd.V_mono HO_274001.out (fun k_ hk => (⟨hk, hk.2.2.2⟩ : _ ∧ k_ ≠ gb274))) (fun _ hk => hk.2) (.slice Ao31 x274000_1.length co31)) (fun _ hk => hk.2) (.slice Ao33 x274001_1.length co33)) (fun _ hk => ⟨hk.1.1, hk.1.2.1⟩), by (with_reducible repeat (first | apply Kd.R_alloc | apply Kd.R_drewN | apply Kd.R_drew)); exact Kd.R_mono (Kd.R_far (p := ⟨gb274, 1, none⟩) (Kd.R_far (p := ⟨gb274, 0, none⟩) (Kd.R_types HO_7.out BK274.out (by decide)) (fun _ hk => hk.2) (.slice Ao31 x274000_1.length co31)) (fun _ hk => hk.2) (.slice Ao33 x274001_1.length co33)) (fun _ hk => hk.1), by repeat (first | (with_reducible first | exact HB.out | apply below_alloc | apply pw_below_drewN | apply below_drew1 | refine below_set ?_ GE273.out | refine below_set ?_ GE274.out) | exact HB.out)⟩
    ·rw [if_neg c10] at H
     have c10b0 : decide (0 < x1_1) = false := decide_eq_false c10
     clear c10
     simp only [Option.some.injEq, Prod.mk.injEq] at H
     obtain ⟨rfl, rfl, rfl⟩ := H
     have hnb34 := NB273_274.out
     have hnc34 := NB274_273.out
     have hcz35_0 : wr.cell? ⟨gb273, 0, none⟩ = some (u274000) := (blk_cell BK273.out 0).trans rfl
     have hcz35_1 : wr.cell? ⟨gb273, 1, none⟩ = some (u274001) := (blk_cell BK273.out 1).trans rfl
     have hfz35_0 := blk_frozen BK273.out 0
     have hfz35_1 := blk_frozen BK273.out 1
     obtain ⟨Ao36, co36, eo36⟩ := Kd.V_slice HO_274000.out
     subst eo36
     have hcz37_0 : wr.cell? ⟨gb274, 0, none⟩ = some (.slice none 0 0) := (blk_cell BK274.out 0).trans rfl
     have hcz37_1 : wr.cell? ⟨gb274, 1, none⟩ = some (.slice none 0 0) := (blk_cell BK274.out 1).trans rfl
     have hfz37_0 := blk_frozen BK274.out 0
     have hfz37_1 := blk_frozen BK274.out 1
     obtain ⟨Ao38, co38, eo38⟩ := Kd.V_slice HO_274001.out
     subst eo38
     go_wp2
     refine bodyPost_ret (results_ct rfl _ _ gb274 30 #[.slice Ao36 x274000_1.length co36, .slice Ao38 x274001_1.length co38] (0, 0) _ rfl (by (with_reducible repeat (first | refine blk_drewN ?_ _ | refine blk_drew ?_ | refine blk_alloc ?_ _)); refine blk_put (cs := #[.slice Ao36 x274000_1.length co36, .slice none 0 0]) ?_ 1 _ rfl; (with_reducible repeat (first | refine blk_drewN ?_ _ | refine blk_drew ?_ | refine blk_alloc ?_ _)); refine blk_put (cs := #[.slice none 0 0, .slice none 0 0]) ?_ 0 _ rfl; (with_reducible repeat (first | refine blk_drewN ?_ _ | refine blk_drew ?_ | refine blk_alloc ?_ _)); exact BK274.out) Try.underlying30 rfl (by kernel_rfl)) rfl ?_
     exact ⟨_, _, _, by first | rfl | (simp [errW_none, errW_some] <;> rfl) | (simp [*, errW_none, errW_some] <;> rfl), by (with_reducible repeat (first | apply Kd.V_alloc | apply Kd.V_drewN | apply Kd.V_drew)); exact Kd.V_mono (Kd.V_far (p := ⟨gb274, 1, none⟩) (Kd.V_far (p := ⟨gb274, 0, none⟩) (Kd.V_mono HO_274000.out (fun k_ hk => (⟨hk, hk.2.2.2⟩ : _ ∧ k_ ≠ gb274))) (fun _ hk => hk.2) (.slice Ao36 x274000_1.length co36)) (fun _ hk => hk.2) (.slice Ao38 x274001_1.length co38)) (fun _ hk => ⟨hk.1.1, hk.1.2.1⟩), by (with_reducible repeat (first | apply Kd.V_alloc | apply Kd.V_drewN | apply Kd.V_drew)); exact Kd.V_mono (Kd.V_far (p := ⟨gb274, 1, none⟩) (Kd.V_far (p := ⟨gb274, 0, none⟩) (Kd.V_mono HO_274001.out (fun k_ hk => (⟨hk, hk.2.2.2⟩ : _ ∧ k_ ≠ gb274))) (fun _ hk => hk.2) (.slice Ao36 x274000_1.length co36)) (fun _ hk => hk.2) (.slice Ao38 x274001_1.length co38)) (fun _ hk => ⟨hk.1.1, hk.1.2.1⟩), by (with_reducible repeat (first | apply Kd.R_alloc | apply Kd.R_drewN | apply Kd.R_drew)); exact Kd.R_mono (Kd.R_far (p := ⟨gb274, 1, none⟩) (Kd.R_far (p := ⟨gb274, 0, none⟩) (Kd.R_types HO_7.out BK274.out (by decide)) (fun _ hk => hk.2) (.slice Ao36 x274000_1.length co36)) (fun _ hk => hk.2) (.slice Ao38 x274001_1.length co38)) (fun _ hk => hk.1), by repeat (first | (with_reducible first | exact HB.out | apply below_alloc | apply pw_below_drewN | apply below_drew1 | refine below_set ?_ GE273.out | refine below_set ?_ GE274.out) | exact HB.out)⟩
   ·replace c9 := Bool.eq_false_iff.mpr c9
    subst c9
    have H1 : (some (x274000_1, x274001_1, x7_1)) = some (r1, r2, r3) := by rw [if_neg (show ¬ (false = true) by decide)] at H; exact H
    clear H
    have H := H1
    clear H1
    simp only [Option.some.injEq, Prod.mk.injEq] at H
    obtain ⟨rfl, rfl, rfl⟩ := H
    have hnb39 := NB273_274.out
    have hnc39 := NB274_273.out
    have hcz40_0 : wr.cell? ⟨gb273, 0, none⟩ = some (u274000) := (blk_cell BK273.out 0).trans rfl
    have hcz40_1 : wr.cell? ⟨gb273, 1, none⟩ = some (u274001) := (blk_cell BK273.out 1).trans rfl
    have hfz40_0 := blk_frozen BK273.out 0
    have hfz40_1 := blk_frozen BK273.out 1
    obtain ⟨Ao41, co41, eo41⟩ := Kd.V_slice HO_274000.out
    subst eo41
    have hcz42_0 : wr.cell? ⟨gb274, 0, none⟩ = some (.slice none 0 0) := (blk_cell BK274.out 0).trans rfl
    have hcz42_1 : wr.cell? ⟨gb274, 1, none⟩ = some (.slice none 0 0) := (blk_cell BK274.out 1).trans rfl
    have hfz42_0 := blk_frozen BK274.out 0
    have hfz42_1 := blk_frozen BK274.out 1
    obtain ⟨Ao43, co43, eo43⟩ := Kd.V_slice HO_274001.out
    subst eo43
    go_wp2
    refine bodyPost_ret (results_ct rfl _ _ gb274 30 #[.slice Ao41 x274000_1.length co41, .slice Ao43 x274001_1.length co43] (0, 0) _ rfl (by (with_reducible repeat (first | refine blk_drewN ?_ _ | refine blk_drew ?_ | refine blk_alloc ?_ _)); refine blk_put (cs := #[.slice Ao41 x274000_1.length co41, .slice none 0 0]) ?_ 1 _ rfl; (with_reducible repeat (first | refine blk_drewN ?_ _ | refine blk_drew ?_ | refine blk_alloc ?_ _)); refine blk_put (cs := #[.slice none 0 0, .slice none 0 0]) ?_ 0 _ rfl; (with_reducible repeat (first | refine blk_drewN ?_ _ | refine blk_drew ?_ | refine blk_alloc ?_ _)); exact BK274.out) Try.underlying30 rfl (by kernel_rfl)) rfl ?_
    exact ⟨_, _, _, by first | rfl | (simp [errW_none, errW_some] <;> rfl) | (simp [*, errW_none, errW_some] <;> rfl), by (with_reducible repeat (first | apply Kd.V_alloc | apply Kd.V_drewN | apply Kd.V_drew)); exact Kd.V_mono (Kd.V_far (p := ⟨gb274, 1, none⟩) (Kd.V_far (p := ⟨gb274, 0, none⟩) (Kd.V_mono HO_274000.out (fun k_ hk => (⟨hk, hk.2.2.2⟩ : _ ∧ k_ ≠ gb274))) (fun _ hk => hk.2) (.slice Ao41 x274000_1.length co41)) (fun _ hk => hk.2) (.slice Ao43 x274001_1.length co43)) (fun _ hk => ⟨hk.1.1, hk.1.2.1⟩), by (with_reducible repeat (first | apply Kd.V_alloc | apply Kd.V_drewN | apply Kd.V_drew)); exact Kd.V_mono (Kd.V_far (p := ⟨gb274, 1, none⟩) (Kd.V_far (p := ⟨gb274, 0, none⟩) (Kd.V_mono HO_274001.out (fun k_ hk => (⟨hk, hk.2.2.2⟩ : _ ∧ k_ ≠ gb274))) (fun _ hk => hk.2) (.slice Ao41 x274000_1.length co41)) (fun _ hk => hk.2) (.slice Ao43 x274001_1.length co43)) (fun _ hk => ⟨hk.1.1, hk.1.2.1⟩), by (with_reducible repeat (first | apply Kd.R_alloc | apply Kd.R_drewN | apply Kd.R_drew)); exact Kd.R_mono (Kd.R_far (p := ⟨gb274, 1, none⟩) (Kd.R_far (p := ⟨gb274, 0, none⟩) (Kd.R_types HO_7.out BK274.out (by decide)) (fun _ hk => hk.2) (.slice Ao41 x274000_1.length co41)) (fun _ hk => hk.2) (.slice Ao43 x274001_1.length co43)) (fun _ hk => hk.1), by repeat (first | (with_reducible first | exact HB.out | apply below_alloc | apply pw_below_drewN | apply below_drew1 | refine below_set ?_ GE273.out | refine below_set ?_ GE274.out) | exact HB.out)⟩

/-! ### handshakerref20_less: function 30 -/
def handshakerref20_less.l0 : Nat → List Int → Int → List Int → Int → Option (List Int)
 | 0, _, _, _, _ => none
 | k + 1, x0, x1, x5, x6 => if x6 < (x0.length : Int) then (if 0 ≤ x6 then (if (rd x0 x6) = x1 then (handshakerref20_less.l0 k x0 x1 x5 (wrap64 (x6 + 1))) else (if x5.length < 17592186044416 then (handshakerref20_less.l0 k x0 x1 (x5 ++ [rd x0 x6]) (wrap64 (x6 + 1))) else (none))) else (none)) else (some x5)
def handshakerref20_less.f (k : Nat) (l0 : List Int) (a1 : Int) : Option (List Int) := handshakerref20_less.l0 k l0 a1 ([] : List Int) 0
theorem handshakerref20_less.mono_l : ∀ k, (∀ y0 y1 y2 y3, LeO (handshakerref20_less.l0 k y0 y1 y2 y3) (handshakerref20_less.l0 (k + 1) y0 y1 y2 y3))
 | 0 => fun _ _ _ _ r h => by simp [handshakerref20_less.l0] at h
 | k + 1 => by
  have ih0 := handshakerref20_less.mono_l k
  ·intro y0 y1 y2 y3
   unfold handshakerref20_less.l0
   repeat' first
   | (with_reducible exact ih0 _ _ _ _)
   | (with_reducible exact LeO.refl _)
   | (with_reducible exact LeO.none _)
   | (with_reducible refine LeO.ite ?_ ?_)
   | (with_reducible refine LeO.bind ?_ (fun _ => ?_))
   | exact ih0 _ _ _ _
   | exact LeO.none _
   | refine LeO.ite ?_ ?_
   | refine LeO.bind ?_ (fun _ => ?_)
theorem handshakerref20_less.mono : ∀ a0 a1 k, LeO (handshakerref20_less.f k a0 a1) (handshakerref20_less.f (k + 1) a0 a1) := by
 intro a0 a1 k
 have ih0 := handshakerref20_less.mono_l k
 unfold handshakerref20_less.f
 repeat' first
   | (with_reducible exact ih0 _ _ _ _)
   | (with_reducible exact LeO.refl _)
   | (with_reducible exact LeO.none _)
   | (with_reducible refine LeO.ite ?_ ?_)
   | (with_reducible refine LeO.bind ?_ (fun _ => ?_))
   | exact ih0 _ _ _ _
   | exact LeO.none _
   | refine LeO.ite ?_ ?_
   | refine LeO.bind ?_ (fun _ => ?_)
set_option maxHeartbeats 8000000 in
set_option maxRecDepth 100000 in
theorem handshakerref20_less.calls (k : Nat) (A0 : Option Addr) (c0 : Nat) (l0 : List Int) (a1 : Int) (r : List Int) (w : World) (hr0 : Kd.C (Kd.int .i64) w A0 l0.length l0) (hc0 : l0.length ≤ c0) (h : handshakerref20_less.f k l0 a1 = some r) :
  Calls Try.prog 30 #[.slice A0 l0.length c0, .int .i64 a1] w fun e w' => ∃ v0_ : Value, e = .returned (v0_) ∧ Kd.R (Kd.int .i64) 3 w' w.heap.size (fun _ => True) v0_ r ∧ Below w.heap.size w w' := by
 have HR0 := am hr0
 have HC0 := am hc0
 clear hr0 hc0
 have HB := am (Below.refl w.heap.size w)
 have H : (handshakerref20_less.l0 k l0 a1 ([] : List Int) 0) = some r := h
 clear h
 have H' := am H
 clear H
 go_enter Try.func30, Try.ntmps30
 go_wp2
 go_loopg [5, 6] k (fun kq v5 v6 w' => ∃ (x5_1 : List Int) (x6_1 : Int), v6 = .int .i64 x6_1 ∧ Aside0 (handshakerref20_less.l0 kq l0 a1 x5_1 x6_1 = some r) ∧ Aside0 (kq ≤ k) ∧ Aside0 (Kd.R (Kd.int .i64) 3 w' w.heap.size (fun _ => True) v5 x5_1) ∧ Aside0 (Below w.heap.size w w'))
 case atStart => exact ⟨(([] : List Int)), (0), (by first | rfl | (simp; done) | (simp [*]; done)), H', ⟨Nat.le_refl _⟩, ⟨by first | exact Kd.R_nil _ _ _ _ _ | exact Kd.N_nil _ _ _ _ _ | exact Kd.V_nil _ _ _ _ _ | exact Kd.Q_nil _ _ _ _ _ | exact Kd.S_nil _ _ _ _ _⟩, ⟨by repeat (first | (with_reducible first | exact HB.out | apply below_alloc | apply pw_below_drewN | apply below_drew1) | exact HB.out)⟩⟩
 case round =>
  clear H'
  try clear p2
  obtain ⟨x5_1, x6_1, rfl, HA, HK1, HO_5, HB⟩ := hrel
  cases gk with
  | zero => exact absurd HA.out (by simp [handshakerref20_less.l0])
  | succ k1 =>
   have H := HA.out
   clear HA
   simp only [handshakerref20_less.l0] at H
   by_cases c3 : x6_1 < (l0.length : Int)
   ·rw [if_pos c3] at H
    have c3b0 : decide (x6_1 < (l0.length : Int)) = true := decide_eq_true c3
    clear c3
    by_cases c4 : 0 ≤ x6_1
    ·rw [if_pos c4] at H
     have c4b0 : decide (0 ≤ x6_1) = true := decide_eq_true c4
     clear c4
     by_cases c5 : (rd l0 x6_1) = a1
     ·rw [if_pos c5] at H
      have c5b0 : ((rd l0 x6_1) == a1) = true := beq_iff_eq.mpr c5
      have c5b1 : ((rd l0 x6_1) != a1) = false := bne_eq_false_iff_eq.mpr c5
      clear c5
      have H' := am H
      clear H
      have p291 : 0 ≤ (x6_1 : Int) := of_decide_eq_true (by first | (with_reducible assumption) | assumption)
      have q291 : x6_1 < (l0.length : Int) := of_decide_eq_true (by first | (with_reducible assumption) | assumption)
      obtain ⟨ad291, e291, hx291_0⟩ := Kd.at_int HR0.out x6_1 p291 q291
      cases e291
      replace hx291_0 := (HB.out.cell (World.block_lt_of_cell? w _ hx291_0)).trans hx291_0
      replace p291 := eq_true p291
      replace q291 := eq_true q291
      go_wp2
      go_roundg k1
      case measure => have := HK1.out; omega
      case rel => exact ⟨(x5_1), (wrap64 (x6_1 + 1)), (by first | rfl | (simp; done) | (simp [*]; done)), H', ⟨by have := HK1.out; omega⟩, ⟨by (with_reducible repeat (first | apply Kd.R_alloc | apply Kd.R_drewN | apply Kd.R_drew)); exact HO_5.out⟩, ⟨by repeat (first | (with_reducible first | exact HB.out | apply below_alloc | apply pw_below_drewN | apply below_drew1) | exact HB.out)⟩⟩
     ·rw [if_neg c5] at H
      have c5b0 : ((rd l0 x6_1) == a1) = false := beq_eq_false_iff_ne.mpr c5
      have c5b1 : ((rd l0 x6_1) != a1) = true := bne_iff_ne.mpr c5
      by_cases c6 : x5_1.length < 17592186044416
      ·rw [if_pos c6] at H
       have LMc6 := am c6
       clear c6
       obtain ⟨y293, hy293⟩ : ∃ y_ : List Int, y_ = (x5_1 ++ [rd l0 x6_1]) := ⟨_, rfl⟩
       replace H : (handshakerref20_less.l0 k1 l0 a1 y293 (wrap64 (x6_1 + 1))) = some r := by first | (rw [hy293]; with_reducible exact H) | (have H2_ := (Option.bind_some _ _).symm.trans H; rw [hy293]; with_reducible exact H2_) | (have H2_ := (Option.bind_some _ _).symm.trans H; with_reducible exact H2_) | with_reducible exact H | (rw [hy293]; exact H) | exact H
       have Ny293 := am hy293
       clear hy293
       have H' := am H
       clear H
       have p291 : 0 ≤ (x6_1 : Int) := of_decide_eq_true (by first | (with_reducible assumption) | assumption)
       have q291 : x6_1 < (l0.length : Int) := of_decide_eq_true (by first | (with_reducible assumption) | assumption)
       obtain ⟨ad291, e291, hx291_0⟩ := Kd.at_int HR0.out x6_1 p291 q291
       cases e291
       replace hx291_0 := (HB.out.cell (World.block_lt_of_cell? w _ hx291_0)).trans hx291_0
       replace p291 := eq_true p291
       replace q291 := eq_true q291
       have p292 : 0 ≤ (x6_1 : Int) := of_decide_eq_true (by first | (with_reducible assumption) | assumption)
       have q292 : x6_1 < (l0.length : Int) := of_decide_eq_true (by first | (with_reducible assumption) | assumption)
       obtain ⟨ad292, e292, hx292_0⟩ := Kd.at_int HR0.out x6_1 p292 q292
       obtain rfl : ad291 = ad292 := (by injection e292)
       replace hx292_0 := (HB.out.cell (World.block_lt_of_cell? w _ hx292_0)).trans hx292_0
       replace p292 := eq_true p292
       replace q292 := eq_true q292
       go_wp2_with (first | ((with_reducible refine gate_builtin (b := .append) (xs := #[.tmp 19, .tmp 24]) rfl ?_); at_builtin; refine Kd.R_append (Kd.int .i64) (w0 := w) w.heap.size rfl (.tmp 19) (.tmp 24) 22 3 (.int .i64 0) 8 rfl Try.underlying22 info3 rfl (by decide) (by omega) u5 x5_1 (rd l0 x6_1) [.int .i64 (rd l0 x6_1)] (fun _ => True) (fun _ => False) rfl rfl ?aP (fun _ hk => hk.elim) ?aF ?aO ?aB ?aS ?aL ?_; (case aP => exact rfl); (case aB => exact (zc0 HB)); (case aF => exact (fun _ _ => trivial)); (case aO => exact (zR HO_5)); (case aS => exact (below_size (zc0 HB))); (case aL => have := LMc6.out; omega); intro v294 w7 ho hb hg hat; rw [← Ny293.out] at ho; replace HB := am (hb); have HO295 := am (ho); clear HO_5; clear ho hb hg hat))
       go_roundg k1
       case measure => have := HK1.out; omega
       case rel => exact ⟨(y293), (wrap64 (x6_1 + 1)), (by first | rfl | (simp; done) | (simp [*]; done)), H', ⟨by have := HK1.out; omega⟩, ⟨by (with_reducible repeat (first | apply Kd.R_alloc | apply Kd.R_drewN | apply Kd.R_drew)); exact HO295.out⟩, ⟨by repeat (first | (with_reducible first | exact HB.out | apply below_alloc | apply pw_below_drewN | apply below_drew1) | exact HB.out)⟩⟩
      ·rw [if_neg c6] at H
       exact absurd H (by simp)
    ·rw [if_neg c4] at H
     exact absurd H (by simp)
   ·rw [if_neg c3] at H
    have c3b0 : decide (x6_1 < (l0.length : Int)) = false := decide_eq_false c3
    clear c3
    obtain rfl := Option.some.inj H
    go_wp2
    go_ret
    exact ⟨_, by first | rfl | (simp [errW_none, errW_some] <;> rfl) | (simp [*, errW_none, errW_some] <;> rfl), by (with_reducible repeat (first | apply Kd.R_alloc | apply Kd.R_drewN | apply Kd.R_drew)); exact HO_5.out, by repeat (first | (with_reducible first | exact HB.out | apply below_alloc | apply pw_below_drewN | apply below_drew1) | exact HB.out)⟩

end Go.Proofs.Ytllmfahkiabkcaa.PCondTells
