/- Lean functions that say what functions of the given program compute, and proofs by walking the code that each call does just that; no condition but those that each statement names. -/
import Derived.Test.YtllmfahkiabkcaaPCondTellsx0
import Derived.Test.YtllmfahkiabkcaaPCondTellsx1
namespace Go.Proofs.Ytllmfahkiabkcaa.PCondTells
open Go.RowKit Go.Proofs.YtllmfahkiabkcaaW.PrintWords Go.Proofs.YtllmfahkiabkcaaW.PrintLast Go.Proofs.YtllmfahkiabkcaaW.PrintMore
attribute [local go_sem] max2_int min2_int max_two min_two max_three min_three max_four min_four   -- for this text's walks alone
set_option linter.unusedVariables false
set_option linter.unusedSimpArgs false

/-! ### cond_Signal: function 13 -/
def cond_Signal.f (k : Nat) (l0_0 : List Int) (l0_1 : List Int) (a1 : Int) : Option (List Int × List Int × List Int) := (cond_Right.f k l0_0 l0_1).bind fun t128 => (if t128 = true then (if 0 ≤ (mx 0 (mn a1 (l0_0.length : Int))) then (if (mx 0 (mn a1 (l0_0.length : Int))) ≤ (l0_0.length : Int) then ((some (l0_0.take ((mx 0 (mn a1 (l0_0.length : Int))) : Int).toNat : List Int)).bind fun y129 => ((slices_Concat_int_int.f (([l0_1, y129] : List (List Int)))).bind fun t142 => (some ((l0_0.drop ((mx 0 (mn a1 (l0_0.length : Int))) : Int).toNat), t142, y129)))) else (none)) else (none)) else (some (l0_0, l0_1, ([] : List Int))))
theorem cond_Signal.mono : ∀ a0 a1 a2 k, LeO (cond_Signal.f k a0 a1 a2) (cond_Signal.f (k + 1) a0 a1 a2) := by
 intro a0 a1 a2 k
 unfold cond_Signal.f
 repeat' first
   | (with_reducible exact cond_Right.mono _ _ _)
   | (with_reducible exact LeO.refl _)
   | (with_reducible exact LeO.none _)
   | (with_reducible refine LeO.ite ?_ ?_)
   | (with_reducible refine LeO.bind ?_ (fun _ => ?_))
   | exact cond_Right.mono _ _ _
   | exact LeO.none _
   | refine LeO.ite ?_ ?_
   | refine LeO.bind ?_ (fun _ => ?_)
def cond_Signal.T5 : Bool × List (List Nat × List Nat) := (true, [([], []), ([0], [0]), ([], []), ([1, 2], [1, 2]), ([], []), ([4], [4]), ([], []), ([5, 6], [5, 6]), ([7], [7]), ([3, 8], [3, 8]), ([], []), ([9, 8, 0, 1, 2, 3, 4, 5, 6, 7, 8, 9], [9]), ([10, 11, 0, 1, 2, 3, 4, 5, 6, 7, 8, 9, 10, 11], [10])])
def cond_Signal.B5 : List Nat := [0, 1, 0, 7, 0, 16, 0, 112, 240, 511, 0, 1023, 4095]
theorem cond_Signal.tab5 : rtab .any (opsOf Try.f13 5) = cond_Signal.T5 := by kernel_rfl
theorem cond_Signal.bits5 : waitsOk cond_Signal.T5.2 cond_Signal.B5 = true := by kernel_rfl
set_option maxHeartbeats 8000000 in
set_option maxRecDepth 100000 in
theorem cond_Signal.calls (k : Nat) (P0_0_ : Nat → Prop) (A0_0 : Option Addr) (c0_0 : Nat) (l0_0 : List Int) (P0_1_ : Nat → Prop) (A0_1 : Option Addr) (c0_1 : Nat) (l0_1 : List Int) (a1 : Int) (r1 : List Int) (r2 : List Int) (r3 : List Int) (w : World) (hs0_0 : Kd.V (Kd.int .i64) 3 w w.heap.size (fun k_ => P0_0_ k_) (.slice A0_0 l0_0.length c0_0) l0_0) (hs0_1 : Kd.V (Kd.int .i64) 3 w w.heap.size (fun k_ => P0_1_ k_) (.slice A0_1 l0_1.length c0_1) l0_1) (h : cond_Signal.f k l0_0 l0_1 a1 = some (r1, r2, r3)) :
  Calls Try.prog 13 #[.agg #[.slice A0_0 l0_0.length c0_0, .slice A0_1 l0_1.length c0_1], .int .i64 a1] w fun e w' => ∃ v0_ v1_ v2_ : Value, e = .returned (.tuple #[.agg #[v0_, v1_], v2_]) ∧ Kd.V (Kd.int .i64) 3 w' w.heap.size (fun k_ => ((P0_0_ k_ ∨ P0_1_ k_) ∨ w.heap.size ≤ k_)) v0_ r1 ∧ Kd.V (Kd.int .i64) 3 w' w.heap.size (fun k_ => ((P0_0_ k_ ∨ P0_1_ k_) ∨ w.heap.size ≤ k_)) v1_ r2 ∧ Kd.V (Kd.int .i64) 3 w' w.heap.size (fun k_ => ((P0_0_ k_ ∨ P0_1_ k_) ∨ w.heap.size ≤ k_)) v2_ r3 ∧ Below w.heap.size w w' := by
 have hu24 := Try.underlying24
 have HO0_0 := am (show Kd.V (Kd.int .i64) 3 w w.heap.size (fun k_ => ((P0_0_ k_ ∨ P0_1_ k_) ∨ w.heap.size ≤ k_)) (.slice A0_0 l0_0.length c0_0) l0_0 from Kd.V_mono hs0_0 (fun k_ hk => .inl (.inl hk)))
 have HO0_1 := am (show Kd.V (Kd.int .i64) 3 w w.heap.size (fun k_ => ((P0_0_ k_ ∨ P0_1_ k_) ∨ w.heap.size ≤ k_)) (.slice A0_1 l0_1.length c0_1) l0_1 from Kd.V_mono hs0_1 (fun k_ hk => .inl (.inr hk)))
 have HB := am (Below.refl w.heap.size w)
 have H : ((cond_Right.f k l0_0 l0_1).bind fun t128 => (if t128 = true then (if 0 ≤ (mx 0 (mn a1 (l0_0.length : Int))) then (if (mx 0 (mn a1 (l0_0.length : Int))) ≤ (l0_0.length : Int) then ((some (l0_0.take ((mx 0 (mn a1 (l0_0.length : Int))) : Int).toNat : List Int)).bind fun y129 => ((slices_Concat_int_int.f (([l0_1, y129] : List (List Int)))).bind fun t142 => (some ((l0_0.drop ((mx 0 (mn a1 (l0_0.length : Int))) : Int).toNat), t142, y129)))) else (none)) else (none)) else (some (l0_0, l0_1, ([] : List Int))))) = some (r1, r2, r3) := h
 clear h
 replace H := Option.bind_eq_some_iff.mp H
 obtain ⟨t128, A30, H⟩ := H
 try dsimp only at H
 have A3 := am A30
 clear A30
 by_cases c4 : t128 = true
 ·subst c4
  have H1 : (if 0 ≤ (mx 0 (mn a1 (l0_0.length : Int))) then (if (mx 0 (mn a1 (l0_0.length : Int))) ≤ (l0_0.length : Int) then ((some (l0_0.take ((mx 0 (mn a1 (l0_0.length : Int))) : Int).toNat : List Int)).bind fun y129 => ((slices_Concat_int_int.f (([l0_1, y129] : List (List Int)))).bind fun t142 => (some ((l0_0.drop ((mx 0 (mn a1 (l0_0.length : Int))) : Int).toNat), t142, y129)))) else (none)) else (none)) = some (r1, r2, r3) := by rw [if_pos rfl] at H; exact H
  clear H
  have H := H1
  clear H1
  obtain ⟨ji5, hji5⟩ : ∃ j_ : Int, (mn a1 (l0_0.length : Int)) = j_ := ⟨_, rfl⟩
  replace H : (if 0 ≤ (mx 0 (ji5)) then (if (mx 0 (ji5)) ≤ (l0_0.length : Int) then ((some (l0_0.take ((mx 0 (ji5)) : Int).toNat : List Int)).bind fun y129 => ((slices_Concat_int_int.f (([l0_1, y129] : List (List Int)))).bind fun t142 => (some ((l0_0.drop ((mx 0 (ji5)) : Int).toNat), t142, y129)))) else (none)) else (none)) = some (r1, r2, r3) := by first | (rw [hji5] at H; exact H) | (simp only [hji5] at H ⊢; exact H)
  (try rw [hji5] at A3)
  have hji5_ : (if (l0_0.length : Int) < a1 then (l0_0.length : Int) else a1) = ji5 := hji5
  obtain ⟨ji6, hji6⟩ : ∃ j_ : Int, (mx 0 (ji5)) = j_ := ⟨_, rfl⟩
  replace H : (if 0 ≤ (ji6) then (if (ji6) ≤ (l0_0.length : Int) then ((some (l0_0.take ((ji6) : Int).toNat : List Int)).bind fun y129 => ((slices_Concat_int_int.f (([l0_1, y129] : List (List Int)))).bind fun t142 => (some ((l0_0.drop ((ji6) : Int).toNat), t142, y129)))) else (none)) else (none)) = some (r1, r2, r3) := by first | (rw [hji6] at H; exact H) | (simp only [hji6] at H ⊢; exact H)
  (try rw [hji6] at A3)
  have hji6_ : (if 0 < (ji5) then (ji5) else 0) = ji6 := hji6
  by_cases c7 : 0 ≤ (ji6)
  ·rw [if_pos c7] at H
   have c7b0 := eq_true c7
   have c7b1 : decide (0 ≤ (ji6)) = true := decide_eq_true c7
   clear c7
   by_cases c8 : (ji6) ≤ (l0_0.length : Int)
   ·rw [if_pos c8] at H
    have c8b0 := eq_true c8
    have c8b1 : decide ((ji6) ≤ (l0_0.length : Int)) = true := decide_eq_true c8
    clear c8
    obtain ⟨y129, hy129⟩ : ∃ y_ : List Int, y_ = (l0_0.take ((ji6) : Int).toNat) := ⟨_, rfl⟩
    replace H : ((slices_Concat_int_int.f (([l0_1, y129] : List (List Int)))).bind fun t142 => (some ((l0_0.drop ((ji6) : Int).toNat), t142, y129))) = some (r1, r2, r3) := by first | (rw [hy129]; with_reducible exact H) | (have H2_ := (Option.bind_some _ _).symm.trans H; rw [hy129]; with_reducible exact H2_) | (have H2_ := (Option.bind_some _ _).symm.trans H; with_reducible exact H2_) | with_reducible exact H | (rw [hy129]; exact H) | exact H
    have Ny129 := am hy129
    clear hy129
    have c9b0 := eq_true (of_decide_eq_true (by first | (with_reducible assumption) | assumption) : 0 ≤ (ji6))
    have c10b0 := eq_true (of_decide_eq_true (by first | (with_reducible assumption) | assumption) : (ji6) ≤ (l0_0.length : Int))
    obtain ⟨y134, hy134⟩ : ∃ y_ : List Int, y_ = (l0_0.drop ((ji6) : Int).toNat) := ⟨_, rfl⟩
    replace H : ((slices_Concat_int_int.f (([l0_1, y129] : List (List Int)))).bind fun t142 => (some (y134, t142, y129))) = some (r1, r2, r3) := by first | (rw [hy134]; with_reducible exact H) | (have H2_ := (Option.bind_some _ _).symm.trans H; rw [hy134]; with_reducible exact H2_) | (have H2_ := (Option.bind_some _ _).symm.trans H; with_reducible exact H2_) | with_reducible exact H | (rw [hy134]; exact H) | exact H
    have Ny134 := am hy134
    clear hy134
    obtain ⟨y139, hy139⟩ : ∃ y_ : List (List Int), y_ = (([l0_1, y129] : List (List Int))) := ⟨_, rfl⟩
    replace H : ((slices_Concat_int_int.f y139).bind fun t142 => (some (y134, t142, y129))) = some (r1, r2, r3) := by first | (rw [hy139]; with_reducible exact H) | (have H2_ := (Option.bind_some _ _).symm.trans H; rw [hy139]; with_reducible exact H2_) | (have H2_ := (Option.bind_some _ _).symm.trans H; with_reducible exact H2_) | with_reducible exact H | (rw [hy139]; exact H) | exact H
    have Ny139 := am hy139
    clear hy139
    replace H := Option.bind_eq_some_iff.mp H
    obtain ⟨t142, A110, H⟩ := H
    try dsimp only at H
    have A11 := am A110
    clear A110
    simp only [Option.some.injEq, Prod.mk.injEq] at H
    obtain ⟨rfl, rfl, rfl⟩ := H
    go_enter Try.func13, Try.ntmps13
    try go_wp2_with (first | ((with_reducible refine gate_dst (N := 2) rfl ?_); refine box_event ?hg (N := 2) ?hd (cs := #[.slice A0_0 l0_0.length c0_0, .slice A0_1 l0_1.length c0_1]) (t := 24) ?hr ?_; (case hd => rfl); (case hg => rfl); (case hr => first | (go_simp; done) | (go_simp; rfl)); intro gb126 hg w12 hbox hb; replace HO0_0 := zVe HO0_0 hg hb; replace HO0_1 := zVe HO0_1 hg hb; have BK126 := am (hbox); have GW126 := zsz hg (zc0 HB); have GE126 := zsz hg (zc0 HB); replace HB := am (below_step (zc0 HB) hb); clear hb hbox hg) | ((with_reducible refine gate_dst (N := 4) rfl ?_); refine box_event ?hg (N := 4) ?hd (cs := #[.slice none 0 0, .slice none 0 0]) (t := 24) ?hr ?_; (case hd => rfl); (case hg => rfl); (case hr => first | (go_simp; done) | (go_simp; rfl)); intro gb127 hg w13 hbox hb; replace HO0_0 := zVe HO0_0 hg hb; replace HO0_1 := zVe HO0_1 hg hb; have BK127 := am (hbox); have GW127 := zsz hg (zc1 HB GE126); have GE127 := zsz hg (zc1 HB GE126); replace HB := am (below_step (zc1 HB GE126) hb); have NB126_127 := znt BK126 hg; have NB127_126 := zng BK126 hg; replace BK126 := zbb BK126 hb; clear hb hbox hg; have hnb14 := NB126_127.out; have hnc14 := NB127_126.out; have hcz15_0 : w13.cell? ⟨gb126, 0, none⟩ = some (.slice A0_0 l0_0.length c0_0) := (blk_cell BK126.out 0).trans rfl; have hcz15_1 : w13.cell? ⟨gb126, 1, none⟩ = some (.slice A0_1 l0_1.length c0_1) := (blk_cell BK126.out 1).trans rfl; have hfz15_0 := blk_frozen BK126.out 0; have hfz15_1 := blk_frozen BK126.out 1) | ((with_reducible refine gate_callee (f := 19) rfl ?_); refine goesL_ (some 8) rfl rfl Try.func19 (by kernel_rfl) rfl #[.agg #[.slice A0_0 l0_0.length c0_0, .slice A0_1 l0_1.length c0_1]] rfl zm ?_; (with_reducible refine (cond_Right.calls k (fun k_ => ((((P0_0_ k_ ∨ P0_1_ k_) ∨ w.heap.size ≤ k_) ∧ k_ ≠ gb126) ∧ k_ ≠ gb127)) _ _ l0_0 (fun k_ => ((((P0_0_ k_ ∨ P0_1_ k_) ∨ w.heap.size ≤ k_) ∧ k_ ≠ gb126) ∧ k_ ≠ gb127)) _ _ l0_1 true _ ?side1 ?side2 A3.out).mono ?_); (case side1 => exact HO0_0.out); (case side2 => exact HO0_1.out); rintro e w16 ⟨rfl, hb⟩; refine ⟨_, rfl, ?_⟩; replace HO0_0 := zVb HO0_0 hb; replace HO0_1 := zVb HO0_1 hb; replace BK126 := zbb BK126 hb; replace BK127 := zbb BK127 hb; replace HB := am (below_step (zc2 HB GE126 GE127) hb); (try clear hb); (try clear hb2); (try clear hk); (try clear hi); have hcz17_0 : w16.cell? ⟨gb126, 0, none⟩ = some (.slice A0_0 l0_0.length c0_0) := (blk_cell BK126.out 0).trans rfl; have hcz17_1 : w16.cell? ⟨gb126, 1, none⟩ = some (.slice A0_1 l0_1.length c0_1) := (blk_cell BK126.out 1).trans rfl; have hfz17_0 := blk_frozen BK126.out 0; have hfz17_1 := blk_frozen BK126.out 1; have q18 : ((ji6) : Int) ≤ ((l0_0.length : Int) : Int) := of_decide_eq_true (by first | (with_reducible assumption) | assumption); obtain ⟨i018, hi018, _, hsz18, _⟩ := info_parts info3; have hroom18 : l0_0.length ≤ c0_0 := (Kd.V_reads' HO0_0.out).2.1; have hC18 : Kd.F (Kd.int .i64) _ _ A0_0 l0_0.length l0_0 := (Kd.V_at (base := w.heap.size) HO0_0.out).2.2; have hcut18 := cut_to3 (P := Try.prog) 22 3 .i64 .i64 Try.underlying22 hi018 A0_0 l0_0.length c0_0 (ji6) (of_decide_eq_true (by first | (with_reducible assumption) | assumption)) q18 hroom18; have hr18 := Kd.F_take (m := ((ji6) : Int).toNat) hC18 (by omega); have hy18 : y129.length = ((ji6) : Int).toNat := (by rw [Ny129.out, List.length_take]; omega); rw [← Ny129.out] at hr18; rw [← hy18] at hcut18; have HO133 := am (show Kd.V (Kd.int .i64) 3 _ w.heap.size _ (.slice A0_0 y129.length y129.length) y129 from Kd.V_mk (by omega) hr18); have HC133 := am (show y129.length ≤ y129.length from by omega); clear hr18 hC18 hroom18 hi018 hsz18; have KY18 := am hy18; clear hy18; replace q18 := eq_true q18))
    replace HO0_0 := am (Kd.V_drew HO0_0.out)
    replace HO0_1 := am (Kd.V_drew HO0_1.out)
    replace HO133 := am (Kd.V_drew HO133.out)
    replace BK126 := am (blk_drew BK126.out)
    replace BK127 := am (blk_drew BK127.out)
    replace HB := am (below_drew1 HB.out)
    have q20 : ((ji6) : Int) ≤ ((l0_0.length : Int) : Int) := of_decide_eq_true (by first | (with_reducible assumption) | assumption)
    obtain ⟨i020, hi020, _, hsz20, _⟩ := info_parts info3
    have hroom20 : l0_0.length ≤ c0_0 := (Kd.V_reads' HO0_0.out).2.1
    have hC20 : Kd.F (Kd.int .i64) _ _ A0_0 l0_0.length l0_0 := (Kd.V_at (base := w.heap.size) HO0_0.out).2.2
    have q020 : (0 : Int) ≤ ((ji6) : Int) := of_decide_eq_true (by first | (with_reducible assumption) | assumption)
    have hcut20 := cut_from (P := Try.prog) 22 3 .i64 Try.underlying22 hi020 1 hsz20 A0_0 l0_0.length c0_0 (ji6) q020 q20
    have hr20 := Kd.F_cut (m := ((ji6) : Int).toNat) (c := c0_0) hC20 (by omega) hroom20
    obtain ⟨A20, hA20⟩ : ∃ A1, A1 = (if c0_0 = ((ji6) : Int).toNat then A0_0 else (A0_0 : Option Addr).map (·.add (((ji6) : Int).toNat * 1))) := ⟨_, rfl⟩
    obtain ⟨c20, hc20⟩ : ∃ c1, c1 = c0_0 - ((ji6) : Int).toNat := ⟨_, rfl⟩
    have hy20 : y134.length = l0_0.length - ((ji6) : Int).toNat := (by rw [Ny134.out, List.length_drop] <;> omega)
    rw [show (l0_0).drop ((ji6) : Int).toNat = y134 from Ny134.out.symm] at hr20
    replace hr20 : Kd.F (Kd.int .i64) _ _ A20 y134.length y134 := (by rw [hA20]; exact hr20)
    rw [← hy20, ← hA20, ← hc20] at hcut20
    have HO138 := am (show Kd.V (Kd.int .i64) 3 _ w.heap.size _ (.slice A20 y134.length c20) y134 from Kd.V_mk (by rw [hy20, hc20]; exact Nat.sub_le_sub_right hroom20 _) hr20)
    have HC138 := am (show y134.length ≤ c20 from by rw [hy20, hc20]; exact Nat.sub_le_sub_right hroom20 _)
    clear hr20 hC20 hroom20 hi020 hsz20 hc20
    have KY20 := am hy20
    have KA20 := am hA20
    clear hy20 hA20
    replace q20 := eq_true q20
    refine start_ (n := 13) (S := fun w' => w'.cell? ⟨gb126, 0, none⟩ = some (.slice A0_0 l0_0.length c0_0) ∧ w'.cell? ⟨gb126, 1, none⟩ = some (.slice A0_1 l0_1.length c0_1)) (ds := []) #[false, false, false, false, false, false, false, false, false, false, false, false, false] (by kernel_rfl) rfl rfl ⟨(blk_cell BK126.out 0).trans rfl, (blk_cell BK126.out 1).trans rfl⟩ (fun hHeld => ?_); refine with_tabW cond_Signal.tab5 cond_Signal.bits5 (fun HT_ HW_ => ?_)
    generalize w16.drew = w19 at HO0_0 HO0_1 HO133 BK126 BK127 HB HO138 hHeld ⊢
    refine pure_ (i := 0) (N := some 22) (v := ?_) (a' := ?_) #[true, false, false, false, false, false, false, false, false, false, false, false, false] rfl rfl (any_of HT_.out (by kernel_rfl)) (fun _ _ _ h => h) (Or.inl ⟨by rfl, ?_⟩) ?_ ?_
    rotate_left
    ·intro w'
     go_simp
     with_reducible rfl
    rotate_left
    ·simp only [Act.put, List.setIfInBounds_toArray, List.set_cons_zero, List.set_cons_succ, i64_w, i32_w]
     rfl
    refine pure_ (i := 2) (N := some 24) (v := ?_) (a' := ?_) #[true, false, true, false, false, false, false, false, false, false, false, false, false] rfl rfl (any_of HT_.out (by kernel_rfl)) (fun _ _ _ h => h) (Or.inl ⟨by rfl, ?_⟩) ?_ ?_
    rotate_left
    ·intro w'
     go_simp
     with_reducible rfl
    rotate_left
    ·simp only [Act.put, List.setIfInBounds_toArray, List.set_cons_zero, List.set_cons_succ, i64_w, i32_w]
     rfl
    refine pure_ (i := 4) (N := some 26) (v := ?_) (a' := ?_) #[true, false, true, false, true, false, false, false, false, false, false, false, false] rfl rfl (any_of HT_.out (by kernel_rfl)) (fun _ _ _ h => h) (Or.inl ⟨by rfl, ?_⟩) ?_ ?_
    rotate_left
    ·intro w'
     go_simp
     with_reducible rfl
    rotate_left
    ·simp only [Act.put, List.setIfInBounds_toArray, List.set_cons_zero, List.set_cons_succ, i64_w, i32_w]
     rfl
    refine pure_ (i := 6) (N := some 28) (v := ?_) (a' := ?_) #[true, false, true, false, true, false, true, false, false, false, false, false, false] rfl rfl (any_of HT_.out (by kernel_rfl)) (fun _ _ _ h => h) (Or.inl ⟨by rfl, ?_⟩) ?_ ?_
    rotate_left
    ·intro w'
     go_simp
     with_reducible rfl
    rotate_left
    ·simp only [Act.put, List.setIfInBounds_toArray, List.set_cons_zero, List.set_cons_succ, i64_w, i32_w]
     rfl
    refine pure_ (i := 10) (N := some 32) (v := ?_) (a' := ?_) #[true, false, true, false, true, false, true, false, false, false, true, false, false] rfl rfl (any_of HT_.out (by kernel_rfl)) (fun _ _ _ h => h) (Or.inl ⟨by rfl, ?_⟩) ?_ ?_
    rotate_left
    ·intro w'
     go_simp
     with_reducible rfl
    rotate_left
    ·simp only [Act.put, List.setIfInBounds_toArray, List.set_cons_zero, List.set_cons_succ, i64_w, i32_w]
     rfl
    refine take_ (i := 1) (N := some 23) (v := ?_) (a' := ?_) #[true, true, true, false, true, false, true, false, false, false, true, false, false] rfl rfl (take_ofW HT_.out HW_.out (by kernel_rfl)) (fun _ _ _ h => h) (Or.inl ⟨by rfl, ?_⟩) hHeld ?_ ?_
    rotate_left
    ·rintro w' ⟨s0, s1⟩
     go_simp
     with_reducible rfl
    rotate_left
    ·simp only [Act.put, List.setIfInBounds_toArray, List.set_cons_zero, List.set_cons_succ, i64_w, i32_w]
     rfl
    refine pure_ (i := 3) (N := some 25) (v := ?_) (a' := ?_) #[true, true, true, true, true, false, true, false, false, false, true, false, false] rfl rfl (any_of HT_.out (by kernel_rfl)) (fun _ _ _ h => h) (Or.inl ⟨by rfl, ?_⟩) ?_ ?_
    rotate_left
    ·intro w'
     go_simp
     with_reducible rfl
    rotate_left
    ·simp only [Act.put, List.setIfInBounds_toArray, List.set_cons_zero, List.set_cons_succ, i64_w, i32_w]
     rfl
    refine take_ (i := 5) (N := some 27) (v := ?_) (a' := ?_) #[true, true, true, true, true, true, true, false, false, false, true, false, false] rfl rfl (take_ofW HT_.out HW_.out (by kernel_rfl)) (fun _ _ _ h => h) (Or.inl ⟨by rfl, ?_⟩) hHeld ?_ ?_
    rotate_left
    ·rintro w' ⟨s0, s1⟩
     go_simp
     with_reducible rfl
    rotate_left
    ·simp only [Act.put, List.setIfInBounds_toArray, List.set_cons_zero, List.set_cons_succ, i64_w, i32_w]
     rfl
    refine one_ (i := 7) (N := some 29) #[true, true, true, true, true, true, true, true, false, false, true, false, false] rfl rfl (one_of HT_.out (by kernel_rfl)) (by decide) (fun K hK => ?_)
    refine Kd.N_lit_step (Kd.slice 3 (Kd.int .i64)) _ 22 ?hg (N' := 29) ?hd (xs := ([l0_1, y129] : List (List Int))) (inner := [.slice A0_1 l0_1.length c0_1, .slice A0_0 y129.length y129.length]) (ok := (fun k_ => ((P0_0_ k_ ∨ P0_1_ k_) ∨ w.heap.size ≤ k_) ∧ k_ ≠ gb126 ∧ k_ ≠ gb127)) (okp := (fun k_ => ((P0_0_ k_ ∨ P0_1_ k_) ∨ w.heap.size ≤ k_) ∧ k_ ≠ gb126 ∧ k_ ≠ gb127)) ?hr ?hp (fun _ hk => hk) ((show ∀ k_, w19.heap.size ≤ k_ → (fun k_ => ((P0_0_ k_ ∨ P0_1_ k_) ∨ w.heap.size ≤ k_) ∧ k_ ≠ gb126 ∧ k_ ≠ gb127) k_ from fun k_ hk => ⟨(.inr (Nat.le_trans (below_size (zc2 HB GE126 GE127)) hk)), Kd.freshB (g := gb126) (o := .cells #[.slice A0_0 l0_0.length c0_0, .slice A0_1 l0_1.length c0_1] 24 (0, 0)) (zb BK126) k_ hk, Kd.freshB (g := gb127) (o := .cells #[.slice none 0 0, .slice none 0 0] 24 (0, 0)) (zb BK127) k_ hk⟩) _ (Nat.le_refl _)) (Below.refl _ _) (Nat.le_refl _) (by simp) ?_; (case hd => rfl); (case hg => rfl); (case hr => first | (go_simp; done) | (go_simp; rfl)); (case hp => exact (Reps.one (show Kd.FK (Kd.slice 3 (Kd.int .i64)) _ _ l0_1 [.slice A0_1 l0_1.length c0_1] from (Kd.FK_slice_mk (Kd.V_reads' (Kd.V_mono (ok' := (fun k_ => ((P0_0_ k_ ∨ P0_1_ k_) ∨ w.heap.size ≤ k_) ∧ k_ ≠ gb126 ∧ k_ ≠ gb127)) (HO0_1.out) (fun k_ hk => ⟨hk.1.1, ⟨hk.1.2, hk.2⟩⟩))).2.1 (Kd.V_F (Kd.V_mono (ok' := (fun k_ => ((P0_0_ k_ ∨ P0_1_ k_) ∨ w.heap.size ≤ k_) ∧ k_ ≠ gb126 ∧ k_ ≠ gb127)) (HO0_1.out) (fun k_ hk => ⟨hk.1.1, ⟨hk.1.2, hk.2⟩⟩))))) (Reps.one (show Kd.FK (Kd.slice 3 (Kd.int .i64)) _ _ y129 [.slice A0_0 y129.length y129.length] from (Kd.FK_slice_mk (Kd.V_reads' (Kd.V_mono (ok' := (fun k_ => ((P0_0_ k_ ∨ P0_1_ k_) ∨ w.heap.size ≤ k_) ∧ k_ ≠ gb126 ∧ k_ ≠ gb127)) (HO133.out) (fun k_ hk => ⟨hk.1.1, ⟨hk.1.2, hk.2⟩⟩))).2.1 (Kd.V_F (Kd.V_mono (ok' := (fun k_ => ((P0_0_ k_ ∨ P0_1_ k_) ∨ w.heap.size ≤ k_) ∧ k_ ≠ gb126 ∧ k_ ≠ gb127)) (HO133.out) (fun k_ hk => ⟨hk.1.1, ⟨hk.1.2, hk.2⟩⟩))))) (Reps.none _ _))))
    intro v140 w21 ho22 hb hg_ hnew_
    clear hg_ hnew_
    (first | rw [← Ny139.out] at ho22 | (simp only [Int.reduceToNat] at ho22; rw [← Ny139.out] at ho22))
    replace HO0_0 := am (Kd.V_elder' (zV HO0_0) (Kd.N_base ho22) hb)
    replace HO0_1 := am (Kd.V_elder' (zV HO0_1) (Kd.N_base ho22) hb)
    replace HO133 := am (Kd.V_elder' (zV HO133) (Kd.N_base ho22) hb)
    replace HO138 := am (Kd.V_elder' (zV HO138) (Kd.N_base ho22) hb)
    have HO141 := am (Kd.N_lower ho22 (below_size (zc2 HB GE126 GE127)))
    replace BK126 := zbb BK126 hb
    replace BK127 := zbb BK127 hb
    replace HB := am (below_step (zc2 HB GE126 GE127) hb)
    clear hb ho22
    obtain ⟨Ao23, co23, eo23⟩ := Kd.N_slice HO141.out
    (first | subst eo23 | (injection eo23 with f1_ f2_ f3_; have f4_ := f1_.symm; have f5_ := f3_.symm; clear f1_ f2_ f3_; subst f4_; subst f5_))
    refine hK.out _ _ ⟨(blk_cell BK126.out 0).trans rfl, (blk_cell BK126.out 1).trans rfl⟩ (fun hHeld => ?_)
    clear hK K
    refine norm_ (a' := ?_) ?_ ?_
    rotate_left
    ·show Act.put _ (some 29) _ = _
     simp only [Act.put, List.setIfInBounds_toArray, List.set_cons_zero, List.set_cons_succ, i64_w, i32_w]
     rfl
    refine one_ (i := 8) (N := some 30) #[true, true, true, true, true, true, true, true, true, false, true, false, false] rfl rfl (one_of HT_.out (by kernel_rfl)) (by decide) (fun K hK => ?_)
    refine goes_ Try.func28 (by kernel_rfl) rfl #[.slice Ao23 y139.length co23] (by rfl) rfl rfl zm ?_
    with_reducible refine (slices_Concat_int_int.calls _ _ y139 t142 _ ?side1 ?side2 A11.out).mono ?_
    (case side1 => repeat (first | exact (Kd.N_reads' HO141.out).2.2 | (with_reducible refine Kd.C_alloc ?_ _) | (with_reducible refine Kd.C_drewN ?_ _) | (with_reducible refine Kd.C_drew ?_)))
    (case side2 => exact (Kd.N_reads' HO141.out).2.1)
    rintro e w24 ⟨v143, rfl, ho0, hb⟩
    refine ⟨_, rfl, ?_⟩
    replace HO0_0 := am (Kd.V_elder' (zV HO0_0) (Kd.R_base ho0) hb)
    replace HO0_1 := am (Kd.V_elder' (zV HO0_1) (Kd.R_base ho0) hb)
    replace HO133 := am (Kd.V_elder' (zV HO133) (Kd.R_base ho0) hb)
    replace HO138 := am (Kd.V_elder' (zV HO138) (Kd.R_base ho0) hb)
    replace HO141 := am (Kd.N_elder' (zN HO141) (Kd.R_base ho0) hb)
    have HO144 := am (Kd.R_lower (Kd.R_newM (M := fun k_ => (w.heap.size ≤ k_)) ho0 (below_size (zc2 HB GE126 GE127)) (fun k_ h_ => h_)) (below_size (zc2 HB GE126 GE127)))
    replace BK126 := zbb BK126 hb
    replace BK127 := zbb BK127 hb
    replace HB := am (below_step (zc2 HB GE126 GE127) hb)
    (try clear hb)
    (try clear hb2)
    (try clear hk)
    (try clear hi)
    (try clear ho0)
    obtain ⟨Ao25, co25, eo25⟩ := Kd.R_slice HO144.out
    (first | subst eo25 | (injection eo25 with f1_ f2_ f3_; have f4_ := f1_.symm; have f5_ := f3_.symm; clear f1_ f2_ f3_; subst f4_; subst f5_))
    refine hK.out _ _ ⟨(blk_cell BK126.out 0).trans rfl, (blk_cell BK126.out 1).trans rfl⟩ (fun hHeld => ?_)
    clear hK K
    refine norm_ (a' := ?_) ?_ ?_
    rotate_left
    ·show Act.put _ (some 30) _ = _
     simp only [Act.put, List.setIfInBounds_toArray, List.set_cons_zero, List.set_cons_succ, i64_w, i32_w]
     rfl
    refine pure_ (i := 9) (N := some 31) (v := ?_) (a' := ?_) #[true, true, true, true, true, true, true, true, true, true, true, false, false] rfl rfl (any_of HT_.out (by kernel_rfl)) (fun _ _ _ h => h) (Or.inl ⟨by rfl, ?_⟩) ?_ ?_
    rotate_left
    ·intro w'
     go_simp
     with_reducible rfl
    rotate_left
    ·simp only [Act.put, List.setIfInBounds_toArray, List.set_cons_zero, List.set_cons_succ, i64_w, i32_w]
     rfl
    refine one_ (i := 11) (N := none) #[true, true, true, true, true, true, true, true, true, true, true, true, false] rfl rfl (one_of HT_.out (by kernel_rfl)) (by decide) (fun K hK => ?_)
    have hs26 : w24.cell? ⟨gb127, 0, none⟩ = some (.slice none 0 0) := (blk_cell BK127.out 0).trans rfl
    have hfs26 := blk_frozen BK127.out 0
    have hns26_0 := NB126_127.out
    have hms26_0 := NB127_126.out
    have hs27 : w24.cell? ⟨gb127, 1, none⟩ = some (.slice none 0 0) := (blk_cell BK127.out 1).trans rfl
    have hfs27 := blk_frozen BK127.out 1
    have hns27_0 := NB126_127.out
    have hms27_0 := NB127_126.out
    refine skip_ (w1 := ?_) (by rfl) rfl ?_ ?_
    rotate_left
    ·go_simp
     rfl
    refine hK.out _ _ ⟨((cell_far (p := ⟨gb127, _, none⟩) NB126_127.out _).trans (((cell_far (p := ⟨gb127, _, none⟩) NB126_127.out _).trans (hHeld.1)))), ((cell_far (p := ⟨gb127, _, none⟩) NB126_127.out _).trans (((cell_far (p := ⟨gb127, _, none⟩) NB126_127.out _).trans (hHeld.2))))⟩ (fun hHeld => ?_)
    clear hK K
    refine pure_ (i := 12) (N := some 5) (v := ?_) (a' := ?_) #[true, true, true, true, true, true, true, true, true, true, true, true, true] rfl rfl (any_of HT_.out (by kernel_rfl)) (fun _ _ _ h => h) (Or.inl ⟨by rfl, ?_⟩) ?_ ?_
    rotate_left
    ·intro w'
     go_simp
     with_reducible rfl
    rotate_left
    ·simp only [Act.put, List.setIfInBounds_toArray, List.set_cons_zero, List.set_cons_succ, i64_w, i32_w]
     rfl
    refine done_ (done_of HT_.out (by kernel_rfl)) ?_
    try go_wp2
    refine bodyPost_ret (results_ct rfl _ _ gb127 24 #[.slice A20 y134.length c20, .slice Ao25 t142.length co25] (0, 0) _ rfl (by (with_reducible repeat (first | refine blk_drewN ?_ _ | refine blk_drew ?_ | refine blk_alloc ?_ _)); refine blk_put (cs := #[.slice A20 y134.length c20, .slice none 0 0]) ?_ 1 _ rfl; (with_reducible repeat (first | refine blk_drewN ?_ _ | refine blk_drew ?_ | refine blk_alloc ?_ _)); refine blk_put (cs := #[.slice none 0 0, .slice none 0 0]) ?_ 0 _ rfl; (with_reducible repeat (first | refine blk_drewN ?_ _ | refine blk_drew ?_ | refine blk_alloc ?_ _)); exact BK127.out) Try.underlying24 rfl (by kernel_rfl)) rfl ?_
    exact ⟨_, _, _, by first | rfl | (simp [errW_none, errW_some] <;> rfl) | (simp only [← hji5, ← hji6]; first | rfl | (simp [errW_none, errW_some] <;> rfl)) | (simp [*, errW_none, errW_some] <;> rfl), by (with_reducible repeat (first | apply Kd.V_alloc | apply Kd.V_drewN | apply Kd.V_drew)); exact Kd.V_mono (Kd.V_far (p := ⟨gb127, 1, none⟩) (Kd.V_far (p := ⟨gb127, 0, none⟩) (Kd.V_mono HO138.out (fun k_ hk => (⟨hk, hk.1.1.2⟩ : _ ∧ k_ ≠ gb127))) (fun _ hk => hk.2) (.slice A20 y134.length c20)) (fun _ hk => hk.2) (.slice Ao25 t142.length co25)) (fun _ hk => hk.1.1.1.1.1), Kd.V_mono (Kd.R_V (Kd.R_mono (ok' := fun k_ => (w.heap.size ≤ k_)) (by (with_reducible repeat (first | apply Kd.R_alloc | apply Kd.R_drewN | apply Kd.R_drew)); exact Kd.R_mono (Kd.R_far (p := ⟨gb127, 1, none⟩) (Kd.R_far (p := ⟨gb127, 0, none⟩) (Kd.R_types HO144.out BK127.out (by decide)) (fun _ hk => hk.2) (.slice A20 y134.length c20)) (fun _ hk => hk.2) (.slice Ao25 t142.length co25)) (fun _ hk => hk.1.1)) (fun _ h_ => h_))) (fun k_ hk => by first | exact ⟨(.inr (hk.1)), hk.2⟩ | exact (.inr (hk))), by (with_reducible repeat (first | apply Kd.V_alloc | apply Kd.V_drewN | apply Kd.V_drew)); exact Kd.V_mono (Kd.V_far (p := ⟨gb127, 1, none⟩) (Kd.V_far (p := ⟨gb127, 0, none⟩) (Kd.V_mono HO133.out (fun k_ hk => (⟨hk, hk.1.1.2⟩ : _ ∧ k_ ≠ gb127))) (fun _ hk => hk.2) (.slice A20 y134.length c20)) (fun _ hk => hk.2) (.slice Ao25 t142.length co25)) (fun _ hk => hk.1.1.1.1.1), by repeat (first | (with_reducible first | exact HB.out | apply below_alloc | apply pw_below_drewN | apply below_drew1 | refine below_set ?_ GE126.out | refine below_set ?_ GE127.out) | exact HB.out)⟩
   ·rw [if_neg c8] at H
    exact absurd H (by simp)
  ·rw [if_neg c7] at H
   exact absurd H (by simp)
 ·replace c4 := Bool.eq_false_iff.mpr c4
  subst c4
  have H1 : (some (l0_0, l0_1, ([] : List Int))) = some (r1, r2, r3) := by rw [if_neg (show ¬ (false = true) by decide)] at H; exact H
  clear H
  have H := H1
  clear H1
  simp only [Option.some.injEq, Prod.mk.injEq] at H
  obtain ⟨rfl, rfl, rfl⟩ := H
  go_enter Try.func13, Try.ntmps13
  go_wp2_with (first | ((with_reducible refine gate_dst (N := 2) rfl ?_); refine box_event ?hg (N := 2) ?hd (cs := #[.slice A0_0 l0_0.length c0_0, .slice A0_1 l0_1.length c0_1]) (t := 24) ?hr ?_; (case hd => rfl); (case hg => rfl); (case hr => first | (go_simp; done) | (go_simp; rfl)); intro gb126 hg w28 hbox hb; replace HO0_0 := zVe HO0_0 hg hb; replace HO0_1 := zVe HO0_1 hg hb; have BK126 := am (hbox); have GW126 := zsz hg (zc0 HB); have GE126 := zsz hg (zc0 HB); replace HB := am (below_step (zc0 HB) hb); clear hb hbox hg) | ((with_reducible refine gate_dst (N := 4) rfl ?_); refine box_event ?hg (N := 4) ?hd (cs := #[.slice none 0 0, .slice none 0 0]) (t := 24) ?hr ?_; (case hd => rfl); (case hg => rfl); (case hr => first | (go_simp; done) | (go_simp; rfl)); intro gb127 hg w29 hbox hb; replace HO0_0 := zVe HO0_0 hg hb; replace HO0_1 := zVe HO0_1 hg hb; have BK127 := am (hbox); have GW127 := zsz hg (zc1 HB GE126); have GE127 := zsz hg (zc1 HB GE126); replace HB := am (below_step (zc1 HB GE126) hb); have NB126_127 := znt BK126 hg; have NB127_126 := zng BK126 hg; replace BK126 := zbb BK126 hb; clear hb hbox hg; have hnb30 := NB126_127.out; have hnc30 := NB127_126.out; have hcz31_0 : w29.cell? ⟨gb126, 0, none⟩ = some (.slice A0_0 l0_0.length c0_0) := (blk_cell BK126.out 0).trans rfl; have hcz31_1 : w29.cell? ⟨gb126, 1, none⟩ = some (.slice A0_1 l0_1.length c0_1) := (blk_cell BK126.out 1).trans rfl; have hfz31_0 := blk_frozen BK126.out 0; have hfz31_1 := blk_frozen BK126.out 1) | ((with_reducible refine gate_callee (f := 19) rfl ?_); refine goesL_ (some 8) rfl rfl Try.func19 (by kernel_rfl) rfl #[.agg #[.slice A0_0 l0_0.length c0_0, .slice A0_1 l0_1.length c0_1]] rfl zm ?_; (with_reducible refine (cond_Right.calls k (fun k_ => ((((P0_0_ k_ ∨ P0_1_ k_) ∨ w.heap.size ≤ k_) ∧ k_ ≠ gb126) ∧ k_ ≠ gb127)) _ _ l0_0 (fun k_ => ((((P0_0_ k_ ∨ P0_1_ k_) ∨ w.heap.size ≤ k_) ∧ k_ ≠ gb126) ∧ k_ ≠ gb127)) _ _ l0_1 false _ ?side1 ?side2 A3.out).mono ?_); (case side1 => exact HO0_0.out); (case side2 => exact HO0_1.out); rintro e w32 ⟨rfl, hb⟩; refine ⟨_, rfl, ?_⟩; replace HO0_0 := zVb HO0_0 hb; replace HO0_1 := zVb HO0_1 hb; replace BK126 := zbb BK126 hb; replace BK127 := zbb BK127 hb; replace HB := am (below_step (zc2 HB GE126 GE127) hb); (try clear hb); (try clear hb2); (try clear hk); (try clear hi); have hcz33_0 : w32.cell? ⟨gb126, 0, none⟩ = some (.slice A0_0 l0_0.length c0_0) := (blk_cell BK126.out 0).trans rfl; have hcz33_1 : w32.cell? ⟨gb126, 1, none⟩ = some (.slice A0_1 l0_1.length c0_1) := (blk_cell BK126.out 1).trans rfl; have hfz33_0 := blk_frozen BK126.out 0; have hfz33_1 := blk_frozen BK126.out 1; have hcz34_0 : w32.cell? ⟨gb127, 0, none⟩ = some (.slice none 0 0) := (blk_cell BK127.out 0).trans rfl; have hcz34_1 : w32.cell? ⟨gb127, 1, none⟩ = some (.slice none 0 0) := (blk_cell BK127.out 1).trans rfl; have hfz34_0 := blk_frozen BK127.out 0; have hfz34_1 := blk_frozen BK127.out 1))
  refine bodyPost_ret (results_ct rfl _ _ gb127 24 #[.slice A0_0 l0_0.length c0_0, .slice A0_1 l0_1.length c0_1] (0, 0) _ rfl (by (with_reducible repeat (first | refine blk_drewN ?_ _ | refine blk_drew ?_ | refine blk_alloc ?_ _)); refine blk_put (cs := #[.slice A0_0 l0_0.length c0_0, .slice none 0 0]) ?_ 1 _ rfl; (with_reducible repeat (first | refine blk_drewN ?_ _ | refine blk_drew ?_ | refine blk_alloc ?_ _)); refine blk_put (cs := #[.slice none 0 0, .slice none 0 0]) ?_ 0 _ rfl; (with_reducible repeat (first | refine blk_drewN ?_ _ | refine blk_drew ?_ | refine blk_alloc ?_ _)); exact BK127.out) Try.underlying24 rfl (by kernel_rfl)) rfl ?_
  exact ⟨_, _, _, by first | rfl | (simp [errW_none, errW_some] <;> rfl) | (simp [*, errW_none, errW_some] <;> rfl), by (with_reducible repeat (first | apply Kd.V_alloc | apply Kd.V_drewN | apply Kd.V_drew)); exact Kd.V_mono (Kd.V_far (p := ⟨gb127, 1, none⟩) (Kd.V_far (p := ⟨gb127, 0, none⟩) (Kd.V_mono HO0_0.out (fun k_ hk => (⟨hk, hk.2⟩ : _ ∧ k_ ≠ gb127))) (fun _ hk => hk.2) (.slice A0_0 l0_0.length c0_0)) (fun _ hk => hk.2) (.slice A0_1 l0_1.length c0_1)) (fun _ hk => hk.1.1.1), by (with_reducible repeat (first | apply Kd.V_alloc | apply Kd.V_drewN | apply Kd.V_drew)); exact Kd.V_mono (Kd.V_far (p := ⟨gb127, 1, none⟩) (Kd.V_far (p := ⟨gb127, 0, none⟩) (Kd.V_mono HO0_1.out (fun k_ hk => (⟨hk, hk.2⟩ : _ ∧ k_ ≠ gb127))) (fun _ hk => hk.2) (.slice A0_0 l0_0.length c0_0)) (fun _ hk => hk.2) (.slice A0_1 l0_1.length c0_1)) (fun _ hk => hk.1.1.1), by first | exact Kd.R_nil _ _ _ _ _ | exact Kd.N_nil _ _ _ _ _ | exact Kd.V_nil _ _ _ _ _ | exact Kd.Q_nil _ _ _ _ _ | exact Kd.S_nil _ _ _ _ _, by repeat (first | (with_reducible first | exact HB.out | apply below_alloc | apply pw_below_drewN | apply below_drew1 | refine below_set ?_ GE126.out | refine below_set ?_ GE127.out) | exact HB.out)⟩

-- NOT PRINTED: function 35 (slices_IndexFunc_int_int)

-- NOT PRINTED: function 33 (slices_DeleteFunc_int_int)

/-! ### cond_without_1: function 34 (by hand) -/
def cond_without_1.p (q0 : Int) (x : Int) : Bool := x == q0
set_option maxHeartbeats 8000000 in
set_option maxRecDepth 100000 in
theorem cond_without_1.calls (x : Int) (g : Nat) (q0 : Int) (w : World) (hb : w.heap[g]? = some (.cells #[.int .i64 q0] 3 (0, 0))) :
    Calls Try.prog 34 #[.int .i64 x, .pointer (some ⟨g, 0, none⟩)] w fun e w' => e = .returned (.bool (cond_without_1.p q0 x)) ∧ Below w.heap.size w w' := by
  have hlt : g < w.heap.size := blk_lt hb
  have hc0 := blk_cell hb 0
  have hf0 := blk_frozen hb 0
  clear hb
  go_enter Try.func34, Try.ntmps34
  go_wp2
  go_ret
  exact ⟨rfl, Below.refl _ _⟩

/-! ### idx_cond_without_1: function 35 over 34 (by hand) -/
def idx_cond_without_1.f (l0 : List Int) (q0 : Int) : Option (Int) := some (Go.Proofs.YtllmfahkiabkcaaG.idxBy (cond_without_1.p q0) l0)
set_option maxHeartbeats 8000000 in
set_option maxRecDepth 100000 in
theorem idx_cond_without_1.calls (A0 : Option Addr) (c0 : Nat) (l0 : List Int) (g : Nat) (q0 : Int) (r : Int) (w : World) (hr0 : Kd.C (Kd.int .i64) w A0 l0.length l0) (hc0 : l0.length ≤ c0) (hb0 : w.heap[g]? = some (.cells #[.int .i64 q0] 3 (0, 0))) (h : idx_cond_without_1.f l0 q0 = some r) :
    Calls Try.prog 35 #[.slice A0 l0.length c0, .func (.func 34) #[] #[.pointer (some ⟨g, 0, none⟩)]] w fun e w' => e = .returned (.int .i64 r) ∧ Below w.heap.size w w' := by
  obtain rfl := Option.some.inj h
  clear h
  have HR := am hr0
  have HM := am hr0.2.1
  have HC := am hc0
  have HBX := am hb0
  clear hr0 hc0 hb0
  have hm := HM.out
  go_enter Try.func35, Try.ntmps35
  go_wp2
  go_loopw [8] (fun v8 wr => ∃ j : Nat, v8 = .int .i64 (j : Int) ∧ j ≤ l0.length ∧ Aside0 (∀ (i : Nat) (y : Int), i < j → l0[i]? = some y → cond_without_1.p q0 y = false) ∧ Aside0 (Below w.heap.size w wr)) (fun v8 _ => (l0.length - (intOf v8).toNat))
  case atStart => exact ⟨0, rfl, Nat.zero_le _, ⟨fun i y hi => absurd hi (by omega)⟩, ⟨Below.refl _ _⟩⟩
  case round =>
    obtain ⟨j, rfl, hj, HN, HB⟩ := hrel
    by_cases hlt : j < l0.length
    · obtain ⟨ad, e, h0⟩ := Kd.at_int HR.out (j : Int) (by omega) (by omega)
      cases e
      simp only [Int.toNat_natCast] at h0
      have hx : l0[j]? = some (rd l0 (j : Int)) := by
        unfold rd
        rw [Int.toNat_natCast, List.getD_eq_getElem?_getD, List.getElem?_eq_getElem hlt]
        rfl
      have HX := am hx
      clear hx
      replace h0 := pw_cell_below HB.out h0
      have hbx := am (blk_below HBX.out HB.out)
      have hq0_ : (0 : Int) ≤ (j : Int) := by omega
      by_cases hp : cond_without_1.p q0 (rd l0 (j : Int)) = true
      · go_wp2_with (go_at_call 34; (with_reducible refine (cond_without_1.calls (rd l0 (j : Int)) g q0 _ ?side1).mono ?_); (case side1 => first | exact hbx.out | exact blk_drewN hbx.out _ | exact blk_drew hbx.out); rintro e w2 ⟨rfl, hb⟩; have HB2 := am hb; clear hb)
        go_ret
        exact ⟨by rw [Go.Proofs.YtllmfahkiabkcaaG.idxBy_some HX.out hp HN.out]; rfl, below_step HB.out HB2.out⟩
      · have hpf : cond_without_1.p q0 (rd l0 (j : Int)) = false := by simpa using hp
        clear hp
        go_wp2_with (go_at_call 34; (with_reducible refine (cond_without_1.calls (rd l0 (j : Int)) g q0 _ ?side1).mono ?_); (case side1 => first | exact hbx.out | exact blk_drewN hbx.out _ | exact blk_drew hbx.out); rintro e w2 ⟨rfl, hb⟩; have HB2 := am hb; clear hb)
        go_roundw
        case rel => exact ⟨j + 1, by go_num, by omega, ⟨fun i y hi hy => by
          rcases Nat.lt_succ_iff_lt_or_eq.1 hi with h | h
          · exact HN.out i y h hy
          · subst h; rw [HX.out] at hy; injection hy with hy; rw [← hy]; exact hpf⟩, ⟨below_step HB.out HB2.out⟩⟩
        case measure => simp [intOf]; omega
    · have hjl : j = l0.length := by omega
      subst hjl
      go_wp2
      go_ret
      exact ⟨by rw [Go.Proofs.YtllmfahkiabkcaaG.idxBy_none (fun i x hx => HN.out i x (List.getElem?_eq_some_iff.1 hx).1 hx)]; rfl, HB.out⟩

/-! ### del_cond_without_1: function 33 over 34 (by hand) -/
def del_cond_without_1.f (l0 : List Int) (q0 : Int) : Option (List Int) := some (l0.filter (fun x => !cond_without_1.p q0 x))
set_option maxHeartbeats 8000000 in
set_option maxRecDepth 100000 in
theorem del_cond_without_1.calls (P0_ : Nat → Prop) (u9000_ : Value) (l0 : List Int) (gc : Nat) (q0 : Int) (r : List Int) (w0 w : World) (hB : Below w0.heap.size w0 w) (ho0 : Kd.R (Kd.int .i64) 3 w w0.heap.size P0_ u9000_ l0) (hb0 : w.heap[gc]? = some (.cells #[.int .i64 q0] 3 (0, 0))) (hn0 : ¬ P0_ gc) (h : del_cond_without_1.f l0 q0 = some r) :
    Calls Try.prog 33 #[u9000_, .func (.func 34) #[] #[.pointer (some ⟨gc, 0, none⟩)]] w fun e w' => ∃ v0_ : Value, e = .returned (v0_) ∧ Kd.R (Kd.int .i64) 3 w' w0.heap.size (fun k_ => (P0_ k_ ∨ w.heap.size ≤ k_)) v0_ r ∧ Below w0.heap.size w0 w' ∧ Kept w w' (fun k_ => P0_ k_) := by
  obtain rfl := Option.some.inj h
  clear h
  obtain ⟨A0, c, rfl, hlc, hC⟩ := Kd.R_reads ho0
  have HO := am ho0
  have HCR := am hC
  have HCC := am hlc
  have HB := am hB
  have HBX := am hb0
  have HNG := am hn0
  have hs0 := hB.size
  have HS0 := am hs0
  by_cases hi : Go.Proofs.YtllmfahkiabkcaaG.idxBy (cond_without_1.p q0) l0 = -1
  · have HF := am (Go.Proofs.YtllmfahkiabkcaaG.filter_none hi)
    have HI := am (show idx_cond_without_1.f l0 q0 = some (-1) by unfold idx_cond_without_1.f; rw [hi])
    clear ho0 hC hlc hB hb0 hn0 hi hs0
    go_enter Try.func33, Try.ntmps33
    go_wp2_with (go_at_call 35; (with_reducible refine (idx_cond_without_1.calls _ _ l0 gc q0 _ _ ?side1 ?side2 ?side3 HI.out).mono ?_); (case side1 => exact HCR.out); (case side2 => exact HCC.out); (case side3 => exact HBX.out); rintro e w2 ⟨rfl, hb⟩; have HB2 := am hb; clear hb)
    go_ret
    refine ⟨_, rfl, ?_, below_step HB.out HB2.out, Kept.of_below HB2.out _⟩
    rw [HF.out]
    exact Kd.R_mono (Kd.R_below HO.out HB2.out) (fun _ hk => .inl hk)
  · obtain ⟨k0, x0, hk, hx0, hp0, hlow⟩ := Go.Proofs.YtllmfahkiabkcaaG.idxBy_found hi
    have hkl := (List.getElem?_eq_some_iff.1 hx0).1
    obtain ⟨g, c', hv, _⟩ := Kd.R_form ho0 (by omega)
    injection hv with hA _ hc'
    subst hA; subst hc'
    have HPG := am (ho0.1 g (by simp [Value.ownBlock]))
    have hne : gc ≠ g := fun e => HNG.out (e ▸ HPG.out)
    have HNE := am hne
    have hcm : c ≤ 9223372036854775807 := by
      obtain ⟨_, inner, hown, _⟩ := ho0
      rcases hown.2 with ⟨hv, _⟩ | ⟨g', cap', cur, hv, _, _, _, hcm, _⟩
      · cases hv
      · injection hv with _ _ hc
        subst hc
        unfold maxLen at hcm
        exact hcm
    have HI := am (show idx_cond_without_1.f l0 q0 = some (k0 : Int) by unfold idx_cond_without_1.f; rw [hk])
    have HST := am (Go.Proofs.YtllmfahkiabkcaaG.Kept1.start (q := fun x => !cond_without_1.p q0 x) hx0 (by simp [hp0]) (fun t y ht hy => by simp [hlow t y ht hy]))
    clear ho0 hC hB hb0 hn0 hi hk hx0 hp0 hlow hne hs0
    obtain ⟨n, hn⟩ : ∃ n, n = l0.length := ⟨_, rfl⟩
    have HN := am hn
    rw [← hn] at HO HCR HCC hkl hlc ⊢
    clear hn
    have hm1 : ((k0 : Int) == -1) = false := beq_eq_false_iff_ne.2 (by omega)
    go_enter Try.func33, Try.ntmps33
    go_wp2_with (go_at_call 35; rw [HN.out]; (with_reducible refine (idx_cond_without_1.calls _ _ l0 gc q0 _ _ ?side1 ?side2 ?side3 HI.out).mono ?_); (case side1 => rw [← HN.out]; exact HCR.out); (case side2 => rw [← HN.out]; exact HCC.out); (case side3 => exact HBX.out); rintro e w2 ⟨rfl, hb⟩; have HB2 := am hb; clear hb; rw [← HN.out])
    go_loopw [5, 6, 7] (fun s5 s6 _ wr => ∃ (i j : Nat) (ys : List Int), s5 = .int .i64 (i : Int) ∧ s6 = .int .i64 (j : Int) ∧ j ≤ n ∧ Aside0 (Go.Proofs.YtllmfahkiabkcaaG.Kept1 (fun x => !cond_without_1.p q0 x) l0 ys i j) ∧ Aside0 (Kd.R (Kd.int .i64) 3 wr w0.heap.size P0_ (.slice (some ⟨g, 0, none⟩) n c) ys) ∧ Aside0 (wr.heap[gc]? = some (.cells #[.int .i64 q0] 3 (0, 0))) ∧ Aside0 (Below w0.heap.size w0 wr) ∧ Aside0 (Kept w wr P0_)) (fun _ s6 _ _ => n - (intOf s6).toNat)
    case atStart => exact ⟨k0, k0 + 1, l0, rfl, by go_num, by omega, HST, ⟨Kd.R_below HO.out HB2.out⟩, ⟨blk_below HBX.out HB2.out⟩, ⟨below_step HB.out HB2.out⟩, ⟨Kept.of_below HB2.out _⟩⟩
    case round =>
      obtain ⟨i, j, ys, rfl, rfl, hj, HK1, HO1, HBX1, HB1, HKP⟩ := hrel
      have hij := HK1.out.lt
      by_cases hlt : j < n
      · have hyl := HK1.out.len
        rw [← HN.out] at hyl
        obtain ⟨hyn_, hnc1, hC1⟩ := Kd.R_reads' HO1.out
        obtain ⟨ad, e, h0⟩ := Kd.at_int hC1 (j : Int) (by omega) (by omega)
        obtain ⟨ad2, e2, k0_⟩ := Kd.at_int hC1 (i : Int) (by omega) (by omega)
        cases e
        cases e2
        simp only [Int.toNat_natCast, add_plain] at h0 k0_
        have hxj : ys[j]? = some (rd ys (j : Int)) := by
          unfold rd
          rw [Int.toNat_natCast, List.getD_eq_getElem?_getD, List.getElem?_eq_getElem (by omega)]
          rfl
        have HXJ := am hxj
        have HYL := am hyl
        have KC0 := am k0_
        clear hxj k0_ hC1 hyl hnc1 hyn_
        have hj0_ : (0 : Int) ≤ (j : Int) := by omega
        have hi0_ : (0 : Int) ≤ (i : Int) := by omega
        have hin : i < n := by omega
        by_cases hp : cond_without_1.p q0 (rd ys (j : Int)) = true
        · go_wp2_with (go_at_call 34; (with_reducible refine (cond_without_1.calls (rd ys (j : Int)) gc q0 _ ?side1).mono ?_); (case side1 => first | exact HBX1.out | exact blk_drewN HBX1.out _ | exact blk_drew HBX1.out | exact blk_alloc HBX1.out _); rintro e w3 ⟨rfl, hb⟩; have HB3 := am hb; clear hb)
          go_roundw
          case rel => exact ⟨i, j + 1, ys, by go_num, by go_num, by omega, ⟨HK1.out.skip HXJ.out (by simp [hp])⟩, ⟨Kd.R_below HO1.out HB3.out⟩, ⟨blk_below HBX1.out HB3.out⟩, ⟨below_step HB1.out HB3.out⟩, ⟨Kept.below HKP.out HB3.out⟩⟩
          case measure => simp [intOf]; omega
        · have hpf : cond_without_1.p q0 (rd ys (j : Int)) = false := by simpa using hp
          clear hp
          go_wp2_with (first | (go_at_call 34; (with_reducible refine (cond_without_1.calls (rd ys (j : Int)) gc q0 _ ?side1).mono ?_); (case side1 => first | exact HBX1.out | exact blk_drewN HBX1.out _ | exact blk_drew HBX1.out | exact blk_alloc HBX1.out _); rintro e w3 ⟨rfl, hb⟩; have HB3 := am hb; have KD0 := am (pw_cell_below hb KC0.out); clear hb) | ((with_reducible refine gate_store (t := 3) (p := 33) rfl ?_); refine Kd.R_store (Kd.int .i64) (w0 := w0) w0.heap.size rfl rfl 3 (.tmp 33) (.tmp 32) rfl 3 (g := g) (n := n) (cap := c) (o' := i) (i : Int) 0 ys (rd ys (j : Int)) (.int .i64 (rd ys (j : Int))) [.int .i64 (rd ys (j : Int))] [.int .i64 (rd ys (i : Int))] P0_ (fun _ => False) rfl ?ho rfl rfl (by kernel_rfl) (by simp [Value.oneCell']) (Kd.R_below HO1.out HB3.out) hi0_ ?hi rfl ?hcc (show 0 + 1 ≤ 1 from by omega) rfl (fun _ h => h.elim) (below_step HB1.out HB3.out) ?_; (case ho => simp [Kd.int, Kd.scalar]); (case hi => omega); (case hcc => intro t u ht; cases t with | zero => (injection ht with ht; subst ht; simpa [Kd.int, Kd.scalar] using KD0.out) | succ t => (simp at ht)); intro w4 ho hb hg; have HO4 := am ho; have HB4 := am hb; have HG4 := am hg; clear ho hb hg))
          go_roundw
          case rel => exact ⟨i + 1, j + 1, ys.set i (rd ys (j : Int)), by go_num, by go_num, by omega, ⟨HK1.out.keep HXJ.out (by simp [hpf])⟩, ⟨by simpa using HO4.out⟩, ⟨blk_grown (blk_below HBX1.out HB3.out) HG4.out (fun e => HNE.out (by injection e))⟩, ⟨HB4.out⟩, ⟨Kept.of_grown HG4.out (Kept.below HKP.out HB3.out) (fun k hk => by injection hk with hk; subst hk; exact .inl HPG.out)⟩⟩
          case measure => simp [intOf]; omega
      · obtain rfl : j = n := by omega
        have hin : i < j := hij
        have hci : ¬ (c = i) := by omega
        have hic : i ≤ c := by omega
        have hi0_ : (0 : Int) ≤ (i : Int) := by omega
        obtain ⟨w4, hcl, ho, hg⟩ := Go.Proofs.YtllmfahkiabkcaaG.clear_rest (Kd.int .i64) w0.heap.size 22 0 3 (.int .i64 0) Try.underlying22 (fun _ => by kernel_rfl) rfl (by decide) (by decide) HO1.out hin (c - i) (A := ⟨g, i, none⟩) (by simp [Kd.int, Kd.scalar])
        have HO4 := am ho
        have HG4 := am hg
        clear ho hg
        have hlt' : ¬ ((j : Int) < (j : Int)) := by omega
        go_wp2
        go_ret
        refine ⟨_, rfl, ?_, HB1.out.grown HG4.out HB1.out.size (fun k hk => by injection hk with hk; subst hk; exact Kd.R_base HO1.out _ (by simp [Value.ownBlock])), Kept.of_grown HG4.out HKP.out (fun k hk => by injection hk with hk; subst hk; exact .inl HPG.out)⟩
        rw [← HK1.out.done HN.out]
        exact Kd.R_mono HO4.out (fun _ hk => .inl hk)

/-! ### cond_without: function 29 -/
def cond_without.f (l0 : List Int) (a1 : Int) : Option (List Int) := (slices_Clone_int_int.f l0).bind fun t146 => ((del_cond_without_1.f t146 a1).bind fun t149 => (some t149))
set_option maxHeartbeats 8000000 in
set_option maxRecDepth 100000 in
theorem cond_without.calls (A0 : Option Addr) (c0 : Nat) (l0 : List Int) (a1 : Int) (r : List Int) (w : World) (hr0 : Kd.C (Kd.int .i64) w A0 l0.length l0) (hc0 : l0.length ≤ c0) (h : cond_without.f l0 a1 = some r) :
  Calls Try.prog 29 #[.slice A0 l0.length c0, .int .i64 a1] w fun e w' => ∃ v0_ : Value, e = .returned (v0_) ∧ Kd.R (Kd.int .i64) 3 w' w.heap.size (fun _ => True) v0_ r ∧ Below w.heap.size w w' := by
 have HR0 := am hr0
 have HC0 := am hc0
 clear hr0 hc0
 have HB := am (Below.refl w.heap.size w)
 have H : ((slices_Clone_int_int.f l0).bind fun t146 => ((del_cond_without_1.f t146 a1).bind fun t149 => (some t149))) = some r := h
 clear h
 replace H := Option.bind_eq_some_iff.mp H
 obtain ⟨t146, A30, H⟩ := H
 try dsimp only at H
 have A3 := am A30
 clear A30
 replace H := Option.bind_eq_some_iff.mp H
 obtain ⟨t149, A40, H⟩ := H
 try dsimp only at H
 have A4 := am A40
 clear A40
 obtain rfl := Option.some.inj H
 go_enter Try.func29, Try.ntmps29
 go_wp2_with (first | ((with_reducible refine gate_dst (N := 3) rfl ?_); refine box_event ?hg (N := 3) ?hd (cs := #[.int .i64 a1]) (t := 3) ?hr ?_; (case hd => rfl); (case hg => rfl); (case hr => first | (go_simp; done) | (go_simp; rfl)); intro gb145 hg w5 hbox hb; have BK145 := am (hbox); have GW145 := zsz hg (zc0 HB); have GE145 := zsz hg (zc0 HB); replace HB := am (below_step (zc0 HB) hb); clear hb hbox hg) | ((with_reducible refine gate_callee (f := 25) rfl ?_); refine goesL_ (some 6) rfl rfl Try.func25 (by kernel_rfl) rfl #[.slice A0 l0.length c0] rfl zm ?_; (with_reducible refine (slices_Clone_int_int.calls _ _ l0 t146 _ ?side1 ?side2 A3.out).mono ?_); (case side1 => repeat (first | exact (Kd.C_below HR0.out HB.out) | (with_reducible refine Kd.C_alloc ?_ _) | (with_reducible refine Kd.C_drewN ?_ _) | (with_reducible refine Kd.C_drew ?_))); (case side2 => exact HC0.out); rintro e w6 ⟨v147, rfl, ho0, hb⟩; refine ⟨_, rfl, ?_⟩; have HO148 := am (Kd.R_lower (Kd.R_newB ho0 (g := gb145) (o := .cells #[.int .i64 a1] 3 (0, 0)) (zb BK145)) (below_size (zc1 HB GE145))); replace BK145 := zbb BK145 hb; replace HB := am (below_step (zc1 HB GE145) hb); (try clear hb); (try clear hb2); (try clear hk); (try clear hi); (try clear ho0); obtain ⟨Ao7, co7, eo7⟩ := Kd.R_slice HO148.out; subst eo7) | ((with_reducible refine gate_callee (f := 33) rfl ?_); refine goesL_ (some 8) rfl rfl Try.func33 (by kernel_rfl) rfl #[.slice Ao7 t146.length co7, .func (.func 34) #[] #[.pointer (some ⟨gb145, 0, none⟩)]] rfl zm ?_; (with_reducible refine (del_cond_without_1.calls (fun k_ => some k_ = (.slice Ao7 t146.length co7 : Value).ownBlock) (.slice Ao7 t146.length co7) t146 gb145 a1 t149 w _ ?side1 ?side2 ?side3 ?side4 A4.out).mono ?_); (case side1 => repeat (first | (with_reducible first | exact HB.out | apply below_alloc | apply pw_below_drewN | apply below_drew1 | refine below_set ?_ GE145.out) | exact HB.out)); (case side2 => exact Kd.R_tight rfl HO148.out); (case side3 => exact (zb BK145)); (case side4 => exact fun e_ => (Kd.R_away HO148.out (fun _ hk => hk.2)) e_); rintro e w8 ⟨v150, rfl, ho0, hb, hkp⟩; refine ⟨_, rfl, ?_⟩; have HO151 := am (Kd.R_mono (ok' := fun k_ => k_ ≠ gb145) ho0 (fun k_ hk_ => Or.elim hk_ (fun hs_ => fun e_ => (Kd.R_away HO148.out (fun _ hk => hk.2)) (by rw [← e_]; exact hs_)) (fun hn_ => (zfr gb145 BK145 hn_)))); replace BK145 := am (blk_kept (zb BK145) hkp (fun hs_ => (fun e_ => (Kd.R_away HO148.out (fun _ hk => hk.2)) e_) hs_)); replace HB := am (hb); clear HO148; (try clear hb); (try clear hkp); (try clear ho0)))
 go_ret
 exact ⟨_, by first | rfl | (simp [errW_none, errW_some] <;> rfl) | (simp [*, errW_none, errW_some] <;> rfl), by (with_reducible repeat (first | apply Kd.R_alloc | apply Kd.R_drewN | apply Kd.R_drew)); exact Kd.R_mono HO151.out (fun _ hk => trivial), by repeat (first | (with_reducible first | exact HB.out | apply below_alloc | apply pw_below_drewN | apply below_drew1 | refine below_set ?_ GE145.out) | exact HB.out)⟩

/-! ### cond_Go: function 15 -/
def cond_Go.f (k : Nat) (l0_0 : List Int) (l0_1 : List Int) (a1 : Int) : Option (List Int × List Int × Int) := (cond_Right.f k l0_0 l0_1).bind fun t154 => (if t154 = true then ((slices_Contains_int_int.f k l0_0 a1).bind fun t155 => (if t155 = true then (some (l0_0, l0_1, 9)) else ((slices_Contains_int_int.f k l0_1 a1).bind fun t156 => (if t156 = true then ((cond_without.f l0_1 a1).bind fun t157 => (some (l0_0, t157, 0))) else (some (l0_0, l0_1, 3)))))) else (some (l0_0, l0_1, 1)))
theorem cond_Go.mono : ∀ a0 a1 a2 k, LeO (cond_Go.f k a0 a1 a2) (cond_Go.f (k + 1) a0 a1 a2) := by
 intro a0 a1 a2 k
 unfold cond_Go.f
 repeat' first
   | (with_reducible exact cond_Right.mono _ _ _)
   | (with_reducible exact slices_Contains_int_int.mono _ _ _)
   | (with_reducible exact LeO.refl _)
   | (with_reducible exact LeO.none _)
   | (with_reducible refine LeO.ite ?_ ?_)
   | (with_reducible refine LeO.bind ?_ (fun _ => ?_))
   | exact cond_Right.mono _ _ _
   | exact slices_Contains_int_int.mono _ _ _
   | exact LeO.none _
   | refine LeO.ite ?_ ?_
   | refine LeO.bind ?_ (fun _ => ?_)
set_option maxHeartbeats 8000000 in
set_option maxRecDepth 100000 in
theorem cond_Go.calls (k : Nat) (P0_0_ : Nat → Prop) (A0_0 : Option Addr) (c0_0 : Nat) (l0_0 : List Int) (P0_1_ : Nat → Prop) (A0_1 : Option Addr) (c0_1 : Nat) (l0_1 : List Int) (a1 : Int) (r1 : List Int) (r2 : List Int) (r3 : Int) (w : World) (hs0_0 : Kd.V (Kd.int .i64) 3 w w.heap.size (fun k_ => P0_0_ k_) (.slice A0_0 l0_0.length c0_0) l0_0) (hs0_1 : Kd.V (Kd.int .i64) 3 w w.heap.size (fun k_ => P0_1_ k_) (.slice A0_1 l0_1.length c0_1) l0_1) (h : cond_Go.f k l0_0 l0_1 a1 = some (r1, r2, r3)) :
  Calls Try.prog 15 #[.agg #[.slice A0_0 l0_0.length c0_0, .slice A0_1 l0_1.length c0_1], .int .i64 a1] w fun e w' => ∃ v0_ v1_ : Value, e = .returned (.tuple #[.agg #[v0_, v1_], .int .i64 r3]) ∧ Kd.V (Kd.int .i64) 3 w' w.heap.size (fun k_ => ((P0_0_ k_ ∨ P0_1_ k_) ∨ w.heap.size ≤ k_)) v0_ r1 ∧ Kd.V (Kd.int .i64) 3 w' w.heap.size (fun k_ => ((P0_0_ k_ ∨ P0_1_ k_) ∨ w.heap.size ≤ k_)) v1_ r2 ∧ Below w.heap.size w w' := by
 have hu24 := Try.underlying24
 have HO0_0 := am (show Kd.V (Kd.int .i64) 3 w w.heap.size (fun k_ => ((P0_0_ k_ ∨ P0_1_ k_) ∨ w.heap.size ≤ k_)) (.slice A0_0 l0_0.length c0_0) l0_0 from Kd.V_mono hs0_0 (fun k_ hk => .inl (.inl hk)))
 have HO0_1 := am (show Kd.V (Kd.int .i64) 3 w w.heap.size (fun k_ => ((P0_0_ k_ ∨ P0_1_ k_) ∨ w.heap.size ≤ k_)) (.slice A0_1 l0_1.length c0_1) l0_1 from Kd.V_mono hs0_1 (fun k_ hk => .inl (.inr hk)))
 have HB := am (Below.refl w.heap.size w)
 have H : ((cond_Right.f k l0_0 l0_1).bind fun t154 => (if t154 = true then ((slices_Contains_int_int.f k l0_0 a1).bind fun t155 => (if t155 = true then (some (l0_0, l0_1, 9)) else ((slices_Contains_int_int.f k l0_1 a1).bind fun t156 => (if t156 = true then ((cond_without.f l0_1 a1).bind fun t157 => (some (l0_0, t157, 0))) else (some (l0_0, l0_1, 3)))))) else (some (l0_0, l0_1, 1)))) = some (r1, r2, r3) := h
 clear h
 replace H := Option.bind_eq_some_iff.mp H
 obtain ⟨t154, A30, H⟩ := H
 try dsimp only at H
 have A3 := am A30
 clear A30
 by_cases c4 : t154 = true
 ·subst c4
  have H1 : ((slices_Contains_int_int.f k l0_0 a1).bind fun t155 => (if t155 = true then (some (l0_0, l0_1, 9)) else ((slices_Contains_int_int.f k l0_1 a1).bind fun t156 => (if t156 = true then ((cond_without.f l0_1 a1).bind fun t157 => (some (l0_0, t157, 0))) else (some (l0_0, l0_1, 3)))))) = some (r1, r2, r3) := by rw [if_pos rfl] at H; exact H
  clear H
  have H := H1
  clear H1
  replace H := Option.bind_eq_some_iff.mp H
  obtain ⟨t155, A50, H⟩ := H
  try dsimp only at H
  have A5 := am A50
  clear A50
  by_cases c6 : t155 = true
  ·subst c6
   have H1 : (some (l0_0, l0_1, 9)) = some (r1, r2, r3) := by rw [if_pos rfl] at H; exact H
   clear H
   have H := H1
   clear H1
   simp only [Option.some.injEq, Prod.mk.injEq] at H
   obtain ⟨rfl, rfl, rfl⟩ := H
   go_enter Try.func15, Try.ntmps15
   go_wp2_with (first | ((with_reducible refine gate_dst (N := 2) rfl ?_); refine box_event ?hg (N := 2) ?hd (cs := #[.slice A0_0 l0_0.length c0_0, .slice A0_1 l0_1.length c0_1]) (t := 24) ?hr ?_; (case hd => rfl); (case hg => rfl); (case hr => first | (go_simp; done) | (go_simp; rfl)); intro gb152 hg w7 hbox hb; replace HO0_0 := zVe HO0_0 hg hb; replace HO0_1 := zVe HO0_1 hg hb; have BK152 := am (hbox); have GW152 := zsz hg (zc0 HB); have GE152 := zsz hg (zc0 HB); replace HB := am (below_step (zc0 HB) hb); clear hb hbox hg) | ((with_reducible refine gate_dst (N := 4) rfl ?_); refine box_event ?hg (N := 4) ?hd (cs := #[.slice none 0 0, .slice none 0 0]) (t := 24) ?hr ?_; (case hd => rfl); (case hg => rfl); (case hr => first | (go_simp; done) | (go_simp; rfl)); intro gb153 hg w8 hbox hb; replace HO0_0 := zVe HO0_0 hg hb; replace HO0_1 := zVe HO0_1 hg hb; have BK153 := am (hbox); have GW153 := zsz hg (zc1 HB GE152); have GE153 := zsz hg (zc1 HB GE152); replace HB := am (below_step (zc1 HB GE152) hb); have NB152_153 := znt BK152 hg; have NB153_152 := zng BK152 hg; replace BK152 := zbb BK152 hb; clear hb hbox hg; have hnb9 := NB152_153.out; have hnc9 := NB153_152.out; have hcz10_0 : w8.cell? ⟨gb152, 0, none⟩ = some (.slice A0_0 l0_0.length c0_0) := (blk_cell BK152.out 0).trans rfl; have hcz10_1 : w8.cell? ⟨gb152, 1, none⟩ = some (.slice A0_1 l0_1.length c0_1) := (blk_cell BK152.out 1).trans rfl; have hfz10_0 := blk_frozen BK152.out 0; have hfz10_1 := blk_frozen BK152.out 1) | ((with_reducible refine gate_callee (f := 19) rfl ?_); refine goesL_ (some 8) rfl rfl Try.func19 (by kernel_rfl) rfl #[.agg #[.slice A0_0 l0_0.length c0_0, .slice A0_1 l0_1.length c0_1]] rfl zm ?_; (with_reducible refine (cond_Right.calls k (fun k_ => ((((P0_0_ k_ ∨ P0_1_ k_) ∨ w.heap.size ≤ k_) ∧ k_ ≠ gb152) ∧ k_ ≠ gb153)) _ _ l0_0 (fun k_ => ((((P0_0_ k_ ∨ P0_1_ k_) ∨ w.heap.size ≤ k_) ∧ k_ ≠ gb152) ∧ k_ ≠ gb153)) _ _ l0_1 true _ ?side1 ?side2 A3.out).mono ?_); (case side1 => exact HO0_0.out); (case side2 => exact HO0_1.out); rintro e w11 ⟨rfl, hb⟩; refine ⟨_, rfl, ?_⟩; replace HO0_0 := zVb HO0_0 hb; replace HO0_1 := zVb HO0_1 hb; replace BK152 := zbb BK152 hb; replace BK153 := zbb BK153 hb; replace HB := am (below_step (zc2 HB GE152 GE153) hb); (try clear hb); (try clear hb2); (try clear hk); (try clear hi); have hcz12_0 : w11.cell? ⟨gb152, 0, none⟩ = some (.slice A0_0 l0_0.length c0_0) := (blk_cell BK152.out 0).trans rfl; have hcz12_1 : w11.cell? ⟨gb152, 1, none⟩ = some (.slice A0_1 l0_1.length c0_1) := (blk_cell BK152.out 1).trans rfl; have hfz12_0 := blk_frozen BK152.out 0; have hfz12_1 := blk_frozen BK152.out 1) | ((with_reducible refine gate_callee (f := 24) rfl ?_); refine goesL_ (some 15) rfl rfl Try.func24 (by kernel_rfl) rfl #[.slice A0_0 l0_0.length c0_0, .int .i64 a1] rfl zm ?_; (with_reducible refine (slices_Contains_int_int.calls k _ _ l0_0 a1 true _ ?side1 ?side2 A5.out).mono ?_); (case side1 => repeat (first | exact (Kd.V_reads' HO0_0.out).2.2 | (with_reducible refine Kd.C_alloc ?_ _) | (with_reducible refine Kd.C_drewN ?_ _) | (with_reducible refine Kd.C_drew ?_))); (case side2 => exact (Kd.V_reads' HO0_0.out).2.1); rintro e w' ⟨rfl, ⟨nd, rfl⟩⟩; refine ⟨_, rfl, ?_⟩; (try (rw [drewN_self w11]; generalize hq_ : World.drewN w11 _ = w11; have n0_ : Aside0 (Kd.V (Kd.int .i64) 3 w11 w.heap.size (fun k_ => ((P0_0_ k_ ∨ P0_1_ k_) ∨ w.heap.size ≤ k_) ∧ k_ ≠ gb152 ∧ k_ ≠ gb153) (.slice A0_0 l0_0.length c0_0) l0_0) := ⟨by rw [← hq_]; exact (by (with_reducible repeat (first | apply Kd.V_alloc | apply Kd.V_drewN | apply Kd.V_drew)); exact Kd.V_mono HO0_0.out (fun _ hk => ⟨hk.1.1, ⟨hk.1.2, hk.2⟩⟩))⟩; have n1_ : Aside0 (Kd.V (Kd.int .i64) 3 w11 w.heap.size (fun k_ => ((P0_0_ k_ ∨ P0_1_ k_) ∨ w.heap.size ≤ k_) ∧ k_ ≠ gb152 ∧ k_ ≠ gb153) (.slice A0_1 l0_1.length c0_1) l0_1) := ⟨by rw [← hq_]; exact (by (with_reducible repeat (first | apply Kd.V_alloc | apply Kd.V_drewN | apply Kd.V_drew)); exact Kd.V_mono HO0_1.out (fun _ hk => ⟨hk.1.1, ⟨hk.1.2, hk.2⟩⟩))⟩; have n2_ : Aside0 (w11.heap[gb152]? = some (.cells #[.slice A0_0 l0_0.length c0_0, .slice A0_1 l0_1.length c0_1] 24 (0, 0))) := ⟨by rw [← hq_]; exact (zb BK152)⟩; have n3_ : Aside0 (w11.heap[gb153]? = some (.cells #[.slice none 0 0, .slice none 0 0] 24 (0, 0))) := ⟨by rw [← hq_]; exact (zb BK153)⟩; have n4_ : Aside0 (Below w.heap.size w w11) := ⟨by rw [← hq_]; exact (zc2 HB GE152 GE153)⟩; clear HO0_0 HO0_1 BK152 BK153 HB hq_; have HO0_0 := n0_; have HO0_1 := n1_; have BK152 := n2_; have BK153 := n3_; have HB := n4_; clear n0_ n1_ n2_ n3_ n4_)); have n_ := am (Kd.V_mono (ok' := (fun k_ => ((P0_0_ k_ ∨ P0_1_ k_) ∨ w.heap.size ≤ k_) ∧ k_ ≠ gb152 ∧ k_ ≠ gb153)) HO0_0.out (fun k_ hk => by first | exact hk | exact ⟨hk.1.1, ⟨hk.1.2, hk.2⟩⟩)); clear HO0_0; have HO0_0 := n_; clear n_; have n_ := am (Kd.V_mono (ok' := (fun k_ => ((P0_0_ k_ ∨ P0_1_ k_) ∨ w.heap.size ≤ k_) ∧ k_ ≠ gb152 ∧ k_ ≠ gb153)) HO0_1.out (fun k_ hk => by first | exact hk | exact ⟨hk.1.1, ⟨hk.1.2, hk.2⟩⟩)); clear HO0_1; have HO0_1 := n_; clear n_; have hcz13_0 : w11.cell? ⟨gb152, 0, none⟩ = some (.slice A0_0 l0_0.length c0_0) := (blk_cell BK152.out 0).trans rfl; have hcz13_1 : w11.cell? ⟨gb152, 1, none⟩ = some (.slice A0_1 l0_1.length c0_1) := (blk_cell BK152.out 1).trans rfl; have hfz13_0 := blk_frozen BK152.out 0; have hfz13_1 := blk_frozen BK152.out 1; have hcz14_0 : w11.cell? ⟨gb153, 0, none⟩ = some (.slice none 0 0) := (blk_cell BK153.out 0).trans rfl; have hcz14_1 : w11.cell? ⟨gb153, 1, none⟩ = some (.slice none 0 0) := (blk_cell BK153.out 1).trans rfl; have hfz14_0 := blk_frozen BK153.out 0; have hfz14_1 := blk_frozen BK153.out 1))
   refine bodyPost_ret (results_ct rfl _ _ gb153 24 #[.slice A0_0 l0_0.length c0_0, .slice A0_1 l0_1.length c0_1] (0, 0) _ rfl (by (with_reducible repeat (first | refine blk_drewN ?_ _ | refine blk_drew ?_ | refine blk_alloc ?_ _)); refine blk_put (cs := #[.slice A0_0 l0_0.length c0_0, .slice none 0 0]) ?_ 1 _ rfl; (with_reducible repeat (first | refine blk_drewN ?_ _ | refine blk_drew ?_ | refine blk_alloc ?_ _)); refine blk_put (cs := #[.slice none 0 0, .slice none 0 0]) ?_ 0 _ rfl; (with_reducible repeat (first | refine blk_drewN ?_ _ | refine blk_drew ?_ | refine blk_alloc ?_ _)); exact BK153.out) Try.underlying24 rfl (by kernel_rfl)) rfl ?_
   exact ⟨_, _, by first | rfl | (simp [errW_none, errW_some] <;> rfl) | (simp [*, errW_none, errW_some] <;> rfl), by (with_reducible repeat (first | apply Kd.V_alloc | apply Kd.V_drewN | apply Kd.V_drew)); exact Kd.V_mono (Kd.V_far (p := ⟨gb153, 1, none⟩) (Kd.V_far (p := ⟨gb153, 0, none⟩) (Kd.V_mono HO0_0.out (fun k_ hk => (⟨hk, hk.2.2⟩ : _ ∧ k_ ≠ gb153))) (fun _ hk => hk.2) (.slice A0_0 l0_0.length c0_0)) (fun _ hk => hk.2) (.slice A0_1 l0_1.length c0_1)) (fun _ hk => hk.1.1), by (with_reducible repeat (first | apply Kd.V_alloc | apply Kd.V_drewN | apply Kd.V_drew)); exact Kd.V_mono (Kd.V_far (p := ⟨gb153, 1, none⟩) (Kd.V_far (p := ⟨gb153, 0, none⟩) (Kd.V_mono HO0_1.out (fun k_ hk => (⟨hk, hk.2.2⟩ : _ ∧ k_ ≠ gb153))) (fun _ hk => hk.2) (.slice A0_0 l0_0.length c0_0)) (fun _ hk => hk.2) (.slice A0_1 l0_1.length c0_1)) (fun _ hk => hk.1.1), by repeat (first | (with_reducible first | exact HB.out | apply below_alloc | apply pw_below_drewN | apply below_drew1 | refine below_set ?_ GE152.out | refine below_set ?_ GE153.out) | exact HB.out)⟩
  ·replace c6 := Bool.eq_false_iff.mpr c6
   subst c6
   have H1 : ((slices_Contains_int_int.f k l0_1 a1).bind fun t156 => (if t156 = true then ((cond_without.f l0_1 a1).bind fun t157 => (some (l0_0, t157, 0))) else (some (l0_0, l0_1, 3)))) = some (r1, r2, r3) := by rw [if_neg (show ¬ (false = true) by decide)] at H; exact H
   clear H
   have H := H1
   clear H1
   replace H := Option.bind_eq_some_iff.mp H
   obtain ⟨t156, A150, H⟩ := H
   try dsimp only at H
   have A15 := am A150
   clear A150
   by_cases c16 : t156 = true
   ·subst c16
    have H1 : ((cond_without.f l0_1 a1).bind fun t157 => (some (l0_0, t157, 0))) = some (r1, r2, r3) := by rw [if_pos rfl] at H; exact H
    clear H
    have H := H1
    clear H1
    replace H := Option.bind_eq_some_iff.mp H
    obtain ⟨t157, A170, H⟩ := H
    try dsimp only at H
    have A17 := am A170
    clear A170
    simp only [Option.some.injEq, Prod.mk.injEq] at H
    obtain ⟨rfl, rfl, rfl⟩ := H
    go_enter Try.func15, Try.ntmps15
    go_wp2_with (first | ((with_reducible refine gate_dst (N := 2) rfl ?_); refine box_event ?hg (N := 2) ?hd (cs := #[.slice A0_0 l0_0.length c0_0, .slice A0_1 l0_1.length c0_1]) (t := 24) ?hr ?_; (case hd => rfl); (case hg => rfl); (case hr => first | (go_simp; done) | (go_simp; rfl)); intro gb152 hg w18 hbox hb; replace HO0_0 := zVe HO0_0 hg hb; replace HO0_1 := zVe HO0_1 hg hb; have BK152 := am (hbox); have GW152 := zsz hg (zc0 HB); have GE152 := zsz hg (zc0 HB); replace HB := am (below_step (zc0 HB) hb); clear hb hbox hg) | ((with_reducible refine gate_dst (N := 4) rfl ?_); refine box_event ?hg (N := 4) ?hd (cs := #[.slice none 0 0, .slice none 0 0]) (t := 24) ?hr ?_; (case hd => rfl); (case hg => rfl); (case hr => first | (go_simp; done) | (go_simp; rfl)); intro gb153 hg w19 hbox hb; replace HO0_0 := zVe HO0_0 hg hb; replace HO0_1 := zVe HO0_1 hg hb; have BK153 := am (hbox); have GW153 := zsz hg (zc1 HB GE152); have GE153 := zsz hg (zc1 HB GE152); replace HB := am (below_step (zc1 HB GE152) hb); have NB152_153 := znt BK152 hg; have NB153_152 := zng BK152 hg; replace BK152 := zbb BK152 hb; clear hb hbox hg; have hnb20 := NB152_153.out; have hnc20 := NB153_152.out; have hcz21_0 : w19.cell? ⟨gb152, 0, none⟩ = some (.slice A0_0 l0_0.length c0_0) := (blk_cell BK152.out 0).trans rfl; have hcz21_1 : w19.cell? ⟨gb152, 1, none⟩ = some (.slice A0_1 l0_1.length c0_1) := (blk_cell BK152.out 1).trans rfl; have hfz21_0 := blk_frozen BK152.out 0; have hfz21_1 := blk_frozen BK152.out 1) | ((with_reducible refine gate_callee (f := 19) rfl ?_); refine goesL_ (some 8) rfl rfl Try.func19 (by kernel_rfl) rfl #[.agg #[.slice A0_0 l0_0.length c0_0, .slice A0_1 l0_1.length c0_1]] rfl zm ?_; (with_reducible refine (cond_Right.calls k (fun k_ => ((((P0_0_ k_ ∨ P0_1_ k_) ∨ w.heap.size ≤ k_) ∧ k_ ≠ gb152) ∧ k_ ≠ gb153)) _ _ l0_0 (fun k_ => ((((P0_0_ k_ ∨ P0_1_ k_) ∨ w.heap.size ≤ k_) ∧ k_ ≠ gb152) ∧ k_ ≠ gb153)) _ _ l0_1 true _ ?side1 ?side2 A3.out).mono ?_); (case side1 => exact HO0_0.out); (case side2 => exact HO0_1.out); rintro e w22 ⟨rfl, hb⟩; refine ⟨_, rfl, ?_⟩; replace HO0_0 := zVb HO0_0 hb; replace HO0_1 := zVb HO0_1 hb; replace BK152 := zbb BK152 hb; replace BK153 := zbb BK153 hb; replace HB := am (below_step (zc2 HB GE152 GE153) hb); (try clear hb); (try clear hb2); (try clear hk); (try clear hi); have hcz23_0 : w22.cell? ⟨gb152, 0, none⟩ = some (.slice A0_0 l0_0.length c0_0) := (blk_cell BK152.out 0).trans rfl; have hcz23_1 : w22.cell? ⟨gb152, 1, none⟩ = some (.slice A0_1 l0_1.length c0_1) := (blk_cell BK152.out 1).trans rfl; have hfz23_0 := blk_frozen BK152.out 0; have hfz23_1 := blk_frozen BK152.out 1) | ((with_reducible refine gate_callee (f := 24) rfl ?_); refine goesL_ (some 15) rfl rfl Try.func24 (by kernel_rfl) rfl #[.slice A0_0 l0_0.length c0_0, .int .i64 a1] rfl zm ?_; (with_reducible refine (slices_Contains_int_int.calls k _ _ l0_0 a1 false _ ?side1 ?side2 A5.out).mono ?_); (case side1 => repeat (first | exact (Kd.V_reads' HO0_0.out).2.2 | (with_reducible refine Kd.C_alloc ?_ _) | (with_reducible refine Kd.C_drewN ?_ _) | (with_reducible refine Kd.C_drew ?_))); (case side2 => exact (Kd.V_reads' HO0_0.out).2.1); rintro e w' ⟨rfl, ⟨nd, rfl⟩⟩; refine ⟨_, rfl, ?_⟩; (try (rw [drewN_self w22]; generalize hq_ : World.drewN w22 _ = w22; have n0_ : Aside0 (Kd.V (Kd.int .i64) 3 w22 w.heap.size (fun k_ => ((P0_0_ k_ ∨ P0_1_ k_) ∨ w.heap.size ≤ k_) ∧ k_ ≠ gb152 ∧ k_ ≠ gb153) (.slice A0_0 l0_0.length c0_0) l0_0) := ⟨by rw [← hq_]; exact (by (with_reducible repeat (first | apply Kd.V_alloc | apply Kd.V_drewN | apply Kd.V_drew)); exact Kd.V_mono HO0_0.out (fun _ hk => ⟨hk.1.1, ⟨hk.1.2, hk.2⟩⟩))⟩; have n1_ : Aside0 (Kd.V (Kd.int .i64) 3 w22 w.heap.size (fun k_ => ((P0_0_ k_ ∨ P0_1_ k_) ∨ w.heap.size ≤ k_) ∧ k_ ≠ gb152 ∧ k_ ≠ gb153) (.slice A0_1 l0_1.length c0_1) l0_1) := ⟨by rw [← hq_]; exact (by (with_reducible repeat (first | apply Kd.V_alloc | apply Kd.V_drewN | apply Kd.V_drew)); exact Kd.V_mono HO0_1.out (fun _ hk => ⟨hk.1.1, ⟨hk.1.2, hk.2⟩⟩))⟩; have n2_ : Aside0 (w22.heap[gb152]? = some (.cells #[.slice A0_0 l0_0.length c0_0, .slice A0_1 l0_1.length c0_1] 24 (0, 0))) := ⟨by rw [← hq_]; exact (zb BK152)⟩; have n3_ : Aside0 (w22.heap[gb153]? = some (.cells #[.slice none 0 0, .slice none 0 0] 24 (0, 0))) := ⟨by rw [← hq_]; exact (zb BK153)⟩; have n4_ : Aside0 (Below w.heap.size w w22) := ⟨by rw [← hq_]; exact (zc2 HB GE152 GE153)⟩; clear HO0_0 HO0_1 BK152 BK153 HB hq_; have HO0_0 := n0_; have HO0_1 := n1_; have BK152 := n2_; have BK153 := n3_; have HB := n4_; clear n0_ n1_ n2_ n3_ n4_)); have n_ := am (Kd.V_mono (ok' := (fun k_ => ((P0_0_ k_ ∨ P0_1_ k_) ∨ w.heap.size ≤ k_) ∧ k_ ≠ gb152 ∧ k_ ≠ gb153)) HO0_0.out (fun k_ hk => by first | exact hk | exact ⟨hk.1.1, ⟨hk.1.2, hk.2⟩⟩)); clear HO0_0; have HO0_0 := n_; clear n_; have n_ := am (Kd.V_mono (ok' := (fun k_ => ((P0_0_ k_ ∨ P0_1_ k_) ∨ w.heap.size ≤ k_) ∧ k_ ≠ gb152 ∧ k_ ≠ gb153)) HO0_1.out (fun k_ hk => by first | exact hk | exact ⟨hk.1.1, ⟨hk.1.2, hk.2⟩⟩)); clear HO0_1; have HO0_1 := n_; clear n_; have hcz24_0 : w22.cell? ⟨gb152, 0, none⟩ = some (.slice A0_0 l0_0.length c0_0) := (blk_cell BK152.out 0).trans rfl; have hcz24_1 : w22.cell? ⟨gb152, 1, none⟩ = some (.slice A0_1 l0_1.length c0_1) := (blk_cell BK152.out 1).trans rfl; have hfz24_0 := blk_frozen BK152.out 0; have hfz24_1 := blk_frozen BK152.out 1) | ((with_reducible refine gate_callee (f := 24) rfl ?_); refine goesL_ (some 21) rfl rfl Try.func24 (by kernel_rfl) rfl #[.slice A0_1 l0_1.length c0_1, .int .i64 a1] rfl zm ?_; (with_reducible refine (slices_Contains_int_int.calls k _ _ l0_1 a1 true _ ?side1 ?side2 A15.out).mono ?_); (case side1 => repeat (first | exact (Kd.V_reads' HO0_1.out).2.2 | (with_reducible refine Kd.C_alloc ?_ _) | (with_reducible refine Kd.C_drewN ?_ _) | (with_reducible refine Kd.C_drew ?_))); (case side2 => exact (Kd.V_reads' HO0_1.out).2.1); rintro e w' ⟨rfl, ⟨nd, rfl⟩⟩; refine ⟨_, rfl, ?_⟩; (try (rw [drewN_self w22]; generalize hq_ : World.drewN w22 _ = w22; have n0_ : Aside0 (Kd.V (Kd.int .i64) 3 w22 w.heap.size (fun k_ => ((P0_0_ k_ ∨ P0_1_ k_) ∨ w.heap.size ≤ k_) ∧ k_ ≠ gb152 ∧ k_ ≠ gb153) (.slice A0_0 l0_0.length c0_0) l0_0) := ⟨by rw [← hq_]; exact (zV HO0_0)⟩; have n1_ : Aside0 (Kd.V (Kd.int .i64) 3 w22 w.heap.size (fun k_ => ((P0_0_ k_ ∨ P0_1_ k_) ∨ w.heap.size ≤ k_) ∧ k_ ≠ gb152 ∧ k_ ≠ gb153) (.slice A0_1 l0_1.length c0_1) l0_1) := ⟨by rw [← hq_]; exact (zV HO0_1)⟩; have n2_ : Aside0 (w22.heap[gb152]? = some (.cells #[.slice A0_0 l0_0.length c0_0, .slice A0_1 l0_1.length c0_1] 24 (0, 0))) := ⟨by rw [← hq_]; exact (zb BK152)⟩; have n3_ : Aside0 (w22.heap[gb153]? = some (.cells #[.slice none 0 0, .slice none 0 0] 24 (0, 0))) := ⟨by rw [← hq_]; exact (zb BK153)⟩; have n4_ : Aside0 (Below w.heap.size w w22) := ⟨by rw [← hq_]; exact (zc2 HB GE152 GE153)⟩; clear HO0_0 HO0_1 BK152 BK153 HB hq_; have HO0_0 := n0_; have HO0_1 := n1_; have BK152 := n2_; have BK153 := n3_; have HB := n4_; clear n0_ n1_ n2_ n3_ n4_)); have hcz25_0 : w22.cell? ⟨gb152, 0, none⟩ = some (.slice A0_0 l0_0.length c0_0) := (blk_cell BK152.out 0).trans rfl; have hcz25_1 : w22.cell? ⟨gb152, 1, none⟩ = some (.slice A0_1 l0_1.length c0_1) := (blk_cell BK152.out 1).trans rfl; have hfz25_0 := blk_frozen BK152.out 0; have hfz25_1 := blk_frozen BK152.out 1) | ((with_reducible refine gate_callee (f := 29) rfl ?_); refine goesL_ (some 27) rfl rfl Try.func29 (by kernel_rfl) rfl #[.slice A0_1 l0_1.length c0_1, .int .i64 a1] rfl zm ?_; (with_reducible refine (cond_without.calls _ _ l0_1 a1 t157 _ ?side1 ?side2 A17.out).mono ?_); (case side1 => repeat (first | exact (Kd.V_reads' HO0_1.out).2.2 | (with_reducible refine Kd.C_alloc ?_ _) | (with_reducible refine Kd.C_drewN ?_ _) | (with_reducible refine Kd.C_drew ?_))); (case side2 => exact (Kd.V_reads' HO0_1.out).2.1); rintro e w26 ⟨v158, rfl, ho0, hb⟩; refine ⟨_, rfl, ?_⟩; replace HO0_0 := am (Kd.V_elder' (zV HO0_0) (Kd.R_base ho0) hb); replace HO0_1 := am (Kd.V_elder' (zV HO0_1) (Kd.R_base ho0) hb); have HO159 := am (Kd.R_lower (Kd.R_newM (M := fun k_ => (w.heap.size ≤ k_)) ho0 (below_size (zc2 HB GE152 GE153)) (fun k_ h_ => h_)) (below_size (zc2 HB GE152 GE153))); replace BK152 := zbb BK152 hb; replace BK153 := zbb BK153 hb; replace HB := am (below_step (zc2 HB GE152 GE153) hb); (try clear hb); (try clear hb2); (try clear hk); (try clear hi); (try clear ho0); obtain ⟨Ao27, co27, eo27⟩ := Kd.R_slice HO159.out; subst eo27; have hcz28_0 : w26.cell? ⟨gb152, 0, none⟩ = some (.slice A0_0 l0_0.length c0_0) := (blk_cell BK152.out 0).trans rfl; have hcz28_1 : w26.cell? ⟨gb152, 1, none⟩ = some (.slice A0_1 l0_1.length c0_1) := (blk_cell BK152.out 1).trans rfl; have hfz28_0 := blk_frozen BK152.out 0; have hfz28_1 := blk_frozen BK152.out 1; have hcz29_0 : w26.cell? ⟨gb153, 0, none⟩ = some (.slice none 0 0) := (blk_cell BK153.out 0).trans rfl; have hcz29_1 : w26.cell? ⟨gb153, 1, none⟩ = some (.slice none 0 0) := (blk_cell BK153.out 1).trans rfl; have hfz29_0 := blk_frozen BK153.out 0; have hfz29_1 := blk_frozen BK153.out 1))
    refine bodyPost_ret (results_ct rfl _ _ gb153 24 #[.slice A0_0 l0_0.length c0_0, .slice Ao27 t157.length co27] (0, 0) _ rfl (by (with_reducible repeat (first | refine blk_drewN ?_ _ | refine blk_drew ?_ | refine blk_alloc ?_ _)); refine blk_put (cs := #[.slice A0_0 l0_0.length c0_0, .slice none 0 0]) ?_ 1 _ rfl; (with_reducible repeat (first | refine blk_drewN ?_ _ | refine blk_drew ?_ | refine blk_alloc ?_ _)); refine blk_put (cs := #[.slice none 0 0, .slice none 0 0]) ?_ 0 _ rfl; (with_reducible repeat (first | refine blk_drewN ?_ _ | refine blk_drew ?_ | refine blk_alloc ?_ _)); refine blk_far ?_ NB153_152.out _; (with_reducible repeat (first | refine blk_drewN ?_ _ | refine blk_drew ?_ | refine blk_alloc ?_ _)); exact BK153.out) Try.underlying24 rfl (by kernel_rfl)) rfl ?_
    exact ⟨_, _, by first | rfl | (simp [errW_none, errW_some] <;> rfl) | (simp [*, errW_none, errW_some] <;> rfl), by (with_reducible repeat (first | apply Kd.V_alloc | apply Kd.V_drewN | apply Kd.V_drew)); exact Kd.V_mono (Kd.V_far (p := ⟨gb153, 1, none⟩) (Kd.V_far (p := ⟨gb153, 0, none⟩) (Kd.V_far (p := ⟨gb152, 1, none⟩) (Kd.V_mono (Kd.V_mono HO0_0.out (fun k_ hk => (⟨hk, hk.1.2.1⟩ : _ ∧ k_ ≠ gb152))) (fun k_ hk => (⟨hk, hk.1.1.2.2⟩ : _ ∧ k_ ≠ gb153))) (fun _ hk => hk.1.2) (.slice Ao27 t157.length co27)) (fun _ hk => hk.2) (.slice A0_0 l0_0.length c0_0)) (fun _ hk => hk.2) (.slice Ao27 t157.length co27)) (fun _ hk => hk.1.1.1.1), Kd.V_mono (Kd.R_V (Kd.R_mono (ok' := fun k_ => (w.heap.size ≤ k_)) (by (with_reducible repeat (first | apply Kd.R_alloc | apply Kd.R_drewN | apply Kd.R_drew)); exact Kd.R_mono (Kd.R_far (p := ⟨gb153, 1, none⟩) (Kd.R_far (p := ⟨gb153, 0, none⟩) (Kd.R_far (p := ⟨gb152, 1, none⟩) (Kd.R_types (Kd.R_types HO159.out BK152.out (by decide)) BK153.out (by decide)) (fun _ hk => hk.1.2) (.slice Ao27 t157.length co27)) (fun _ hk => hk.2) (.slice A0_0 l0_0.length c0_0)) (fun _ hk => hk.2) (.slice Ao27 t157.length co27)) (fun _ hk => hk.1.1.1)) (fun _ h_ => h_))) (fun k_ hk => by first | exact ⟨(.inr (hk.1)), hk.2⟩ | exact (.inr (hk))), by repeat (first | (with_reducible first | exact HB.out | apply below_alloc | apply pw_below_drewN | apply below_drew1 | refine below_set ?_ GE152.out | refine below_set ?_ GE153.out) | exact HB.out)⟩
   ·replace c16 := Bool.eq_false_iff.mpr c16
    subst c16
    have H1 : (some (l0_0, l0_1, 3)) = some (r1, r2, r3) := by rw [if_neg (show ¬ (false = true) by decide)] at H; exact H
    clear H
    have H := H1
    clear H1
    simp only [Option.some.injEq, Prod.mk.injEq] at H
    obtain ⟨rfl, rfl, rfl⟩ := H
    go_enter Try.func15, Try.ntmps15
    go_wp2_with (first | ((with_reducible refine gate_dst (N := 2) rfl ?_); refine box_event ?hg (N := 2) ?hd (cs := #[.slice A0_0 l0_0.length c0_0, .slice A0_1 l0_1.length c0_1]) (t := 24) ?hr ?_; (case hd => rfl); (case hg => rfl); (case hr => first | (go_simp; done) | (go_simp; rfl)); intro gb152 hg w30 hbox hb; replace HO0_0 := zVe HO0_0 hg hb; replace HO0_1 := zVe HO0_1 hg hb; have BK152 := am (hbox); have GW152 := zsz hg (zc0 HB); have GE152 := zsz hg (zc0 HB); replace HB := am (below_step (zc0 HB) hb); clear hb hbox hg) | ((with_reducible refine gate_dst (N := 4) rfl ?_); refine box_event ?hg (N := 4) ?hd (cs := #[.slice none 0 0, .slice none 0 0]) (t := 24) ?hr ?_; (case hd => rfl); (case hg => rfl); (case hr => first | (go_simp; done) | (go_simp; rfl)); intro gb153 hg w31 hbox hb; replace HO0_0 := zVe HO0_0 hg hb; replace HO0_1 := zVe HO0_1 hg hb; have BK153 := am (hbox); have GW153 := zsz hg (zc1 HB GE152); have GE153 := zsz hg (zc1 HB GE152); replace HB := am (below_step (zc1 HB GE152) hb); have NB152_153 := znt BK152 hg; have NB153_152 := zng BK152 hg; replace BK152 := zbb BK152 hb; clear hb hbox hg; have hnb32 := NB152_153.out; have hnc32 := NB153_152.out; have hcz33_0 : w31.cell? ⟨gb152, 0, none⟩ = some (.slice A0_0 l0_0.length c0_0) := (blk_cell BK152.out 0).trans rfl; have hcz33_1 : w31.cell? ⟨gb152, 1, none⟩ = some (.slice A0_1 l0_1.length c0_1) := (blk_cell BK152.out 1).trans rfl; have hfz33_0 := blk_frozen BK152.out 0; have hfz33_1 := blk_frozen BK152.out 1) | ((with_reducible refine gate_callee (f := 19) rfl ?_); refine goesL_ (some 8) rfl rfl Try.func19 (by kernel_rfl) rfl #[.agg #[.slice A0_0 l0_0.length c0_0, .slice A0_1 l0_1.length c0_1]] rfl zm ?_; (with_reducible refine (cond_Right.calls k (fun k_ => ((((P0_0_ k_ ∨ P0_1_ k_) ∨ w.heap.size ≤ k_) ∧ k_ ≠ gb152) ∧ k_ ≠ gb153)) _ _ l0_0 (fun k_ => ((((P0_0_ k_ ∨ P0_1_ k_) ∨ w.heap.size ≤ k_) ∧ k_ ≠ gb152) ∧ k_ ≠ gb153)) _ _ l0_1 true _ ?side1 ?side2 A3.out).mono ?_); (case side1 => exact HO0_0.out); (case side2 => exact HO0_1.out); rintro e w34 ⟨rfl, hb⟩; refine ⟨_, rfl, ?_⟩; replace HO0_0 := zVb HO0_0 hb; replace HO0_1 := zVb HO0_1 hb; replace BK152 := zbb BK152 hb; replace BK153 := zbb BK153 hb; replace HB := am (below_step (zc2 HB GE152 GE153) hb); (try clear hb); (try clear hb2); (try clear hk); (try clear hi); have hcz35_0 : w34.cell? ⟨gb152, 0, none⟩ = some (.slice A0_0 l0_0.length c0_0) := (blk_cell BK152.out 0).trans rfl; have hcz35_1 : w34.cell? ⟨gb152, 1, none⟩ = some (.slice A0_1 l0_1.length c0_1) := (blk_cell BK152.out 1).trans rfl; have hfz35_0 := blk_frozen BK152.out 0; have hfz35_1 := blk_frozen BK152.out 1) | ((with_reducible refine gate_callee (f := 24) rfl ?_); refine goesL_ (some 15) rfl rfl Try.func24 (by kernel_rfl) rfl #[.slice A0_0 l0_0.length c0_0, .int .i64 a1] rfl zm ?_; (with_reducible refine (slices_Contains_int_int.calls k _ _ l0_0 a1 false _ ?side1 ?side2 A5.out).mono ?_); (case side1 => repeat (first | exact (Kd.V_reads' HO0_0.out).2.2 | (with_reducible refine Kd.C_alloc ?_ _) | (with_reducible refine Kd.C_drewN ?_ _) | (with_reducible refine Kd.C_drew ?_))); (case side2 => exact (Kd.V_reads' HO0_0.out).2.1); rintro e w' ⟨rfl, ⟨nd, rfl⟩⟩; refine ⟨_, rfl, ?_⟩; (try (rw [drewN_self w34]; generalize hq_ : World.drewN w34 _ = w34; have n0_ : Aside0 (Kd.V (Kd.int .i64) 3 w34 w.heap.size (fun k_ => ((P0_0_ k_ ∨ P0_1_ k_) ∨ w.heap.size ≤ k_) ∧ k_ ≠ gb152 ∧ k_ ≠ gb153) (.slice A0_0 l0_0.length c0_0) l0_0) := ⟨by rw [← hq_]; exact (by (with_reducible repeat (first | apply Kd.V_alloc | apply Kd.V_drewN | apply Kd.V_drew)); exact Kd.V_mono HO0_0.out (fun _ hk => ⟨hk.1.1, ⟨hk.1.2, hk.2⟩⟩))⟩; have n1_ : Aside0 (Kd.V (Kd.int .i64) 3 w34 w.heap.size (fun k_ => ((P0_0_ k_ ∨ P0_1_ k_) ∨ w.heap.size ≤ k_) ∧ k_ ≠ gb152 ∧ k_ ≠ gb153) (.slice A0_1 l0_1.length c0_1) l0_1) := ⟨by rw [← hq_]; exact (by (with_reducible repeat (first | apply Kd.V_alloc | apply Kd.V_drewN | apply Kd.V_drew)); exact Kd.V_mono HO0_1.out (fun _ hk => ⟨hk.1.1, ⟨hk.1.2, hk.2⟩⟩))⟩; have n2_ : Aside0 (w34.heap[gb152]? = some (.cells #[.slice A0_0 l0_0.length c0_0, .slice A0_1 l0_1.length c0_1] 24 (0, 0))) := ⟨by rw [← hq_]; exact (zb BK152)⟩; have n3_ : Aside0 (w34.heap[gb153]? = some (.cells #[.slice none 0 0, .slice none 0 0] 24 (0, 0))) := ⟨by rw [← hq_]; exact (zb BK153)⟩; have n4_ : Aside0 (Below w.heap.size w w34) := ⟨by rw [← hq_]; exact (zc2 HB GE152 GE153)⟩; clear HO0_0 HO0_1 BK152 BK153 HB hq_; have HO0_0 := n0_; have HO0_1 := n1_; have BK152 := n2_; have BK153 := n3_; have HB := n4_; clear n0_ n1_ n2_ n3_ n4_)); have n_ := am (Kd.V_mono (ok' := (fun k_ => ((P0_0_ k_ ∨ P0_1_ k_) ∨ w.heap.size ≤ k_) ∧ k_ ≠ gb152 ∧ k_ ≠ gb153)) HO0_0.out (fun k_ hk => by first | exact hk | exact ⟨hk.1.1, ⟨hk.1.2, hk.2⟩⟩)); clear HO0_0; have HO0_0 := n_; clear n_; have n_ := am (Kd.V_mono (ok' := (fun k_ => ((P0_0_ k_ ∨ P0_1_ k_) ∨ w.heap.size ≤ k_) ∧ k_ ≠ gb152 ∧ k_ ≠ gb153)) HO0_1.out (fun k_ hk => by first | exact hk | exact ⟨hk.1.1, ⟨hk.1.2, hk.2⟩⟩)); clear HO0_1; have HO0_1 := n_; clear n_; have hcz36_0 : w34.cell? ⟨gb152, 0, none⟩ = some (.slice A0_0 l0_0.length c0_0) := (blk_cell BK152.out 0).trans rfl; have hcz36_1 : w34.cell? ⟨gb152, 1, none⟩ = some (.slice A0_1 l0_1.length c0_1) := (blk_cell BK152.out 1).trans rfl; have hfz36_0 := blk_frozen BK152.out 0; have hfz36_1 := blk_frozen BK152.out 1) | ((with_reducible refine gate_callee (f := 24) rfl ?_); refine goesL_ (some 21) rfl rfl Try.func24 (by kernel_rfl) rfl #[.slice A0_1 l0_1.length c0_1, .int .i64 a1] rfl zm ?_; (with_reducible refine (slices_Contains_int_int.calls k _ _ l0_1 a1 false _ ?side1 ?side2 A15.out).mono ?_); (case side1 => repeat (first | exact (Kd.V_reads' HO0_1.out).2.2 | (with_reducible refine Kd.C_alloc ?_ _) | (with_reducible refine Kd.C_drewN ?_ _) | (with_reducible refine Kd.C_drew ?_))); (case side2 => exact (Kd.V_reads' HO0_1.out).2.1); rintro e w' ⟨rfl, ⟨nd, rfl⟩⟩; refine ⟨_, rfl, ?_⟩; (try (rw [drewN_self w34]; generalize hq_ : World.drewN w34 _ = w34; have n0_ : Aside0 (Kd.V (Kd.int .i64) 3 w34 w.heap.size (fun k_ => ((P0_0_ k_ ∨ P0_1_ k_) ∨ w.heap.size ≤ k_) ∧ k_ ≠ gb152 ∧ k_ ≠ gb153) (.slice A0_0 l0_0.length c0_0) l0_0) := ⟨by rw [← hq_]; exact (zV HO0_0)⟩; have n1_ : Aside0 (Kd.V (Kd.int .i64) 3 w34 w.heap.size (fun k_ => ((P0_0_ k_ ∨ P0_1_ k_) ∨ w.heap.size ≤ k_) ∧ k_ ≠ gb152 ∧ k_ ≠ gb153) (.slice A0_1 l0_1.length c0_1) l0_1) := ⟨by rw [← hq_]; exact (zV HO0_1)⟩; have n2_ : Aside0 (w34.heap[gb152]? = some (.cells #[.slice A0_0 l0_0.length c0_0, .slice A0_1 l0_1.length c0_1] 24 (0, 0))) := ⟨by rw [← hq_]; exact (zb BK152)⟩; have n3_ : Aside0 (w34.heap[gb153]? = some (.cells #[.slice none 0 0, .slice none 0 0] 24 (0, 0))) := ⟨by rw [← hq_]; exact (zb BK153)⟩; have n4_ : Aside0 (Below w.heap.size w w34) := ⟨by rw [← hq_]; exact (zc2 HB GE152 GE153)⟩; clear HO0_0 HO0_1 BK152 BK153 HB hq_; have HO0_0 := n0_; have HO0_1 := n1_; have BK152 := n2_; have BK153 := n3_; have HB := n4_; clear n0_ n1_ n2_ n3_ n4_)); have hcz37_0 : w34.cell? ⟨gb152, 0, none⟩ = some (.slice A0_0 l0_0.length c0_0) := (blk_cell BK152.out 0).trans rfl; have hcz37_1 : w34.cell? ⟨gb152, 1, none⟩ = some (.slice A0_1 l0_1.length c0_1) := (blk_cell BK152.out 1).trans rfl; have hfz37_0 := blk_frozen BK152.out 0; have hfz37_1 := blk_frozen BK152.out 1; have hcz38_0 : w34.cell? ⟨gb153, 0, none⟩ = some (.slice none 0 0) := (blk_cell BK153.out 0).trans rfl; have hcz38_1 : w34.cell? ⟨gb153, 1, none⟩ = some (.slice none 0 0) := (blk_cell BK153.out 1).trans rfl; have hfz38_0 := blk_frozen BK153.out 0; have hfz38_1 := blk_frozen BK153.out 1))
    refine bodyPost_ret (results_ct rfl _ _ gb153 24 #[.slice A0_0 l0_0.length c0_0, .slice A0_1 l0_1.length c0_1] (0, 0) _ rfl (by (with_reducible repeat (first | refine blk_drewN ?_ _ | refine blk_drew ?_ | refine blk_alloc ?_ _)); refine blk_put (cs := #[.slice A0_0 l0_0.length c0_0, .slice none 0 0]) ?_ 1 _ rfl; (with_reducible repeat (first | refine blk_drewN ?_ _ | refine blk_drew ?_ | refine blk_alloc ?_ _)); refine blk_put (cs := #[.slice none 0 0, .slice none 0 0]) ?_ 0 _ rfl; (with_reducible repeat (first | refine blk_drewN ?_ _ | refine blk_drew ?_ | refine blk_alloc ?_ _)); exact BK153.out) Try.underlying24 rfl (by kernel_rfl)) rfl ?_
    exact ⟨_, _, by first | rfl | (simp [errW_none, errW_some] <;> rfl) | (simp [*, errW_none, errW_some] <;> rfl), by (with_reducible repeat (first | apply Kd.V_alloc | apply Kd.V_drewN | apply Kd.V_drew)); exact Kd.V_mono (Kd.V_far (p := ⟨gb153, 1, none⟩) (Kd.V_far (p := ⟨gb153, 0, none⟩) (Kd.V_mono HO0_0.out (fun k_ hk => (⟨hk, hk.2.2⟩ : _ ∧ k_ ≠ gb153))) (fun _ hk => hk.2) (.slice A0_0 l0_0.length c0_0)) (fun _ hk => hk.2) (.slice A0_1 l0_1.length c0_1)) (fun _ hk => hk.1.1), by (with_reducible repeat (first | apply Kd.V_alloc | apply Kd.V_drewN | apply Kd.V_drew)); exact Kd.V_mono (Kd.V_far (p := ⟨gb153, 1, none⟩) (Kd.V_far (p := ⟨gb153, 0, none⟩) (Kd.V_mono HO0_1.out (fun k_ hk => (⟨hk, hk.2.2⟩ : _ ∧ k_ ≠ gb153))) (fun _ hk => hk.2) (.slice A0_0 l0_0.length c0_0)) (fun _ hk => hk.2) (.slice A0_1 l0_1.length c0_1)) (fun _ hk => hk.1.1), by repeat (first | (with_reducible first | exact HB.out | apply below_alloc | apply pw_below_drewN | apply below_drew1 | refine below_set ?_ GE152.out | refine below_set ?_ GE153.out) | exact HB.out)⟩
 ·replace c4 := Bool.eq_false_iff.mpr c4
  subst c4
  have H1 : (some (l0_0, l0_1, 1)) = some (r1, r2, r3) := by rw [if_neg (show ¬ (false = true) by decide)] at H; exact H
  clear H
  have H := H1
  clear H1
  simp only [Option.some.injEq, Prod.mk.injEq] at H
  obtain ⟨rfl, rfl, rfl⟩ := H
  go_enter Try.func15, Try.ntmps15
  go_wp2_with (first | ((with_reducible refine gate_dst (N := 2) rfl ?_); refine box_event ?hg (N := 2) ?hd (cs := #[.slice A0_0 l0_0.length c0_0, .slice A0_1 l0_1.length c0_1]) (t := 24) ?hr ?_; (case hd => rfl); (case hg => rfl); (case hr => first | (go_simp; done) | (go_simp; rfl)); intro gb152 hg w39 hbox hb; replace HO0_0 := zVe HO0_0 hg hb; replace HO0_1 := zVe HO0_1 hg hb; have BK152 := am (hbox); have GW152 := zsz hg (zc0 HB); have GE152 := zsz hg (zc0 HB); replace HB := am (below_step (zc0 HB) hb); clear hb hbox hg) | ((with_reducible refine gate_dst (N := 4) rfl ?_); refine box_event ?hg (N := 4) ?hd (cs := #[.slice none 0 0, .slice none 0 0]) (t := 24) ?hr ?_; (case hd => rfl); (case hg => rfl); (case hr => first | (go_simp; done) | (go_simp; rfl)); intro gb153 hg w40 hbox hb; replace HO0_0 := zVe HO0_0 hg hb; replace HO0_1 := zVe HO0_1 hg hb; have BK153 := am (hbox); have GW153 := zsz hg (zc1 HB GE152); have GE153 := zsz hg (zc1 HB GE152); replace HB := am (below_step (zc1 HB GE152) hb); have NB152_153 := znt BK152 hg; have NB153_152 := zng BK152 hg; replace BK152 := zbb BK152 hb; clear hb hbox hg; have hnb41 := NB152_153.out; have hnc41 := NB153_152.out; have hcz42_0 : w40.cell? ⟨gb152, 0, none⟩ = some (.slice A0_0 l0_0.length c0_0) := (blk_cell BK152.out 0).trans rfl; have hcz42_1 : w40.cell? ⟨gb152, 1, none⟩ = some (.slice A0_1 l0_1.length c0_1) := (blk_cell BK152.out 1).trans rfl; have hfz42_0 := blk_frozen BK152.out 0; have hfz42_1 := blk_frozen BK152.out 1) | ((with_reducible refine gate_callee (f := 19) rfl ?_); refine goesL_ (some 8) rfl rfl Try.func19 (by kernel_rfl) rfl #[.agg #[.slice A0_0 l0_0.length c0_0, .slice A0_1 l0_1.length c0_1]] rfl zm ?_; (with_reducible refine (cond_Right.calls k (fun k_ => ((((P0_0_ k_ ∨ P0_1_ k_) ∨ w.heap.size ≤ k_) ∧ k_ ≠ gb152) ∧ k_ ≠ gb153)) _ _ l0_0 (fun k_ => ((((P0_0_ k_ ∨ P0_1_ k_) ∨ w.heap.size ≤ k_) ∧ k_ ≠ gb152) ∧ k_ ≠ gb153)) _ _ l0_1 false _ ?side1 ?side2 A3.out).mono ?_); (case side1 => exact HO0_0.out); (case side2 => exact HO0_1.out); rintro e w43 ⟨rfl, hb⟩; refine ⟨_, rfl, ?_⟩; replace HO0_0 := zVb HO0_0 hb; replace HO0_1 := zVb HO0_1 hb; replace BK152 := zbb BK152 hb; replace BK153 := zbb BK153 hb; replace HB := am (below_step (zc2 HB GE152 GE153) hb); (try clear hb); (try clear hb2); (try clear hk); (try clear hi); have hcz44_0 : w43.cell? ⟨gb152, 0, none⟩ = some (.slice A0_0 l0_0.length c0_0) := (blk_cell BK152.out 0).trans rfl; have hcz44_1 : w43.cell? ⟨gb152, 1, none⟩ = some (.slice A0_1 l0_1.length c0_1) := (blk_cell BK152.out 1).trans rfl; have hfz44_0 := blk_frozen BK152.out 0; have hfz44_1 := blk_frozen BK152.out 1; have hcz45_0 : w43.cell? ⟨gb153, 0, none⟩ = some (.slice none 0 0) := (blk_cell BK153.out 0).trans rfl; have hcz45_1 : w43.cell? ⟨gb153, 1, none⟩ = some (.slice none 0 0) := (blk_cell BK153.out 1).trans rfl; have hfz45_0 := blk_frozen BK153.out 0; have hfz45_1 := blk_frozen BK153.out 1))
  refine bodyPost_ret (results_ct rfl _ _ gb153 24 #[.slice A0_0 l0_0.length c0_0, .slice A0_1 l0_1.length c0_1] (0, 0) _ rfl (by (with_reducible repeat (first | refine blk_drewN ?_ _ | refine blk_drew ?_ | refine blk_alloc ?_ _)); refine blk_put (cs := #[.slice A0_0 l0_0.length c0_0, .slice none 0 0]) ?_ 1 _ rfl; (with_reducible repeat (first | refine blk_drewN ?_ _ | refine blk_drew ?_ | refine blk_alloc ?_ _)); refine blk_put (cs := #[.slice none 0 0, .slice none 0 0]) ?_ 0 _ rfl; (with_reducible repeat (first | refine blk_drewN ?_ _ | refine blk_drew ?_ | refine blk_alloc ?_ _)); exact BK153.out) Try.underlying24 rfl (by kernel_rfl)) rfl ?_
  exact ⟨_, _, by first | rfl | (simp [errW_none, errW_some] <;> rfl) | (simp [*, errW_none, errW_some] <;> rfl), by (with_reducible repeat (first | apply Kd.V_alloc | apply Kd.V_drewN | apply Kd.V_drew)); exact Kd.V_mono (Kd.V_far (p := ⟨gb153, 1, none⟩) (Kd.V_far (p := ⟨gb153, 0, none⟩) (Kd.V_mono HO0_0.out (fun k_ hk => (⟨hk, hk.2⟩ : _ ∧ k_ ≠ gb153))) (fun _ hk => hk.2) (.slice A0_0 l0_0.length c0_0)) (fun _ hk => hk.2) (.slice A0_1 l0_1.length c0_1)) (fun _ hk => hk.1.1.1), by (with_reducible repeat (first | apply Kd.V_alloc | apply Kd.V_drewN | apply Kd.V_drew)); exact Kd.V_mono (Kd.V_far (p := ⟨gb153, 1, none⟩) (Kd.V_far (p := ⟨gb153, 0, none⟩) (Kd.V_mono HO0_1.out (fun k_ hk => (⟨hk, hk.2⟩ : _ ∧ k_ ≠ gb153))) (fun _ hk => hk.2) (.slice A0_0 l0_0.length c0_0)) (fun _ hk => hk.2) (.slice A0_1 l0_1.length c0_1)) (fun _ hk => hk.1.1.1), by repeat (first | (with_reducible first | exact HB.out | apply below_alloc | apply pw_below_drewN | apply below_drew1 | refine below_set ?_ GE152.out | refine below_set ?_ GE153.out) | exact HB.out)⟩

end Go.Proofs.Ytllmfahkiabkcaa.PCondTells
