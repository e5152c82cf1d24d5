/- Lean functions that say what functions of the given program compute, and proofs by walking the code that each call does just that; no condition but those that each statement names. -/
import Derived.Test.YthbcajkphkdnmaaPSemaTellsx0
namespace Go.Proofs.Ythbcajkphkdnmaa.PSemaTells
open Go.RowKit Go.Proofs.YthbcajkphkdnmaaW.PrintWords Go.Proofs.YthbcajkphkdnmaaW.PrintLast Go.Proofs.YthbcajkphkdnmaaW.PrintMore
attribute [local go_sem] max2_int min2_int max_two min_two max_three min_three max_four min_four   -- for this text's walks alone
set_option linter.unusedVariables false
set_option linter.unusedSimpArgs false

/-! ### handshakerref18_serve: function 30 -/
def handshakerref18_serve.f : Nat → Int → Int → List (S61) → List (S61) → Option (Int × Int × (List (S61)) × (List (S61)))
 | 0, _, _, _, _ => none
 | k + 1, a0_0, a0_1, l0_2, l1 => if (l0_2.length : Int) = 0 then (some (a0_0, a0_1, l0_2, l1)) else (if 0 < (l0_2.length : Int) then (if ((rd_T61 l0_2 0).f1) > a0_1 then (some (a0_0, a0_1, l0_2, l1)) else (if 1 ≤ (l0_2.length : Int) then (if l1.length < 8796093022208 then ((handshakerref18_serve.f k a0_0 (wrap64 (a0_1 - ((rd_T61 l0_2 0).f1))) (l0_2.drop 1) (l1 ++ [(⟨(rd_T61 l0_2 0).f0, (rd_T61 l0_2 0).f1⟩ : S61)])).bind fun bt298 => (some (bt298.1, bt298.2.1, bt298.2.2.1, bt298.2.2.2))) else (none)) else (none))) else (none))
theorem handshakerref18_serve.mono_l : ∀ k, (∀ y0 y1 y2 y3, LeO (handshakerref18_serve.f k y0 y1 y2 y3) (handshakerref18_serve.f (k + 1) y0 y1 y2 y3))
 | 0 => fun _ _ _ _ r h => by simp [handshakerref18_serve.f] at h
 | k + 1 => by
  have ih0 := handshakerref18_serve.mono_l k
  ·intro y0 y1 y2 y3
   unfold handshakerref18_serve.f
   repeat' first
   | (with_reducible exact ih0 _ _ _ _)
   | (with_reducible exact LeO.refl _)
   | (with_reducible exact LeO.none _)
   | (with_reducible refine LeO.ite ?_ ?_)
   | (with_reducible refine LeO.bind ?_ (fun _ => ?_))
   | exact ih0 _ _ _ _
   | exact LeO.none _
   | refine LeO.ite ?_ ?_
   | refine LeO.bind ?_ (fun _ => ?_)
theorem handshakerref18_serve.mono : ∀ a0 a1 a2 a3 k, LeO (handshakerref18_serve.f k a0 a1 a2 a3) (handshakerref18_serve.f (k + 1) a0 a1 a2 a3) := by
 intro a0 a1 a2 a3 k
 have ih0 := handshakerref18_serve.mono_l k
 exact ih0 a0 a1 a2 a3
def handshakerref18_serve.T1 : Bool × List (List Nat × List Nat) := (true, [([], []), ([0], [0]), ([1], [1]), ([2], [2]), ([3], [3]), ([4], [4]), ([5, 4], [4, 5]), ([6, 4], [4, 6]), ([7, 4], [4, 7]), ([8, 4], [4, 8]), ([4], [4]), ([10, 4], [4, 10]), ([9, 11, 4], [4, 9, 11]), ([4, 12], [4, 12])])
def handshakerref18_serve.B1 : List Nat := [0, 1, 3, 7, 15, 31, 63, 127, 255, 511, 31, 1055, 4095, 8191]
theorem handshakerref18_serve.tab1 : rtab .any (opsOf Try.f30 1) = handshakerref18_serve.T1 := by kernel_rfl
theorem handshakerref18_serve.bits1 : waitsOk handshakerref18_serve.T1.2 handshakerref18_serve.B1 = true := by kernel_rfl
def handshakerref18_serve.T4 : Bool × List (List Nat × List Nat) := (true, [([], []), ([0], [0]), ([], []), ([2], [2]), ([], []), ([4], [4]), ([3, 5], [3, 5]), ([], []), ([7], [7]), ([8], [8]), ([1, 6, 9], [1, 6, 9]), ([], []), ([], []), ([12], [12]), ([11, 13], [11, 13]), ([10, 14, 14], [10, 14]), ([15], [15]), ([15], [15]), ([16, 15, 0, 1, 2, 3, 4, 5, 6, 7, 8, 9, 10, 11, 12, 13, 14, 15, 16, 17], [16]), ([17, 18, 0, 1, 2, 3, 4, 5, 6, 7, 8, 9, 10, 11, 12, 13, 14, 15, 16, 17, 18], [17])])
def handshakerref18_serve.B4 : List Nat := [0, 1, 0, 4, 0, 16, 60, 0, 128, 384, 1023, 0, 0, 4096, 14336, 32767, 65535, 65535, 262143, 524287]
theorem handshakerref18_serve.tab4 : rtab .any (opsOf Try.f30 4) = handshakerref18_serve.T4 := by kernel_rfl
theorem handshakerref18_serve.bits4 : waitsOk handshakerref18_serve.T4.2 handshakerref18_serve.B4 = true := by kernel_rfl
set_option maxHeartbeats 8000000 in
set_option maxRecDepth 100000 in
theorem handshakerref18_serve.calls (k : Nat) : ∀ (a0_0 : Int) (a0_1 : Int) (P0_2_ : Nat → Prop) (A0_2 : Option Addr) (c0_2 : Nat) (l0_2 : List (S61)) (P1_ : Nat → Prop) (u9000_ : Value) (l1 : List (S61)) (r1 : Int) (r2 : Int) (r3 : List (S61)) (r4 : List (S61)) (w0 w : World) (hB : Below w0.heap.size w0 w) (hs0_2 : Kd.V k61 61 w w0.heap.size (fun k_ => P0_2_ k_ ∧ some k_ ≠ (u9000_ : Value).ownBlock) (.slice A0_2 l0_2.length c0_2) l0_2) (ho1 : Kd.R k61 61 w w0.heap.size P1_ u9000_ l1) (h : handshakerref18_serve.f k a0_0 a0_1 l0_2 l1 = some (r1, r2, r3, r4)),
  Calls Try.prog 30 #[.agg #[.int .i64 a0_0, .int .i64 a0_1, .slice A0_2 l0_2.length c0_2], u9000_] w fun e w' => ∃ v2_ v3_ : Value, e = .returned (.tuple #[.agg #[.int .i64 r1, .int .i64 r2, v2_], v3_]) ∧ Kd.V k61 61 w' w0.heap.size (fun k_ => ((P1_ k_ ∨ P0_2_ k_) ∨ w.heap.size ≤ k_) ∧ some k_ ≠ (v3_ : Value).ownBlock) v2_ r3 ∧ Kd.R k61 61 w' w0.heap.size (fun k_ => (P1_ k_ ∨ w.heap.size ≤ k_)) v3_ r4 ∧ Below w0.heap.size w0 w' ∧ Kept w w' (fun k_ => P1_ k_) := by
 induction k using Nat.strongRecOn with
 | _ k ih =>
 intro a0_0 a0_1 P0_2_ A0_2 c0_2 l0_2 P1_ u9000_ l1 r1 r2 r3 r4 w0 w hB hs0_2 ho1 h
 cases k with
 | zero => exact absurd h (by simp [handshakerref18_serve.f])
 | succ k =>
 simp only [handshakerref18_serve.f] at h
 have hu28 := Try.underlying28
 have hu61 := Try.underlying61
 have HO0_2 := am (show Kd.V k61 61 w w0.heap.size (fun k_ => ((P1_ k_ ∨ P0_2_ k_) ∨ w.heap.size ≤ k_) ∧ some k_ ≠ (u9000_ : Value).ownBlock) (.slice A0_2 l0_2.length c0_2) l0_2 from Kd.V_mono hs0_2 (fun k_ hk => ⟨.inl (.inr hk.1), hk.2⟩))
 have HO1 := am (show Kd.R k61 61 w w0.heap.size (fun k_ => (P1_ k_ ∨ w.heap.size ≤ k_)) u9000_ l1 from Kd.R_mono ho1 (fun k_ hk => (.inl hk)))
 have HK := am (Kept.refl w (fun k_ => P1_ k_))
 have HW0 := am hB.size
 have HB := am hB
 clear hB
 have H : (if (l0_2.length : Int) = 0 then (some (a0_0, a0_1, l0_2, l1)) else (if 0 < (l0_2.length : Int) then (if ((rd_T61 l0_2 0).f1) > a0_1 then (some (a0_0, a0_1, l0_2, l1)) else (if 1 ≤ (l0_2.length : Int) then (if l1.length < 8796093022208 then ((handshakerref18_serve.f k a0_0 (wrap64 (a0_1 - ((rd_T61 l0_2 0).f1))) (l0_2.drop 1) (l1 ++ [(⟨(rd_T61 l0_2 0).f0, (rd_T61 l0_2 0).f1⟩ : S61)])).bind fun bt298 => (some (bt298.1, bt298.2.1, bt298.2.2.1, bt298.2.2.2))) else (none)) else (none))) else (none))) = some (r1, r2, r3, r4) := h
 clear h
 by_cases c3 : (l0_2.length : Int) = 0
 ·rw [if_pos c3] at H
  have c3b0 : ((l0_2.length : Int) == 0) = true := beq_iff_eq.mpr c3
  have c3b1 : ((l0_2.length : Int) != 0) = false := bne_eq_false_iff_eq.mpr c3
  clear c3
  simp only [Option.some.injEq, Prod.mk.injEq] at H
  obtain ⟨rfl, rfl, rfl, rfl⟩ := H
  go_enter Try.func30, Try.ntmps30
  try go_wp2_with (first | ((with_reducible refine gate_dst (N := 2) rfl ?_); refine box_event ?hg (N := 2) ?hd (cs := #[.int .i64 a0_0, .int .i64 a0_1, .slice A0_2 l0_2.length c0_2]) (t := 28) ?hr ?_; (case hd => rfl); (case hg => rfl); (case hr => first | (go_simp; done) | (go_simp; rfl)); intro gb285 hg w4 hbox hb; replace HO1 := zRb HO1 hb; replace HO0_2 := zVe HO0_2 hg hb; have BK285 := am (hbox); have GW285 := am ((by rw [hg]; exact (by first | exact HK.out.1 | exact (show Kept w _ (fun k_ => P1_ k_) from by repeat (first | (with_reducible first | exact HK.out | apply Kept.alloc | apply Kept.drewN | apply Kept.drew) | exact HK.out)).1) : w.heap.size ≤ gb285)); replace HK := am (Kept.below (S := (fun k_ => P1_ k_)) (by repeat (first | (with_reducible first | exact HK.out | apply Kept.alloc | apply Kept.drewN | apply Kept.drew) | exact HK.out)) hb); have GE285 := am ((by rw [hg]; exact (below_size (zc0 HB)) : w0.heap.size ≤ gb285)); replace HB := am (below_step (zc0 HB) hb); clear hb hbox hg) | ((with_reducible refine gate_dst (N := 4) rfl ?_); refine box_event ?hg (N := 4) ?hd (cs := #[.int .i64 0, .int .i64 0, .slice none 0 0]) (t := 28) ?hr ?_; (case hd => rfl); (case hg => rfl); (case hr => first | (go_simp; done) | (go_simp; rfl)); intro gb286 hg w5 hbox hb; replace HO1 := zRb HO1 hb; replace HO0_2 := zVe HO0_2 hg hb; have BK286 := am (hbox); have GW286 := am ((by rw [hg]; exact (by first | exact HK.out.1 | exact (show Kept w _ (fun k_ => P1_ k_) from by repeat (first | (with_reducible first | exact HK.out | apply Kept.alloc | apply Kept.drewN | apply Kept.drew | refine Kept.setCell ?_ (.inr GW285.out) _) | exact HK.out)).1) : w.heap.size ≤ gb286)); replace HK := am (Kept.below (S := (fun k_ => P1_ k_)) (by repeat (first | (with_reducible first | exact HK.out | apply Kept.alloc | apply Kept.drewN | apply Kept.drew | refine Kept.setCell ?_ (.inr GW285.out) _) | exact HK.out)) hb); have GE286 := am ((by rw [hg]; exact (below_size (zc1 HB GE285)) : w0.heap.size ≤ gb286)); replace HB := am (below_step (zc1 HB GE285) hb); have NB285_286 := znt BK285 hg; have NB286_285 := zng BK285 hg; replace BK285 := zbb BK285 hb; clear hb hbox hg))
  replace HO1 := am (Kd.R_drew HO1.out)
  replace HO0_2 := am (Kd.V_drew HO0_2.out)
  replace BK285 := am (blk_drew BK285.out)
  replace BK286 := am (blk_drew BK286.out)
  replace HK := am (Kept.drew HK.out)
  replace HB := am (below_drew1 HB.out)
  refine start_ (n := 14) (S := fun w' => w'.cell? ⟨gb285, 0, none⟩ = some (.int .i64 a0_0) ∧ w'.cell? ⟨gb285, 1, none⟩ = some (.int .i64 a0_1) ∧ w'.cell? ⟨gb285, 2, none⟩ = some (.slice A0_2 l0_2.length c0_2)) (ds := []) #[false, false, false, false, false, false, false, false, false, false, false, false, false, false] (by kernel_rfl) rfl rfl ⟨(blk_cell BK285.out 0).trans rfl, (blk_cell BK285.out 1).trans rfl, (blk_cell BK285.out 2).trans rfl⟩ (fun hHeld => ?_); refine with_tabW handshakerref18_serve.tab1 handshakerref18_serve.bits1 (fun HT_ HW_ => ?_)
  generalize w5.drew = w6 at HO1 HO0_2 BK285 BK286 HK HB hHeld ⊢
  refine pure_ (i := 0) (N := some 7) (v := ?_) (a' := ?_) #[true, false, false, false, false, false, false, false, false, false, false, false, false, false] rfl rfl (any_of HT_.out (by kernel_rfl)) (fun _ _ _ h => h) (Or.inl ⟨by rfl, ?_⟩) ?_ ?_
  rotate_left
  ·intro w'
   go_simp
   with_reducible rfl
  rotate_left
  ·simp only [Act.put, List.setIfInBounds_toArray, List.set_cons_zero, List.set_cons_succ, i64_w, i32_w]
   rfl
  refine take_ (i := 1) (N := some 8) (v := ?_) (a' := ?_) #[true, true, false, false, false, false, false, false, false, false, false, false, false, false] rfl rfl (take_ofW HT_.out HW_.out (by kernel_rfl)) (fun _ _ _ h => h) (Or.inl ⟨by rfl, ?_⟩) hHeld ?_ ?_
  rotate_left
  ·rintro w' ⟨s0, s1, s2⟩
   go_simp
   with_reducible rfl
  rotate_left
  ·simp only [Act.put, List.setIfInBounds_toArray, List.set_cons_zero, List.set_cons_succ, i64_w, i32_w]
   rfl
  refine pure_ (i := 2) (N := some 9) (v := ?_) (a' := ?_) #[true, true, true, false, false, false, false, false, false, false, false, false, false, false] rfl rfl (any_of HT_.out (by kernel_rfl)) (fun _ _ _ h => h) (Or.inl ⟨by rfl, ?_⟩) ?_ ?_
  rotate_left
  ·intro w'
   go_simp
   with_reducible rfl
  rotate_left
  ·simp only [Act.put, List.setIfInBounds_toArray, List.set_cons_zero, List.set_cons_succ, i64_w, i32_w]
   rfl
  refine pure_ (i := 3) (N := some 10) (v := ?_) (a' := ?_) #[true, true, true, true, false, false, false, false, false, false, false, false, false, false] rfl rfl (any_of HT_.out (by kernel_rfl)) (fun _ _ _ h => h) (Or.inl ⟨by rfl, ?_⟩) ?_ ?_
  rotate_left
  ·intro w'
   go_simp
   with_reducible rfl
  rotate_left
  ·simp only [Act.put, List.setIfInBounds_toArray, List.set_cons_zero, List.set_cons_succ, i64_w, i32_w]
   rfl
  refine pure_ (i := 4) (N := some 11) (v := ?_) (a' := ?_) #[true, true, true, true, true, false, false, false, false, false, false, false, false, false] rfl rfl (any_of HT_.out (by kernel_rfl)) (fun _ _ _ h => h) (Or.inl ⟨by rfl, ?_⟩) ?_ ?_
  rotate_left
  ·intro w'
   go_simp
   with_reducible rfl
  rotate_left
  ·simp only [Act.put, List.setIfInBounds_toArray, List.set_cons_zero, List.set_cons_succ, i64_w, i32_w]
   rfl
  refine pure_ (i := 5) (N := some 12) (v := undef) (a' := ?_) #[true, true, true, true, true, true, false, false, false, false, false, false, false, false] rfl rfl (any_of HT_.out (by kernel_rfl)) (fun _ _ _ h => h) (Or.inr ⟨by rfl, rfl⟩) ?_ ?_
  rotate_left
  ·simp only [Act.put, List.setIfInBounds_toArray, List.set_cons_zero, List.set_cons_succ, i64_w, i32_w]
   rfl
  refine pure_ (i := 6) (N := some 13) (v := undef) (a' := ?_) #[true, true, true, true, true, true, true, false, false, false, false, false, false, false] rfl rfl (any_of HT_.out (by kernel_rfl)) (fun _ _ _ h => h) (Or.inr ⟨by rfl, rfl⟩) ?_ ?_
  rotate_left
  ·simp only [Act.put, List.setIfInBounds_toArray, List.set_cons_zero, List.set_cons_succ, i64_w, i32_w]
   rfl
  refine pure_ (i := 7) (N := some 14) (v := undef) (a' := ?_) #[true, true, true, true, true, true, true, true, false, false, false, false, false, false] rfl rfl (any_of HT_.out (by kernel_rfl)) (fun _ _ _ h => h) (Or.inr ⟨by rfl, rfl⟩) ?_ ?_
  rotate_left
  ·simp only [Act.put, List.setIfInBounds_toArray, List.set_cons_zero, List.set_cons_succ, i64_w, i32_w]
   rfl
  refine pure_ (i := 8) (N := some 15) (v := undef) (a' := ?_) #[true, true, true, true, true, true, true, true, true, false, false, false, false, false] rfl rfl (any_of HT_.out (by kernel_rfl)) (fun _ _ _ h => h) (Or.inr ⟨by rfl, rfl⟩) ?_ ?_
  rotate_left
  ·simp only [Act.put, List.setIfInBounds_toArray, List.set_cons_zero, List.set_cons_succ, i64_w, i32_w]
   rfl
  refine pure_ (i := 9) (N := some 16) (v := undef) (a' := ?_) #[true, true, true, true, true, true, true, true, true, true, false, false, false, false] rfl rfl (any_of HT_.out (by kernel_rfl)) (fun _ _ _ h => h) (Or.inr ⟨by rfl, rfl⟩) ?_ ?_
  rotate_left
  ·simp only [Act.put, List.setIfInBounds_toArray, List.set_cons_zero, List.set_cons_succ, i64_w, i32_w]
   rfl
  refine pure_ (i := 10) (N := some 17) (v := undef) (a' := ?_) #[true, true, true, true, true, true, true, true, true, true, true, false, false, false] rfl rfl (any_of HT_.out (by kernel_rfl)) (fun _ _ _ h => h) (Or.inr ⟨by rfl, rfl⟩) ?_ ?_
  rotate_left
  ·simp only [Act.put, List.setIfInBounds_toArray, List.set_cons_zero, List.set_cons_succ, i64_w, i32_w]
   rfl
  refine pure_ (i := 11) (N := some 18) (v := undef) (a' := ?_) #[true, true, true, true, true, true, true, true, true, true, true, true, false, false] rfl rfl (any_of HT_.out (by kernel_rfl)) (fun _ _ _ h => h) (Or.inr ⟨by rfl, rfl⟩) ?_ ?_
  rotate_left
  ·simp only [Act.put, List.setIfInBounds_toArray, List.set_cons_zero, List.set_cons_succ, i64_w, i32_w]
   rfl
  refine pure_ (i := 12) (N := some 19) (v := undef) (a' := ?_) #[true, true, true, true, true, true, true, true, true, true, true, true, true, false] rfl rfl (any_of HT_.out (by kernel_rfl)) (fun _ _ _ h => h) (Or.inr ⟨by rfl, rfl⟩) ?_ ?_
  rotate_left
  ·simp only [Act.put, List.setIfInBounds_toArray, List.set_cons_zero, List.set_cons_succ, i64_w, i32_w]
   rfl
  refine pure_ (i := 13) (N := some 20) (v := ?_) (a' := ?_) #[true, true, true, true, true, true, true, true, true, true, true, true, true, true] rfl rfl (any_of HT_.out (by kernel_rfl)) (fun _ _ _ h => h) (Or.inl ⟨by rfl, ?_⟩) ?_ ?_
  rotate_left
  ·intro w'
   go_simp
   with_reducible rfl
  rotate_left
  ·simp only [Act.put, List.setIfInBounds_toArray, List.set_cons_zero, List.set_cons_succ, i64_w, i32_w]
   rfl
  refine done_ (done_of HT_.out (by kernel_rfl)) ?_
  have hnb7 := NB285_286.out
  have hnc7 := NB286_285.out
  have hcz8_0 : w6.cell? ⟨gb285, 0, none⟩ = some (.int .i64 a0_0) := (blk_cell BK285.out 0).trans rfl
  have hcz8_1 : w6.cell? ⟨gb285, 1, none⟩ = some (.int .i64 a0_1) := (blk_cell BK285.out 1).trans rfl
  have hcz8_2 : w6.cell? ⟨gb285, 2, none⟩ = some (.slice A0_2 l0_2.length c0_2) := (blk_cell BK285.out 2).trans rfl
  have hfz8_0 := blk_frozen BK285.out 0
  have hfz8_1 := blk_frozen BK285.out 1
  have hfz8_2 := blk_frozen BK285.out 2
  have hcz9_0 : w6.cell? ⟨gb286, 0, none⟩ = some (.int .i64 0) := (blk_cell BK286.out 0).trans rfl
  have hcz9_1 : w6.cell? ⟨gb286, 1, none⟩ = some (.int .i64 0) := (blk_cell BK286.out 1).trans rfl
  have hcz9_2 : w6.cell? ⟨gb286, 2, none⟩ = some (.slice none 0 0) := (blk_cell BK286.out 2).trans rfl
  have hfz9_0 := blk_frozen BK286.out 0
  have hfz9_1 := blk_frozen BK286.out 1
  have hfz9_2 := blk_frozen BK286.out 2
  try go_wp2
  refine bodyPost_ret (results_ct rfl _ _ gb286 28 #[.int .i64 a0_0, .int .i64 a0_1, .slice A0_2 l0_2.length c0_2] (0, 0) _ rfl (by (with_reducible repeat (first | refine blk_drewN ?_ _ | refine blk_drew ?_ | refine blk_alloc ?_ _)); refine blk_put (cs := #[.int .i64 a0_0, .int .i64 a0_1, .slice none 0 0]) ?_ 2 _ rfl; (with_reducible repeat (first | refine blk_drewN ?_ _ | refine blk_drew ?_ | refine blk_alloc ?_ _)); refine blk_put (cs := #[.int .i64 a0_0, .int .i64 0, .slice none 0 0]) ?_ 1 _ rfl; (with_reducible repeat (first | refine blk_drewN ?_ _ | refine blk_drew ?_ | refine blk_alloc ?_ _)); refine blk_put (cs := #[.int .i64 0, .int .i64 0, .slice none 0 0]) ?_ 0 _ rfl; (with_reducible repeat (first | refine blk_drewN ?_ _ | refine blk_drew ?_ | refine blk_alloc ?_ _)); exact BK286.out) Try.underlying28 rfl (by kernel_rfl)) rfl ?_
  exact ⟨_, _, by first | rfl | (simp [errW_none, errW_some] <;> rfl) | (simp [*, errW_none, errW_some] <;> rfl), by (with_reducible repeat (first | apply Kd.V_alloc | apply Kd.V_drewN | apply Kd.V_drew)); exact Kd.V_mono (Kd.V_far (p := ⟨gb286, 2, none⟩) (Kd.V_far (p := ⟨gb286, 1, none⟩) (Kd.V_far (p := ⟨gb286, 0, none⟩) (Kd.V_mono HO0_2.out (fun k_ hk => (⟨hk, hk.2⟩ : _ ∧ k_ ≠ gb286))) (fun _ hk => hk.2) (.int .i64 a0_0)) (fun _ hk => hk.2) (.int .i64 a0_1)) (fun _ hk => hk.2) (.slice A0_2 l0_2.length c0_2)) (fun _ hk => ⟨hk.1.1.1.1, hk.1.1.1.2⟩), by (with_reducible repeat (first | apply Kd.R_alloc | apply Kd.R_drewN | apply Kd.R_drew)); exact Kd.R_mono (Kd.R_far (p := ⟨gb286, 2, none⟩) (Kd.R_far (p := ⟨gb286, 1, none⟩) (Kd.R_far (p := ⟨gb286, 0, none⟩) (Kd.R_types HO1.out BK286.out (by decide)) (fun _ hk => hk.2) (.int .i64 a0_0)) (fun _ hk => hk.2) (.int .i64 a0_1)) (fun _ hk => hk.2) (.slice A0_2 l0_2.length c0_2)) (fun _ hk => hk.1), by repeat (first | (with_reducible first | exact HB.out | apply below_alloc | apply pw_below_drewN | apply below_drew1 | refine below_set ?_ GE285.out | refine below_set ?_ GE286.out) | exact HB.out), by repeat (first | (with_reducible first | exact HK.out | apply Kept.alloc | apply Kept.drewN | apply Kept.drew | refine Kept.setCell ?_ (.inr GW285.out) _ | refine Kept.setCell ?_ (.inr GW286.out) _) | exact HK.out)⟩
 ·rw [if_neg c3] at H
  have c3b0 : ((l0_2.length : Int) == 0) = false := beq_eq_false_iff_ne.mpr c3
  have c3b1 : ((l0_2.length : Int) != 0) = true := bne_iff_ne.mpr c3
  have c3b2 : ¬ (l0_2 = []) := fun h_ => c3 (by rw [h_]; rfl)
  by_cases c10 : 0 < (l0_2.length : Int)
  ·rw [if_pos c10] at H
   have c10b0 : decide (0 < (l0_2.length : Int)) = true := decide_eq_true c10
   have c10b1 : decide (0 < l0_2.length) = true := decide_eq_true (by omega)
   clear c10
   by_cases c11 : ((rd_T61 l0_2 0).f1) > a0_1
   ·rw [if_pos c11] at H
    have c11b0 : decide (a0_1 < ((rd_T61 l0_2 0).f1)) = true := decide_eq_true c11
    clear c11
    simp only [Option.some.injEq, Prod.mk.injEq] at H
    obtain ⟨rfl, rfl, rfl, rfl⟩ := H
    go_enter Try.func30, Try.ntmps30
    try go_wp2_with (first | ((with_reducible refine gate_dst (N := 2) rfl ?_); refine box_event ?hg (N := 2) ?hd (cs := #[.int .i64 a0_0, .int .i64 a0_1, .slice A0_2 l0_2.length c0_2]) (t := 28) ?hr ?_; (case hd => rfl); (case hg => rfl); (case hr => first | (go_simp; done) | (go_simp; rfl)); intro gb285 hg w12 hbox hb; replace HO1 := zRb HO1 hb; replace HO0_2 := zVe HO0_2 hg hb; have BK285 := am (hbox); have GW285 := am ((by rw [hg]; exact (by first | exact HK.out.1 | exact (show Kept w _ (fun k_ => P1_ k_) from by repeat (first | (with_reducible first | exact HK.out | apply Kept.alloc | apply Kept.drewN | apply Kept.drew) | exact HK.out)).1) : w.heap.size ≤ gb285)); replace HK := am (Kept.below (S := (fun k_ => P1_ k_)) (by repeat (first | (with_reducible first | exact HK.out | apply Kept.alloc | apply Kept.drewN | apply Kept.drew) | exact HK.out)) hb); have GE285 := am ((by rw [hg]; exact (below_size (zc0 HB)) : w0.heap.size ≤ gb285)); replace HB := am (below_step (zc0 HB) hb); clear hb hbox hg) | ((with_reducible refine gate_dst (N := 4) rfl ?_); refine box_event ?hg (N := 4) ?hd (cs := #[.int .i64 0, .int .i64 0, .slice none 0 0]) (t := 28) ?hr ?_; (case hd => rfl); (case hg => rfl); (case hr => first | (go_simp; done) | (go_simp; rfl)); intro gb286 hg w13 hbox hb; replace HO1 := zRb HO1 hb; replace HO0_2 := zVe HO0_2 hg hb; have BK286 := am (hbox); have GW286 := am ((by rw [hg]; exact (by first | exact HK.out.1 | exact (show Kept w _ (fun k_ => P1_ k_) from by repeat (first | (with_reducible first | exact HK.out | apply Kept.alloc | apply Kept.drewN | apply Kept.drew | refine Kept.setCell ?_ (.inr GW285.out) _) | exact HK.out)).1) : w.heap.size ≤ gb286)); replace HK := am (Kept.below (S := (fun k_ => P1_ k_)) (by repeat (first | (with_reducible first | exact HK.out | apply Kept.alloc | apply Kept.drewN | apply Kept.drew | refine Kept.setCell ?_ (.inr GW285.out) _) | exact HK.out)) hb); have GE286 := am ((by rw [hg]; exact (below_size (zc1 HB GE285)) : w0.heap.size ≤ gb286)); replace HB := am (below_step (zc1 HB GE285) hb); have NB285_286 := znt BK285 hg; have NB286_285 := zng BK285 hg; replace BK285 := zbb BK285 hb; clear hb hbox hg))
    replace HO1 := am (Kd.R_drew HO1.out)
    replace HO0_2 := am (Kd.V_drew HO0_2.out)
    replace BK285 := am (blk_drew BK285.out)
    replace BK286 := am (blk_drew BK286.out)
    replace HK := am (Kept.drew HK.out)
    replace HB := am (below_drew1 HB.out)
    have p287 : 0 ≤ (0 : Int) := (by omega)
    have q287 : 0 < (l0_2.length : Int) := of_decide_eq_true (by first | (with_reducible assumption) | assumption)
    have NV287 := am (show 0 < l0_2.length from by omega)
    obtain ⟨ad287, e287, hx287_0, hx287_1⟩ := at_T61 (Kd.V_reads' HO0_2.out).2.2 0 p287 q287
    cases e287
    have qi287 : (0 < l0_2.length) = True := eq_true (by omega)
    (try rw [show ((0 : Int)).toNat = 0 from rfl] at hx287_0)
    (try rw [show 0 * 2 = 0 from rfl] at hx287_0)
    (try rw [Addr.add_zero'] at hx287_0)
    (try rw [show ((0 : Int)).toNat = 0 from rfl] at hx287_1)
    (try rw [show 0 * 2 = 0 from rfl] at hx287_1)
    (try rw [Addr.add_zero'] at hx287_1)
    replace p287 := eq_true p287
    replace q287 := eq_true q287
    refine start_ (n := 14) (S := fun w' => w'.cell? ⟨gb285, 0, none⟩ = some (.int .i64 a0_0) ∧ w'.cell? ⟨gb285, 1, none⟩ = some (.int .i64 a0_1) ∧ w'.cell? ⟨gb285, 2, none⟩ = some (.slice (some ad287) l0_2.length c0_2) ∧ w'.cell? ad287 = some (.int .i64 ((rd_T61 l0_2 0).f0)) ∧ w'.cell? ⟨ad287.block, ad287.off + 1, none⟩ = some (.int .i64 ((rd_T61 l0_2 0).f1))) (ds := []) #[false, false, false, false, false, false, false, false, false, false, false, false, false, false] (by kernel_rfl) rfl rfl ⟨(blk_cell BK285.out 0).trans rfl, (blk_cell BK285.out 1).trans rfl, (blk_cell BK285.out 2).trans rfl, hx287_0, hx287_1⟩ (fun hHeld => ?_); refine with_tabW handshakerref18_serve.tab1 handshakerref18_serve.bits1 (fun HT_ HW_ => ?_)
    generalize w13.drew = w14 at HO1 HO0_2 BK285 BK286 HK HB hx287_0 hx287_1 hHeld ⊢
    refine pure_ (i := 0) (N := some 7) (v := ?_) (a' := ?_) #[true, false, false, false, false, false, false, false, false, false, false, false, false, false] rfl rfl (any_of HT_.out (by kernel_rfl)) (fun _ _ _ h => h) (Or.inl ⟨by rfl, ?_⟩) ?_ ?_
    rotate_left
    ·intro w'
     go_simp
     with_reducible rfl
    rotate_left
    ·simp only [Act.put, List.setIfInBounds_toArray, List.set_cons_zero, List.set_cons_succ, i64_w, i32_w]
     rfl
    refine take_ (i := 1) (N := some 8) (v := ?_) (a' := ?_) #[true, true, false, false, false, false, false, false, false, false, false, false, false, false] rfl rfl (take_ofW HT_.out HW_.out (by kernel_rfl)) (fun _ _ _ h => h) (Or.inl ⟨by rfl, ?_⟩) hHeld ?_ ?_
    rotate_left
    ·rintro w' ⟨s0, s1, s2, s3, s4⟩
     go_simp
     with_reducible rfl
    rotate_left
    ·simp only [Act.put, List.setIfInBounds_toArray, List.set_cons_zero, List.set_cons_succ, i64_w, i32_w]
     rfl
    refine pure_ (i := 2) (N := some 9) (v := ?_) (a' := ?_) #[true, true, true, false, false, false, false, false, false, false, false, false, false, false] rfl rfl (any_of HT_.out (by kernel_rfl)) (fun _ _ _ h => h) (Or.inl ⟨by rfl, ?_⟩) ?_ ?_
    rotate_left
    ·intro w'
     go_simp
     with_reducible rfl
    rotate_left
    ·simp only [Act.put, List.setIfInBounds_toArray, List.set_cons_zero, List.set_cons_succ, i64_w, i32_w]
     rfl
    refine pure_ (i := 3) (N := some 10) (v := ?_) (a' := ?_) #[true, true, true, true, false, false, false, false, false, false, false, false, false, false] rfl rfl (any_of HT_.out (by kernel_rfl)) (fun _ _ _ h => h) (Or.inl ⟨by rfl, ?_⟩) ?_ ?_
    rotate_left
    ·intro w'
     go_simp
     with_reducible rfl
    rotate_left
    ·simp only [Act.put, List.setIfInBounds_toArray, List.set_cons_zero, List.set_cons_succ, i64_w, i32_w]
     rfl
    refine pure_ (i := 4) (N := some 11) (v := ?_) (a' := ?_) #[true, true, true, true, true, false, false, false, false, false, false, false, false, false] rfl rfl (any_of HT_.out (by kernel_rfl)) (fun _ _ _ h => h) (Or.inl ⟨by rfl, ?_⟩) ?_ ?_
    rotate_left
    ·intro w'
     go_simp
     with_reducible rfl
    rotate_left
    ·simp only [Act.put, List.setIfInBounds_toArray, List.set_cons_zero, List.set_cons_succ, i64_w, i32_w]
     rfl
    refine pure_ (i := 5) (N := some 12) (v := ?_) (a' := ?_) #[true, true, true, true, true, true, false, false, false, false, false, false, false, false] rfl rfl (any_of HT_.out (by kernel_rfl)) (fun _ _ _ h => h) (Or.inl ⟨by rfl, ?_⟩) ?_ ?_
    rotate_left
    ·intro w'
     go_simp
     with_reducible rfl
    rotate_left
    ·simp only [Act.put, List.setIfInBounds_toArray, List.set_cons_zero, List.set_cons_succ, i64_w, i32_w]
     rfl
    refine pure_ (i := 10) (N := some 17) (v := ?_) (a' := ?_) #[true, true, true, true, true, true, false, false, false, false, true, false, false, false] rfl rfl (any_of HT_.out (by kernel_rfl)) (fun _ _ _ h => h) (Or.inl ⟨by rfl, ?_⟩) ?_ ?_
    rotate_left
    ·intro w'
     go_simp
     with_reducible rfl
    rotate_left
    ·simp only [Act.put, List.setIfInBounds_toArray, List.set_cons_zero, List.set_cons_succ, i64_w, i32_w]
     rfl
    refine take_ (i := 6) (N := some 13) (v := ?_) (a' := ?_) #[true, true, true, true, true, true, true, false, false, false, true, false, false, false] rfl rfl (take_ofW HT_.out HW_.out (by kernel_rfl)) (fun _ _ _ h => h) (Or.inl ⟨by rfl, ?_⟩) hHeld ?_ ?_
    rotate_left
    ·rintro w' ⟨s0, s1, s2, s3, s4⟩
     go_simp
     with_reducible rfl
    rotate_left
    ·simp only [Act.put, List.setIfInBounds_toArray, List.set_cons_zero, List.set_cons_succ, i64_w, i32_w]
     rfl
    refine pure_ (i := 7) (N := some 14) (v := ?_) (a' := ?_) #[true, true, true, true, true, true, true, true, false, false, true, false, false, false] rfl rfl (any_of HT_.out (by kernel_rfl)) (fun _ _ _ h => h) (Or.inl ⟨by rfl, ?_⟩) ?_ ?_
    rotate_left
    ·intro w'
     go_simp
     with_reducible rfl
    rotate_left
    ·simp only [Act.put, List.setIfInBounds_toArray, List.set_cons_zero, List.set_cons_succ, i64_w, i32_w]
     rfl
    refine pure_ (i := 8) (N := some 15) (v := ?_) (a' := ?_) #[true, true, true, true, true, true, true, true, true, false, true, false, false, false] rfl rfl (any_of HT_.out (by kernel_rfl)) (fun _ _ _ h => h) (Or.inl ⟨by rfl, ?_⟩) ?_ ?_
    rotate_left
    ·intro w'
     go_simp
     with_reducible rfl
    rotate_left
    ·simp only [Act.put, List.setIfInBounds_toArray, List.set_cons_zero, List.set_cons_succ, i64_w, i32_w]
     rfl
    refine take_ (i := 9) (N := some 16) (v := ?_) (a' := ?_) #[true, true, true, true, true, true, true, true, true, true, true, false, false, false] rfl rfl (take_ofW HT_.out HW_.out (by kernel_rfl)) (fun _ _ _ h => h) (Or.inl ⟨by rfl, ?_⟩) hHeld ?_ ?_
    rotate_left
    ·rintro w' ⟨s0, s1, s2, s3, s4⟩
     go_simp
     with_reducible rfl
    rotate_left
    ·simp only [Act.put, List.setIfInBounds_toArray, List.set_cons_zero, List.set_cons_succ, i64_w, i32_w]
     rfl
    refine take_ (i := 11) (N := some 18) (v := ?_) (a' := ?_) #[true, true, true, true, true, true, true, true, true, true, true, true, false, false] rfl rfl (take_ofW HT_.out HW_.out (by kernel_rfl)) (fun _ _ _ h => h) (Or.inl ⟨by rfl, ?_⟩) hHeld ?_ ?_
    rotate_left
    ·rintro w' ⟨s0, s1, s2, s3, s4⟩
     go_simp
     with_reducible rfl
    rotate_left
    ·simp only [Act.put, List.setIfInBounds_toArray, List.set_cons_zero, List.set_cons_succ, i64_w, i32_w]
     rfl
    refine pure_ (i := 12) (N := some 19) (v := ?_) (a' := ?_) #[true, true, true, true, true, true, true, true, true, true, true, true, true, false] rfl rfl (any_of HT_.out (by kernel_rfl)) (fun _ _ _ h => h) (Or.inl ⟨by rfl, ?_⟩) ?_ ?_
    rotate_left
    ·intro w'
     go_simp
     with_reducible rfl
    rotate_left
    ·simp only [Act.put, List.setIfInBounds_toArray, List.set_cons_zero, List.set_cons_succ, i64_w, i32_w]
     rfl
    refine pure_ (i := 13) (N := some 20) (v := ?_) (a' := ?_) #[true, true, true, true, true, true, true, true, true, true, true, true, true, true] rfl rfl (any_of HT_.out (by kernel_rfl)) (fun _ _ _ h => h) (Or.inl ⟨by rfl, ?_⟩) ?_ ?_
    rotate_left
    ·intro w'
     go_simp
     with_reducible rfl
    rotate_left
    ·simp only [Act.put, List.setIfInBounds_toArray, List.set_cons_zero, List.set_cons_succ, i64_w, i32_w]
     rfl
    refine done_ (done_of HT_.out (by kernel_rfl)) ?_
    have hnb15 := NB285_286.out
    have hnc15 := NB286_285.out
    have hcz16_0 : w14.cell? ⟨gb285, 0, none⟩ = some (.int .i64 a0_0) := (blk_cell BK285.out 0).trans rfl
    have hcz16_1 : w14.cell? ⟨gb285, 1, none⟩ = some (.int .i64 a0_1) := (blk_cell BK285.out 1).trans rfl
    have hcz16_2 : w14.cell? ⟨gb285, 2, none⟩ = some (.slice (some ad287) l0_2.length c0_2) := (blk_cell BK285.out 2).trans rfl
    have hfz16_0 := blk_frozen BK285.out 0
    have hfz16_1 := blk_frozen BK285.out 1
    have hfz16_2 := blk_frozen BK285.out 2
    have hcz17_0 : w14.cell? ⟨gb286, 0, none⟩ = some (.int .i64 0) := (blk_cell BK286.out 0).trans rfl
    have hcz17_1 : w14.cell? ⟨gb286, 1, none⟩ = some (.int .i64 0) := (blk_cell BK286.out 1).trans rfl
    have hcz17_2 : w14.cell? ⟨gb286, 2, none⟩ = some (.slice none 0 0) := (blk_cell BK286.out 2).trans rfl
    have hfz17_0 := blk_frozen BK286.out 0
    have hfz17_1 := blk_frozen BK286.out 1
    have hfz17_2 := blk_frozen BK286.out 2
    try go_wp2
    refine bodyPost_ret (results_ct rfl _ _ gb286 28 #[.int .i64 a0_0, .int .i64 a0_1, .slice (some ad287) l0_2.length c0_2] (0, 0) _ rfl (by (with_reducible repeat (first | refine blk_drewN ?_ _ | refine blk_drew ?_ | refine blk_alloc ?_ _)); refine blk_put (cs := #[.int .i64 a0_0, .int .i64 a0_1, .slice none 0 0]) ?_ 2 _ rfl; (with_reducible repeat (first | refine blk_drewN ?_ _ | refine blk_drew ?_ | refine blk_alloc ?_ _)); refine blk_put (cs := #[.int .i64 a0_0, .int .i64 0, .slice none 0 0]) ?_ 1 _ rfl; (with_reducible repeat (first | refine blk_drewN ?_ _ | refine blk_drew ?_ | refine blk_alloc ?_ _)); refine blk_put (cs := #[.int .i64 0, .int .i64 0, .slice none 0 0]) ?_ 0 _ rfl; (with_reducible repeat (first | refine blk_drewN ?_ _ | refine blk_drew ?_ | refine blk_alloc ?_ _)); exact BK286.out) Try.underlying28 rfl (by kernel_rfl)) rfl ?_
    exact ⟨_, _, by first | rfl | (simp [errW_none, errW_some] <;> rfl) | (simp [*, errW_none, errW_some] <;> rfl), by (with_reducible repeat (first | apply Kd.V_alloc | apply Kd.V_drewN | apply Kd.V_drew)); exact Kd.V_mono (Kd.V_far (p := ⟨gb286, 2, none⟩) (Kd.V_far (p := ⟨gb286, 1, none⟩) (Kd.V_far (p := ⟨gb286, 0, none⟩) (Kd.V_mono HO0_2.out (fun k_ hk => (⟨hk, hk.2⟩ : _ ∧ k_ ≠ gb286))) (fun _ hk => hk.2) (.int .i64 a0_0)) (fun _ hk => hk.2) (.int .i64 a0_1)) (fun _ hk => hk.2) (.slice (some ad287) l0_2.length c0_2)) (fun _ hk => ⟨hk.1.1.1.1, hk.1.1.1.2⟩), by (with_reducible repeat (first | apply Kd.R_alloc | apply Kd.R_drewN | apply Kd.R_drew)); exact Kd.R_mono (Kd.R_far (p := ⟨gb286, 2, none⟩) (Kd.R_far (p := ⟨gb286, 1, none⟩) (Kd.R_far (p := ⟨gb286, 0, none⟩) (Kd.R_types HO1.out BK286.out (by decide)) (fun _ hk => hk.2) (.int .i64 a0_0)) (fun _ hk => hk.2) (.int .i64 a0_1)) (fun _ hk => hk.2) (.slice (some ad287) l0_2.length c0_2)) (fun _ hk => hk.1), by repeat (first | (with_reducible first | exact HB.out | apply below_alloc | apply pw_below_drewN | apply below_drew1 | refine below_set ?_ GE285.out | refine below_set ?_ GE286.out) | exact HB.out), by repeat (first | (with_reducible first | exact HK.out | apply Kept.alloc | apply Kept.drewN | apply Kept.drew | refine Kept.setCell ?_ (.inr GW285.out) _ | refine Kept.setCell ?_ (.inr GW286.out) _) | exact HK.out)⟩
   ·rw [if_neg c11] at H
    have c11b0 : decide (a0_1 < ((rd_T61 l0_2 0).f1)) = false := decide_eq_false c11
    clear c11
    by_cases c18 : 1 ≤ (l0_2.length : Int)
    ·rw [if_pos c18] at H
     have c18b0 := eq_true c18
     have c18b1 : decide (1 ≤ (l0_2.length : Int)) = true := decide_eq_true c18
     clear c18
     obtain ⟨y290, hy290⟩ : ∃ y_ : List (S61), y_ = (l0_2.drop 1) := ⟨_, rfl⟩
     replace H : (if l1.length < 8796093022208 then ((handshakerref18_serve.f k a0_0 (wrap64 (a0_1 - ((rd_T61 l0_2 0).f1))) y290 (l1 ++ [(⟨(rd_T61 l0_2 0).f0, (rd_T61 l0_2 0).f1⟩ : S61)])).bind fun bt298 => (some (bt298.1, bt298.2.1, bt298.2.2.1, bt298.2.2.2))) else (none)) = some (r1, r2, r3, r4) := by first | (rw [hy290]; with_reducible exact H) | (have H2_ := (Option.bind_some _ _).symm.trans H; rw [hy290]; with_reducible exact H2_) | (have H2_ := (Option.bind_some _ _).symm.trans H; with_reducible exact H2_) | with_reducible exact H | (rw [hy290]; exact H) | exact H
     have Ny290 := am hy290
     clear hy290
     by_cases c19 : l1.length < 8796093022208
     ·rw [if_pos c19] at H
      have LMc19 := am c19
      clear c19
      obtain ⟨y295, hy295⟩ : ∃ y_ : List (S61), y_ = (l1 ++ [(⟨(rd_T61 l0_2 0).f0, (rd_T61 l0_2 0).f1⟩ : S61)]) := ⟨_, rfl⟩
      replace H : ((handshakerref18_serve.f k a0_0 (wrap64 (a0_1 - ((rd_T61 l0_2 0).f1))) y290 y295).bind fun bt298 => (some (bt298.1, bt298.2.1, bt298.2.2.1, bt298.2.2.2))) = some (r1, r2, r3, r4) := by first | (rw [hy295]; with_reducible exact H) | (have H2_ := (Option.bind_some _ _).symm.trans H; rw [hy295]; with_reducible exact H2_) | (have H2_ := (Option.bind_some _ _).symm.trans H; with_reducible exact H2_) | with_reducible exact H | (rw [hy295]; exact H) | exact H
      have Ny295 := am hy295
      clear hy295
      replace H := Option.bind_eq_some_iff.mp H
      obtain ⟨⟨t298, t299, t300, t303⟩, A200, H⟩ := H
      try dsimp only at H
      have A20 := am A200
      clear A200
      simp only [Option.some.injEq, Prod.mk.injEq] at H
      obtain ⟨rfl, rfl, rfl, rfl⟩ := H
      go_enter Try.func30, Try.ntmps30
      try go_wp2_with (first | ((with_reducible refine gate_dst (N := 2) rfl ?_); refine box_event ?hg (N := 2) ?hd (cs := #[.int .i64 a0_0, .int .i64 a0_1, .slice A0_2 l0_2.length c0_2]) (t := 28) ?hr ?_; (case hd => rfl); (case hg => rfl); (case hr => first | (go_simp; done) | (go_simp; rfl)); intro gb285 hg w21 hbox hb; replace HO1 := zRb HO1 hb; replace HO0_2 := zVe HO0_2 hg hb; have BK285 := am (hbox); have GW285 := am ((by rw [hg]; exact (by first | exact HK.out.1 | exact (show Kept w _ (fun k_ => P1_ k_) from by repeat (first | (with_reducible first | exact HK.out | apply Kept.alloc | apply Kept.drewN | apply Kept.drew) | exact HK.out)).1) : w.heap.size ≤ gb285)); replace HK := am (Kept.below (S := (fun k_ => P1_ k_)) (by repeat (first | (with_reducible first | exact HK.out | apply Kept.alloc | apply Kept.drewN | apply Kept.drew) | exact HK.out)) hb); have GE285 := am ((by rw [hg]; exact (below_size (zc0 HB)) : w0.heap.size ≤ gb285)); replace HB := am (below_step (zc0 HB) hb); clear hb hbox hg) | ((with_reducible refine gate_dst (N := 4) rfl ?_); refine box_event ?hg (N := 4) ?hd (cs := #[.int .i64 0, .int .i64 0, .slice none 0 0]) (t := 28) ?hr ?_; (case hd => rfl); (case hg => rfl); (case hr => first | (go_simp; done) | (go_simp; rfl)); intro gb286 hg w22 hbox hb; replace HO1 := zRb HO1 hb; replace HO0_2 := zVe HO0_2 hg hb; have BK286 := am (hbox); have GW286 := am ((by rw [hg]; exact (by first | exact HK.out.1 | exact (show Kept w _ (fun k_ => P1_ k_) from by repeat (first | (with_reducible first | exact HK.out | apply Kept.alloc | apply Kept.drewN | apply Kept.drew | refine Kept.setCell ?_ (.inr GW285.out) _) | exact HK.out)).1) : w.heap.size ≤ gb286)); replace HK := am (Kept.below (S := (fun k_ => P1_ k_)) (by repeat (first | (with_reducible first | exact HK.out | apply Kept.alloc | apply Kept.drewN | apply Kept.drew | refine Kept.setCell ?_ (.inr GW285.out) _) | exact HK.out)) hb); have GE286 := am ((by rw [hg]; exact (below_size (zc1 HB GE285)) : w0.heap.size ≤ gb286)); replace HB := am (below_step (zc1 HB GE285) hb); have NB285_286 := znt BK285 hg; have NB286_285 := zng BK285 hg; replace BK285 := zbb BK285 hb; clear hb hbox hg))
      replace HO1 := am (Kd.R_drew HO1.out)
      replace HO0_2 := am (Kd.V_drew HO0_2.out)
      replace BK285 := am (blk_drew BK285.out)
      replace BK286 := am (blk_drew BK286.out)
      replace HK := am (Kept.drew HK.out)
      replace HB := am (below_drew1 HB.out)
      have p287 : 0 ≤ (0 : Int) := (by omega)
      have q287 : 0 < (l0_2.length : Int) := of_decide_eq_true (by first | (with_reducible assumption) | assumption)
      have NV287 := am (show 0 < l0_2.length from by omega)
      obtain ⟨ad287, e287, hx287_0, hx287_1⟩ := at_T61 (Kd.V_reads' HO0_2.out).2.2 0 p287 q287
      cases e287
      have qi287 : (0 < l0_2.length) = True := eq_true (by omega)
      (try rw [show ((0 : Int)).toNat = 0 from rfl] at hx287_0)
      (try rw [show 0 * 2 = 0 from rfl] at hx287_0)
      (try rw [Addr.add_zero'] at hx287_0)
      (try rw [show ((0 : Int)).toNat = 0 from rfl] at hx287_1)
      (try rw [show 0 * 2 = 0 from rfl] at hx287_1)
      (try rw [Addr.add_zero'] at hx287_1)
      replace p287 := eq_true p287
      replace q287 := eq_true q287
      refine start_ (n := 14) (S := fun w' => w'.cell? ⟨gb285, 0, none⟩ = some (.int .i64 a0_0) ∧ w'.cell? ⟨gb285, 1, none⟩ = some (.int .i64 a0_1) ∧ w'.cell? ⟨gb285, 2, none⟩ = some (.slice (some ad287) l0_2.length c0_2) ∧ w'.cell? ad287 = some (.int .i64 ((rd_T61 l0_2 0).f0)) ∧ w'.cell? ⟨ad287.block, ad287.off + 1, none⟩ = some (.int .i64 ((rd_T61 l0_2 0).f1))) (ds := []) #[false, false, false, false, false, false, false, false, false, false, false, false, false, false] (by kernel_rfl) rfl rfl ⟨(blk_cell BK285.out 0).trans rfl, (blk_cell BK285.out 1).trans rfl, (blk_cell BK285.out 2).trans rfl, hx287_0, hx287_1⟩ (fun hHeld => ?_); refine with_tabW handshakerref18_serve.tab1 handshakerref18_serve.bits1 (fun HT_ HW_ => ?_)
      generalize w22.drew = w23 at HO1 HO0_2 BK285 BK286 HK HB hx287_0 hx287_1 hHeld ⊢
      refine pure_ (i := 0) (N := some 7) (v := ?_) (a' := ?_) #[true, false, false, false, false, false, false, false, false, false, false, false, false, false] rfl rfl (any_of HT_.out (by kernel_rfl)) (fun _ _ _ h => h) (Or.inl ⟨by rfl, ?_⟩) ?_ ?_
      rotate_left
      ·intro w'
       go_simp
       with_reducible rfl
      rotate_left
      ·simp only [Act.put, List.setIfInBounds_toArray, List.set_cons_zero, List.set_cons_succ, i64_w, i32_w]
       rfl
      refine take_ (i := 1) (N := some 8) (v := ?_) (a' := ?_) #[true, true, false, false, false, false, false, false, false, false, false, false, false, false] rfl rfl (take_ofW HT_.out HW_.out (by kernel_rfl)) (fun _ _ _ h => h) (Or.inl ⟨by rfl, ?_⟩) hHeld ?_ ?_
      rotate_left
      ·rintro w' ⟨s0, s1, s2, s3, s4⟩
       go_simp
       with_reducible rfl
      rotate_left
      ·simp only [Act.put, List.setIfInBounds_toArray, List.set_cons_zero, List.set_cons_succ, i64_w, i32_w]
       rfl
      refine pure_ (i := 2) (N := some 9) (v := ?_) (a' := ?_) #[true, true, true, false, false, false, false, false, false, false, false, false, false, false] rfl rfl (any_of HT_.out (by kernel_rfl)) (fun _ _ _ h => h) (Or.inl ⟨by rfl, ?_⟩) ?_ ?_
      rotate_left
      ·intro w'
       go_simp
       with_reducible rfl
      rotate_left
      ·simp only [Act.put, List.setIfInBounds_toArray, List.set_cons_zero, List.set_cons_succ, i64_w, i32_w]
       rfl
      refine pure_ (i := 3) (N := some 10) (v := ?_) (a' := ?_) #[true, true, true, true, false, false, false, false, false, false, false, false, false, false] rfl rfl (any_of HT_.out (by kernel_rfl)) (fun _ _ _ h => h) (Or.inl ⟨by rfl, ?_⟩) ?_ ?_
      rotate_left
      ·intro w'
       go_simp
       with_reducible rfl
      rotate_left
      ·simp only [Act.put, List.setIfInBounds_toArray, List.set_cons_zero, List.set_cons_succ, i64_w, i32_w]
       rfl
      refine pure_ (i := 4) (N := some 11) (v := ?_) (a' := ?_) #[true, true, true, true, true, false, false, false, false, false, false, false, false, false] rfl rfl (any_of HT_.out (by kernel_rfl)) (fun _ _ _ h => h) (Or.inl ⟨by rfl, ?_⟩) ?_ ?_
      rotate_left
      ·intro w'
       go_simp
       with_reducible rfl
      rotate_left
      ·simp only [Act.put, List.setIfInBounds_toArray, List.set_cons_zero, List.set_cons_succ, i64_w, i32_w]
       rfl
      refine pure_ (i := 5) (N := some 12) (v := ?_) (a' := ?_) #[true, true, true, true, true, true, false, false, false, false, false, false, false, false] rfl rfl (any_of HT_.out (by kernel_rfl)) (fun _ _ _ h => h) (Or.inl ⟨by rfl, ?_⟩) ?_ ?_
      rotate_left
      ·intro w'
       go_simp
       with_reducible rfl
      rotate_left
      ·simp only [Act.put, List.setIfInBounds_toArray, List.set_cons_zero, List.set_cons_succ, i64_w, i32_w]
       rfl
      refine pure_ (i := 10) (N := some 17) (v := ?_) (a' := ?_) #[true, true, true, true, true, true, false, false, false, false, true, false, false, false] rfl rfl (any_of HT_.out (by kernel_rfl)) (fun _ _ _ h => h) (Or.inl ⟨by rfl, ?_⟩) ?_ ?_
      rotate_left
      ·intro w'
       go_simp
       with_reducible rfl
      rotate_left
      ·simp only [Act.put, List.setIfInBounds_toArray, List.set_cons_zero, List.set_cons_succ, i64_w, i32_w]
       rfl
      refine take_ (i := 6) (N := some 13) (v := ?_) (a' := ?_) #[true, true, true, true, true, true, true, false, false, false, true, false, false, false] rfl rfl (take_ofW HT_.out HW_.out (by kernel_rfl)) (fun _ _ _ h => h) (Or.inl ⟨by rfl, ?_⟩) hHeld ?_ ?_
      rotate_left
      ·rintro w' ⟨s0, s1, s2, s3, s4⟩
       go_simp
       with_reducible rfl
      rotate_left
      ·simp only [Act.put, List.setIfInBounds_toArray, List.set_cons_zero, List.set_cons_succ, i64_w, i32_w]
       rfl
      refine pure_ (i := 7) (N := some 14) (v := ?_) (a' := ?_) #[true, true, true, true, true, true, true, true, false, false, true, false, false, false] rfl rfl (any_of HT_.out (by kernel_rfl)) (fun _ _ _ h => h) (Or.inl ⟨by rfl, ?_⟩) ?_ ?_
      rotate_left
      ·intro w'
       go_simp
       with_reducible rfl
      rotate_left
      ·simp only [Act.put, List.setIfInBounds_toArray, List.set_cons_zero, List.set_cons_succ, i64_w, i32_w]
       rfl
      refine pure_ (i := 8) (N := some 15) (v := ?_) (a' := ?_) #[true, true, true, true, true, true, true, true, true, false, true, false, false, false] rfl rfl (any_of HT_.out (by kernel_rfl)) (fun _ _ _ h => h) (Or.inl ⟨by rfl, ?_⟩) ?_ ?_
      rotate_left
      ·intro w'
       go_simp
       with_reducible rfl
      rotate_left
      ·simp only [Act.put, List.setIfInBounds_toArray, List.set_cons_zero, List.set_cons_succ, i64_w, i32_w]
       rfl
      refine take_ (i := 9) (N := some 16) (v := ?_) (a' := ?_) #[true, true, true, true, true, true, true, true, true, true, true, false, false, false] rfl rfl (take_ofW HT_.out HW_.out (by kernel_rfl)) (fun _ _ _ h => h) (Or.inl ⟨by rfl, ?_⟩) hHeld ?_ ?_
      rotate_left
      ·rintro w' ⟨s0, s1, s2, s3, s4⟩
       go_simp
       with_reducible rfl
      rotate_left
      ·simp only [Act.put, List.setIfInBounds_toArray, List.set_cons_zero, List.set_cons_succ, i64_w, i32_w]
       rfl
      refine take_ (i := 11) (N := some 18) (v := ?_) (a' := ?_) #[true, true, true, true, true, true, true, true, true, true, true, true, false, false] rfl rfl (take_ofW HT_.out HW_.out (by kernel_rfl)) (fun _ _ _ h => h) (Or.inl ⟨by rfl, ?_⟩) hHeld ?_ ?_
      rotate_left
      ·rintro w' ⟨s0, s1, s2, s3, s4⟩
       go_simp
       with_reducible rfl
      rotate_left
      ·simp only [Act.put, List.setIfInBounds_toArray, List.set_cons_zero, List.set_cons_succ, i64_w, i32_w]
       rfl
      refine pure_ (i := 12) (N := some 19) (v := ?_) (a' := ?_) #[true, true, true, true, true, true, true, true, true, true, true, true, true, false] rfl rfl (any_of HT_.out (by kernel_rfl)) (fun _ _ _ h => h) (Or.inl ⟨by rfl, ?_⟩) ?_ ?_
      rotate_left
      ·intro w'
       go_simp
       with_reducible rfl
      rotate_left
      ·simp only [Act.put, List.setIfInBounds_toArray, List.set_cons_zero, List.set_cons_succ, i64_w, i32_w]
       rfl
      refine pure_ (i := 13) (N := some 20) (v := ?_) (a' := ?_) #[true, true, true, true, true, true, true, true, true, true, true, true, true, true] rfl rfl (any_of HT_.out (by kernel_rfl)) (fun _ _ _ h => h) (Or.inl ⟨by rfl, ?_⟩) ?_ ?_
      rotate_left
      ·intro w'
       go_simp
       with_reducible rfl
      rotate_left
      ·simp only [Act.put, List.setIfInBounds_toArray, List.set_cons_zero, List.set_cons_succ, i64_w, i32_w]
       rfl
      refine done_ (done_of HT_.out (by kernel_rfl)) ?_
      have hnb24 := NB285_286.out
      have hnc24 := NB286_285.out
      have hcz25_0 : w23.cell? ⟨gb285, 0, none⟩ = some (.int .i64 a0_0) := (blk_cell BK285.out 0).trans rfl
      have hcz25_1 : w23.cell? ⟨gb285, 1, none⟩ = some (.int .i64 a0_1) := (blk_cell BK285.out 1).trans rfl
      have hcz25_2 : w23.cell? ⟨gb285, 2, none⟩ = some (.slice (some ad287) l0_2.length c0_2) := (blk_cell BK285.out 2).trans rfl
      have hfz25_0 := blk_frozen BK285.out 0
      have hfz25_1 := blk_frozen BK285.out 1
      have hfz25_2 := blk_frozen BK285.out 2
      have p288 : 0 ≤ (0 : Int) := (by omega)
      have q288 : 0 < (l0_2.length : Int) := of_decide_eq_true (by first | (with_reducible assumption) | assumption)
      obtain ⟨ad288, e288, hx288_0, hx288_1⟩ := at_T61 (Kd.V_reads' HO0_2.out).2.2 0 p288 q288
      obtain rfl : ad287 = ad288 := (by injection e288)
      have qi288 : (0 < l0_2.length) = True := eq_true (by omega)
      (try rw [show ((0 : Int)).toNat = 0 from rfl] at hx288_0)
      (try rw [show 0 * 2 = 0 from rfl] at hx288_0)
      (try rw [Addr.add_zero'] at hx288_0)
      (try rw [show ((0 : Int)).toNat = 0 from rfl] at hx288_1)
      (try rw [show 0 * 2 = 0 from rfl] at hx288_1)
      (try rw [Addr.add_zero'] at hx288_1)
      replace p288 := eq_true p288
      replace q288 := eq_true q288
      try go_wp2_with (first | ((with_reducible refine gate_dst (N := 6) rfl ?_); refine box_event ?hg (N := 6) ?hd (cs := #[.int .i64 0, .int .i64 0]) (t := 61) ?hr ?_; (case hd => rfl); (case hg => rfl); (case hr => first | (go_simp; done) | (go_simp; rfl)); intro gb289 hg w26 hbox hb; replace HO1 := am (Kd.R_below (Kd.R_elderB (zR HO1) gb289 (Nat.le_of_eq hg.symm)) hb); replace HO0_2 := zVe HO0_2 hg hb; have BK289 := am (hbox); have GW289 := am ((by rw [hg]; exact (by first | exact HK.out.1 | exact (show Kept w _ (fun k_ => P1_ k_) from by repeat (first | (with_reducible first | exact HK.out | apply Kept.alloc | apply Kept.drewN | apply Kept.drew | refine Kept.setCell ?_ (.inr GW285.out) _ | refine Kept.setCell ?_ (.inr GW286.out) _) | exact HK.out)).1) : w.heap.size ≤ gb289)); replace HK := am (Kept.below (S := (fun k_ => P1_ k_)) (by repeat (first | (with_reducible first | exact HK.out | apply Kept.alloc | apply Kept.drewN | apply Kept.drew | refine Kept.setCell ?_ (.inr GW285.out) _ | refine Kept.setCell ?_ (.inr GW286.out) _) | exact HK.out)) hb); have GE289 := am ((by rw [hg]; exact (below_size (zc2 HB GE285 GE286)) : w0.heap.size ≤ gb289)); replace HB := am (below_step (zc2 HB GE285 GE286) hb); have NB285_289 := znt BK285 hg; have NB289_285 := zng BK285 hg; replace BK285 := zbb BK285 hb; have NB286_289 := znt BK286 hg; have NB289_286 := zng BK286 hg; replace BK286 := zbb BK286 hb; clear hb hbox hg; have hnb27 := NB289_285.out; have hnc27 := NB285_289.out; have hnb28 := NB289_286.out; have hnc28 := NB286_289.out; have hcz29_0 : w26.cell? ⟨gb289, 0, none⟩ = some (.int .i64 0) := (blk_cell BK289.out 0).trans rfl; have hcz29_1 : w26.cell? ⟨gb289, 1, none⟩ = some (.int .i64 0) := (blk_cell BK289.out 1).trans rfl; have hfz29_0 := blk_frozen BK289.out 0; have hfz29_1 := blk_frozen BK289.out 1))
      have n0_ : Aside0 (Kd.R k61 61 ((w26.setCell ⟨gb289, 0, none⟩ (.int .i64 ((rd_T61 l0_2 0).f0))).setCell ⟨gb289, 1, none⟩ (.int .i64 ((rd_T61 l0_2 0).f1))) w0.heap.size (fun k_ => (P1_ k_ ∨ w.heap.size ≤ k_) ∧ k_ ≠ gb289) u9000_ l1) := ⟨by (with_reducible repeat (first | apply Kd.R_alloc | apply Kd.R_drewN | apply Kd.R_drew)); exact Kd.R_mono (Kd.R_far (p := ⟨gb289, 1, none⟩) (Kd.R_far (p := ⟨gb289, 0, none⟩) (Kd.R_mono HO1.out (fun k_ hk => (⟨hk, hk.2⟩ : _ ∧ k_ ≠ gb289))) (fun _ hk => hk.2) (.int .i64 ((rd_T61 l0_2 0).f0))) (fun _ hk => hk.2) (.int .i64 ((rd_T61 l0_2 0).f1))) (fun _ hk => ⟨hk.1.1, hk.1.2⟩)⟩
      have n1_ : Aside0 (Kd.V k61 61 ((w26.setCell ⟨gb289, 0, none⟩ (.int .i64 ((rd_T61 l0_2 0).f0))).setCell ⟨gb289, 1, none⟩ (.int .i64 ((rd_T61 l0_2 0).f1))) w0.heap.size (fun k_ => ((P1_ k_ ∨ P0_2_ k_) ∨ w.heap.size ≤ k_) ∧ some k_ ≠ (u9000_ : Value).ownBlock ∧ k_ ≠ gb285 ∧ k_ ≠ gb286 ∧ k_ ≠ gb289) (.slice (some ad287) l0_2.length c0_2) l0_2) := ⟨by (with_reducible repeat (first | apply Kd.V_alloc | apply Kd.V_drewN | apply Kd.V_drew)); exact Kd.V_mono (Kd.V_far (p := ⟨gb289, 1, none⟩) (Kd.V_far (p := ⟨gb289, 0, none⟩) (Kd.V_mono HO0_2.out (fun k_ hk => (⟨hk, hk.2⟩ : _ ∧ k_ ≠ gb289))) (fun _ hk => hk.2) (.int .i64 ((rd_T61 l0_2 0).f0))) (fun _ hk => hk.2) (.int .i64 ((rd_T61 l0_2 0).f1))) (fun _ hk => ⟨hk.1.1.1.1.1, ⟨hk.1.1.1.1.2, ⟨hk.1.1.1.2, ⟨hk.1.1.2, hk.1.2⟩⟩⟩⟩)⟩
      have n2_ : Aside0 (((w26.setCell ⟨gb289, 0, none⟩ (.int .i64 ((rd_T61 l0_2 0).f0))).setCell ⟨gb289, 1, none⟩ (.int .i64 ((rd_T61 l0_2 0).f1))).heap[gb285]? = some (.cells #[.int .i64 a0_0, .int .i64 a0_1, .slice (some ad287) l0_2.length c0_2] 28 (0, 0))) := ⟨by (with_reducible repeat (first | refine blk_drewN ?_ _ | refine blk_drew ?_ | refine blk_alloc ?_ _)); refine blk_far ?_ NB285_289.out _; (with_reducible repeat (first | refine blk_drewN ?_ _ | refine blk_drew ?_ | refine blk_alloc ?_ _)); refine blk_far ?_ NB285_289.out _; (with_reducible repeat (first | refine blk_drewN ?_ _ | refine blk_drew ?_ | refine blk_alloc ?_ _)); exact BK285.out⟩
      have n3_ : Aside0 (((w26.setCell ⟨gb289, 0, none⟩ (.int .i64 ((rd_T61 l0_2 0).f0))).setCell ⟨gb289, 1, none⟩ (.int .i64 ((rd_T61 l0_2 0).f1))).heap[gb286]? = some (.cells #[.int .i64 0, .int .i64 0, .slice none 0 0] 28 (0, 0))) := ⟨by (with_reducible repeat (first | refine blk_drewN ?_ _ | refine blk_drew ?_ | refine blk_alloc ?_ _)); refine blk_far ?_ NB286_289.out _; (with_reducible repeat (first | refine blk_drewN ?_ _ | refine blk_drew ?_ | refine blk_alloc ?_ _)); refine blk_far ?_ NB286_289.out _; (with_reducible repeat (first | refine blk_drewN ?_ _ | refine blk_drew ?_ | refine blk_alloc ?_ _)); exact BK286.out⟩
      have n4_ : Aside0 (((w26.setCell ⟨gb289, 0, none⟩ (.int .i64 ((rd_T61 l0_2 0).f0))).setCell ⟨gb289, 1, none⟩ (.int .i64 ((rd_T61 l0_2 0).f1))).heap[gb289]? = some (.cells #[.int .i64 ((rd_T61 l0_2 0).f0), .int .i64 ((rd_T61 l0_2 0).f1)] 61 (0, 0))) := ⟨by (with_reducible repeat (first | refine blk_drewN ?_ _ | refine blk_drew ?_ | refine blk_alloc ?_ _)); refine blk_put (cs := #[.int .i64 ((rd_T61 l0_2 0).f0), .int .i64 0]) ?_ 1 _ rfl; (with_reducible repeat (first | refine blk_drewN ?_ _ | refine blk_drew ?_ | refine blk_alloc ?_ _)); refine blk_put (cs := #[.int .i64 0, .int .i64 0]) ?_ 0 _ rfl; (with_reducible repeat (first | refine blk_drewN ?_ _ | refine blk_drew ?_ | refine blk_alloc ?_ _)); exact BK289.out⟩
      have n5_ : Aside0 (Kept w ((w26.setCell ⟨gb289, 0, none⟩ (.int .i64 ((rd_T61 l0_2 0).f0))).setCell ⟨gb289, 1, none⟩ (.int .i64 ((rd_T61 l0_2 0).f1))) (fun k_ => P1_ k_)) := ⟨by repeat (first | (with_reducible first | exact HK.out | apply Kept.alloc | apply Kept.drewN | apply Kept.drew | refine Kept.setCell ?_ (.inr GW285.out) _ | refine Kept.setCell ?_ (.inr GW286.out) _ | refine Kept.setCell ?_ (.inr GW289.out) _) | exact HK.out)⟩
      have n6_ : Aside0 (Below w0.heap.size w0 ((w26.setCell ⟨gb289, 0, none⟩ (.int .i64 ((rd_T61 l0_2 0).f0))).setCell ⟨gb289, 1, none⟩ (.int .i64 ((rd_T61 l0_2 0).f1)))) := ⟨by repeat (first | (with_reducible first | exact HB.out | apply below_alloc | apply pw_below_drewN | apply below_drew1 | refine below_set ?_ GE285.out | refine below_set ?_ GE286.out | refine below_set ?_ GE289.out) | exact HB.out)⟩
      (try clear HO1)
      (try clear HO0_2)
      (try clear BK285)
      (try clear BK286)
      (try clear BK289)
      (try clear HK)
      (try clear HB)
      generalize ((w26.setCell ⟨gb289, 0, none⟩ (.int .i64 ((rd_T61 l0_2 0).f0))).setCell ⟨gb289, 1, none⟩ (.int .i64 ((rd_T61 l0_2 0).f1))) = w30 at n0_ n1_ n2_ n3_ n4_ n5_ n6_ ⊢
      have HO1 := n0_
      have HO0_2 := n1_
      have BK285 := n2_
      have BK286 := n3_
      have BK289 := n4_
      have HK := n5_
      have HB := n6_
      clear n0_ n1_ n2_ n3_ n4_ n5_ n6_
      replace HO1 := am (Kd.R_drew HO1.out)
      replace HO0_2 := am (Kd.V_drew HO0_2.out)
      replace BK285 := am (blk_drew BK285.out)
      replace BK286 := am (blk_drew BK286.out)
      replace BK289 := am (blk_drew BK289.out)
      replace HK := am (Kept.drew HK.out)
      replace HB := am (below_drew1 HB.out)
      have q32 : (1 : Int) ≤ ((l0_2.length : Int) : Int) := of_decide_eq_true (by first | (with_reducible assumption) | assumption)
      obtain ⟨i032, hi032, _, hsz32, _⟩ := info_parts info61
      have hroom32 : l0_2.length ≤ c0_2 := (Kd.V_reads' HO0_2.out).2.1
      have hC32 : Kd.F k61 _ _ (some ad287) l0_2.length l0_2 := (Kd.V_at (base := w0.heap.size) HO0_2.out).2.2
      have hcut32 := cut_from (P := Try.prog) 26 61 .i64 Try.underlying26 hi032 2 hsz32 (some ad287) l0_2.length c0_2 1 (by omega) q32
      have hr32 := Kd.F_cut (m := (1 : Int).toNat) (c := c0_2) hC32 (by omega) hroom32
      obtain ⟨A32, hA32⟩ : ∃ A1, A1 = (if c0_2 = (1 : Int).toNat then (some ad287) else ((some ad287) : Option Addr).map (·.add ((1 : Int).toNat * 2))) := ⟨_, rfl⟩
      obtain ⟨c32, hc32⟩ : ∃ c1, c1 = c0_2 - (1 : Int).toNat := ⟨_, rfl⟩
      have hy32 : y290.length = l0_2.length - (1 : Int).toNat := (by rw [Ny290.out, List.length_drop] <;> omega)
      rw [show (l0_2).drop (1 : Int).toNat = y290 from Ny290.out.symm] at hr32
      replace hr32 : Kd.F k61 _ _ A32 y290.length y290 := (by rw [hA32]; exact hr32)
      rw [← hy32, ← hA32, ← hc32] at hcut32
      have HO294 := am (show Kd.V k61 61 _ w0.heap.size _ (.slice A32 y290.length c32) y290 from Kd.V_mk (by rw [hy32, hc32]; exact Nat.sub_le_sub_right hroom32 _) hr32)
      have HC294 := am (show y290.length ≤ c32 from by rw [hy32, hc32]; exact Nat.sub_le_sub_right hroom32 _)
      clear hr32 hC32 hroom32 hi032 hsz32 hc32
      have KY32 := am hy32
      have KA32 := am hA32
      clear hy32 hA32
      replace q32 := eq_true q32
      refine start_ (n := 20) (S := fun w' => w'.cell? ⟨gb285, 0, none⟩ = some (.int .i64 a0_0) ∧ w'.cell? ⟨gb285, 1, none⟩ = some (.int .i64 a0_1) ∧ w'.cell? ⟨gb285, 2, none⟩ = some (.slice (some ad287) l0_2.length c0_2) ∧ w'.cell? ⟨gb289, 0, none⟩ = some (.int .i64 ((rd_T61 l0_2 0).f0)) ∧ w'.cell? ⟨gb289, 1, none⟩ = some (.int .i64 ((rd_T61 l0_2 0).f1))) (ds := []) #[false, false, false, false, false, false, false, false, false, false, false, false, false, false, false, false, false, false, false, false] (by kernel_rfl) rfl rfl ⟨(blk_cell BK285.out 0).trans rfl, (blk_cell BK285.out 1).trans rfl, (blk_cell BK285.out 2).trans rfl, (blk_cell BK289.out 0).trans rfl, (blk_cell BK289.out 1).trans rfl⟩ (fun hHeld => ?_); refine with_tabW handshakerref18_serve.tab4 handshakerref18_serve.bits4 (fun HT_ HW_ => ?_)
      generalize w30.drew = w31 at HO1 HO0_2 BK285 BK286 BK289 HK HB HO294 hHeld ⊢
      refine pure_ (i := 0) (N := some 27) (v := ?_) (a' := ?_) #[true, false, false, false, false, false, false, false, false, false, false, false, false, false, false, false, false, false, false, false] rfl rfl (any_of HT_.out (by kernel_rfl)) (fun _ _ _ h => h) (Or.inl ⟨by rfl, ?_⟩) ?_ ?_
      rotate_left
      ·intro w'
       go_simp
       with_reducible rfl
      rotate_left
      ·simp only [Act.put, List.setIfInBounds_toArray, List.set_cons_zero, List.set_cons_succ, i64_w, i32_w]
       rfl
      refine pure_ (i := 2) (N := some 29) (v := ?_) (a' := ?_) #[true, false, true, false, false, false, false, false, false, false, false, false, false, false, false, false, false, false, false, false] rfl rfl (any_of HT_.out (by kernel_rfl)) (fun _ _ _ h => h) (Or.inl ⟨by rfl, ?_⟩) ?_ ?_
      rotate_left
      ·intro w'
       go_simp
       with_reducible rfl
      rotate_left
      ·simp only [Act.put, List.setIfInBounds_toArray, List.set_cons_zero, List.set_cons_succ, i64_w, i32_w]
       rfl
      refine pure_ (i := 4) (N := some 31) (v := ?_) (a' := ?_) #[true, false, true, false, true, false, false, false, false, false, false, false, false, false, false, false, false, false, false, false] rfl rfl (any_of HT_.out (by kernel_rfl)) (fun _ _ _ h => h) (Or.inl ⟨by rfl, ?_⟩) ?_ ?_
      rotate_left
      ·intro w'
       go_simp
       with_reducible rfl
      rotate_left
      ·simp only [Act.put, List.setIfInBounds_toArray, List.set_cons_zero, List.set_cons_succ, i64_w, i32_w]
       rfl
      refine pure_ (i := 7) (N := some 34) (v := ?_) (a' := ?_) #[true, false, true, false, true, false, false, true, false, false, false, false, false, false, false, false, false, false, false, false] rfl rfl (any_of HT_.out (by kernel_rfl)) (fun _ _ _ h => h) (Or.inl ⟨by rfl, ?_⟩) ?_ ?_
      rotate_left
      ·intro w'
       go_simp
       with_reducible rfl
      rotate_left
      ·simp only [Act.put, List.setIfInBounds_toArray, List.set_cons_zero, List.set_cons_succ, i64_w, i32_w]
       rfl
      refine pure_ (i := 11) (N := some 38) (v := ?_) (a' := ?_) #[true, false, true, false, true, false, false, true, false, false, false, true, false, false, false, false, false, false, false, false] rfl rfl (any_of HT_.out (by kernel_rfl)) (fun _ _ _ h => h) (Or.inl ⟨by rfl, ?_⟩) ?_ ?_
      rotate_left
      ·intro w'
       go_simp
       with_reducible rfl
      rotate_left
      ·simp only [Act.put, List.setIfInBounds_toArray, List.set_cons_zero, List.set_cons_succ, i64_w, i32_w]
       rfl
      refine take_ (i := 1) (N := some 28) (v := ?_) (a' := ?_) #[true, true, true, false, true, false, false, true, false, false, false, true, false, false, false, false, false, false, false, false] rfl rfl (take_ofW HT_.out HW_.out (by kernel_rfl)) (fun _ _ _ h => h) (Or.inl ⟨by rfl, ?_⟩) hHeld ?_ ?_
      rotate_left
      ·rintro w' ⟨s0, s1, s2, s3, s4⟩
       go_simp
       with_reducible rfl
      rotate_left
      ·simp only [Act.put, List.setIfInBounds_toArray, List.set_cons_zero, List.set_cons_succ, i64_w, i32_w]
       rfl
      refine take_ (i := 3) (N := some 30) (v := ?_) (a' := ?_) #[true, true, true, true, true, false, false, true, false, false, false, true, false, false, false, false, false, false, false, false] rfl rfl (take_ofW HT_.out HW_.out (by kernel_rfl)) (fun _ _ _ h => h) (Or.inl ⟨by rfl, ?_⟩) hHeld ?_ ?_
      rotate_left
      ·rintro w' ⟨s0, s1, s2, s3, s4⟩
       go_simp
       with_reducible rfl
      rotate_left
      ·simp only [Act.put, List.setIfInBounds_toArray, List.set_cons_zero, List.set_cons_succ, i64_w, i32_w]
       rfl
      refine take_ (i := 5) (N := some 32) (v := ?_) (a' := ?_) #[true, true, true, true, true, true, false, true, false, false, false, true, false, false, false, false, false, false, false, false] rfl rfl (take_ofW HT_.out HW_.out (by kernel_rfl)) (fun _ _ _ h => h) (Or.inl ⟨by rfl, ?_⟩) hHeld ?_ ?_
      rotate_left
      ·rintro w' ⟨s0, s1, s2, s3, s4⟩
       go_simp
       with_reducible rfl
      rotate_left
      ·simp only [Act.put, List.setIfInBounds_toArray, List.set_cons_zero, List.set_cons_succ, i64_w, i32_w]
       rfl
      refine pure_ (i := 6) (N := some 33) (v := ?_) (a' := ?_) #[true, true, true, true, true, true, true, true, false, false, false, true, false, false, false, false, false, false, false, false] rfl rfl (any_of HT_.out (by kernel_rfl)) (fun _ _ _ h => h) (Or.inl ⟨by rfl, ?_⟩) ?_ ?_
      rotate_left
      ·intro w'
       go_simp
       with_reducible rfl
      rotate_left
      ·simp only [Act.put, List.setIfInBounds_toArray, List.set_cons_zero, List.set_cons_succ, i64_w, i32_w]
       rfl
      refine take_ (i := 8) (N := some 35) (v := ?_) (a' := ?_) #[true, true, true, true, true, true, true, true, true, false, false, true, false, false, false, false, false, false, false, false] rfl rfl (take_ofW HT_.out HW_.out (by kernel_rfl)) (fun _ _ _ h => h) (Or.inl ⟨by rfl, ?_⟩) hHeld ?_ ?_
      rotate_left
      ·rintro w' ⟨s0, s1, s2, s3, s4⟩
       go_simp
       with_reducible rfl
      rotate_left
      ·simp only [Act.put, List.setIfInBounds_toArray, List.set_cons_zero, List.set_cons_succ, i64_w, i32_w]
       rfl
      refine pure_ (i := 9) (N := some 36) (v := ?_) (a' := ?_) #[true, true, true, true, true, true, true, true, true, true, false, true, false, false, false, false, false, false, false, false] rfl rfl (any_of HT_.out (by kernel_rfl)) (fun _ _ _ h => h) (Or.inl ⟨by rfl, ?_⟩) ?_ ?_
      rotate_left
      ·intro w'
       go_simp
       with_reducible rfl
      rotate_left
      ·simp only [Act.put, List.setIfInBounds_toArray, List.set_cons_zero, List.set_cons_succ, i64_w, i32_w]
       rfl
      refine pure_ (i := 10) (N := some 37) (v := ?_) (a' := ?_) #[true, true, true, true, true, true, true, true, true, true, true, true, false, false, false, false, false, false, false, false] rfl rfl (any_of HT_.out (by kernel_rfl)) (fun _ _ _ h => h) (Or.inl ⟨by rfl, ?_⟩) ?_ ?_
      rotate_left
      ·intro w'
       go_simp
       with_reducible rfl
      rotate_left
      ·simp only [Act.put, List.setIfInBounds_toArray, List.set_cons_zero, List.set_cons_succ, i64_w, i32_w]
       rfl
      refine take_ (i := 12) (N := some 39) (v := ?_) (a' := ?_) #[true, true, true, true, true, true, true, true, true, true, true, true, true, false, false, false, false, false, false, false] rfl rfl (take_ofW HT_.out HW_.out (by kernel_rfl)) (fun _ _ _ h => h) (Or.inl ⟨by rfl, ?_⟩) hHeld ?_ ?_
      rotate_left
      ·rintro w' ⟨s0, s1, s2, s3, s4⟩
       go_simp
       with_reducible rfl
      rotate_left
      ·simp only [Act.put, List.setIfInBounds_toArray, List.set_cons_zero, List.set_cons_succ, i64_w, i32_w]
       rfl
      refine one_ (i := 13) (N := some 40) #[true, true, true, true, true, true, true, true, true, true, true, true, true, true, false, false, false, false, false, false] rfl rfl (one_of HT_.out (by kernel_rfl)) (by decide) (fun K hK => ?_)
      refine value_ (w1 := ?_) (v := ?_) (by rfl) rfl ?_ ?_
      rotate_left 2
      ·go_simp
       constructor
       ·rfl
       ·rfl
      refine hK.out _ _ ⟨(blk_cell (blk_alloc BK285.out _) 0).trans rfl, (blk_cell (blk_alloc BK285.out _) 1).trans rfl, (blk_cell (blk_alloc BK285.out _) 2).trans rfl, (blk_cell (blk_alloc BK289.out _) 0).trans rfl, (blk_cell (blk_alloc BK289.out _) 1).trans rfl⟩ (fun hHeld => ?_)
      clear hK K
      refine norm_ (a' := ?_) ?_ ?_
      rotate_left
      ·show Act.put _ (some 40) _ = _
       simp only [Act.put, List.setIfInBounds_toArray, List.set_cons_zero, List.set_cons_succ, i64_w, i32_w]
       rfl
      refine one_ (i := 14) (N := some 41) #[true, true, true, true, true, true, true, true, true, true, true, true, true, true, true, false, false, false, false, false] rfl rfl (one_of HT_.out (by kernel_rfl)) (by decide) (fun K hK => ?_)
      refine Kd.R_append_step k61 (w0 := w0) w0.heap.size (by rfl) (.tmp 38) (.tmp 40) 26 61 (.agg #[(.int .i64 0), (.int .i64 0)]) 16 rfl Try.underlying26 info61 rfl (by decide) (by omega) u9000_ l1 (⟨(rd_T61 l0_2 0).f0, (rd_T61 l0_2 0).f1⟩ : S61) [.int .i64 ((rd_T61 l0_2 0).f0), .int .i64 ((rd_T61 l0_2 0).f1)] (fun k_ => (P1_ k_ ∨ w.heap.size ≤ k_) ∧ k_ ≠ gb289) (fun _ => False) rfl rfl ?aP (fun _ hk => hk.elim) ?aF ?aO ?aB ?aS ?aL ?_
      (case aP => exact k61_mkM _ _ _ (⟨(rd_T61 l0_2 0).f0, (rd_T61 l0_2 0).f1⟩ : S61))
      (case aB => exact (zc3 HB GE285 GE286 GE289))
      (case aF => exact (fun k_ hk => ⟨(.inr (Nat.le_trans (by first | exact HK.out.1 | exact (show Kept w _ (fun k_ => P1_ k_) from by repeat (first | (with_reducible first | exact HK.out | apply Kept.alloc | apply Kept.drewN | apply Kept.drew | refine Kept.setCell ?_ (.inr GW285.out) _ | refine Kept.setCell ?_ (.inr GW286.out) _ | refine Kept.setCell ?_ (.inr GW289.out) _) | exact HK.out)).1) hk)), Kd.freshB (g := gb289) (o := .cells #[.int .i64 ((rd_T61 l0_2 0).f0), .int .i64 ((rd_T61 l0_2 0).f1)] 61 (0, 0)) (zb BK289) k_ hk⟩))
      (case aO => exact (zR HO1))
      (case aS => exact (below_size (zc3 HB GE285 GE286 GE289)))
      (case aL => have := LMc19.out; omega)
      intro v296 w33 ho hb hg hat
      rw [← Ny295.out] at ho
      replace HO0_2 := am (Kd.V_afterv (ok := (fun k_ => ((P1_ k_ ∨ P0_2_ k_) ∨ w.heap.size ≤ k_) ∧ k_ ≠ gb285 ∧ k_ ≠ gb286 ∧ k_ ≠ gb289)) (by (with_reducible repeat (first | apply Kd.V_alloc | apply Kd.V_drewN | apply Kd.V_drew)); exact Kd.V_mono HO0_2.out (fun _ hk => ⟨⟨hk.1, ⟨hk.2.2.1, ⟨hk.2.2.2.1, hk.2.2.2.2⟩⟩⟩, hk.2.1⟩)) hg hat)
      replace BK285 := am (blk_grown (g := gb285) (o := .cells #[.int .i64 a0_0, .int .i64 a0_1, .slice (some ad287) l0_2.length c0_2] 28 (0, 0)) (zb BK285) hg (Kd.R_ne HO1.out BK285.out (by decide)))
      replace BK286 := am (blk_grown (g := gb286) (o := .cells #[.int .i64 0, .int .i64 0, .slice none 0 0] 28 (0, 0)) (zb BK286) hg (Kd.R_ne HO1.out BK286.out (by decide)))
      replace BK289 := am (blk_grown (g := gb289) (o := .cells #[.int .i64 ((rd_T61 l0_2 0).f0), .int .i64 ((rd_T61 l0_2 0).f1)] 61 (0, 0)) (zb BK289) hg (Kd.R_away HO1.out (fun _ hk => hk.2)))
      replace HO294 := am (Kd.V_afterv (ok := (fun k_ => ((P1_ k_ ∨ P0_2_ k_) ∨ w.heap.size ≤ k_) ∧ k_ ≠ gb285 ∧ k_ ≠ gb286 ∧ k_ ≠ gb289)) (by (with_reducible repeat (first | apply Kd.V_alloc | apply Kd.V_drewN | apply Kd.V_drew)); exact Kd.V_mono HO294.out (fun _ hk => ⟨⟨hk.1, ⟨hk.2.2.1, ⟨hk.2.2.2.1, hk.2.2.2.2⟩⟩⟩, hk.2.1⟩)) hg hat)
      replace HB := am (hb)
      replace HK := am (Kept.of_grown (S := (fun k_ => P1_ k_)) hg (by repeat (first | (with_reducible first | exact HK.out | apply Kept.alloc | apply Kept.drewN | apply Kept.drew | refine Kept.setCell ?_ (.inr GW285.out) _ | refine Kept.setCell ?_ (.inr GW286.out) _ | refine Kept.setCell ?_ (.inr GW289.out) _) | exact HK.out)) (fun k_ e_ => (HO1.out.1 k_ e_).1))
      have HO297 := am (ho)
      clear HO1
      clear ho hb hg hat
      obtain ⟨Ao34, co34, eo34⟩ := Kd.R_slice HO297.out
      (first | subst eo34 | (injection eo34 with f1_ f2_ f3_; have f4_ := f1_.symm; have f5_ := f3_.symm; clear f1_ f2_ f3_; subst f4_; subst f5_))
      refine hK.out _ _ ⟨(blk_cell BK285.out 0).trans rfl, (blk_cell BK285.out 1).trans rfl, (blk_cell BK285.out 2).trans rfl, (blk_cell BK289.out 0).trans rfl, (blk_cell BK289.out 1).trans rfl⟩ (fun hHeld => ?_)
      clear hK K
      refine norm_ (a' := ?_) ?_ ?_
      rotate_left
      ·show Act.put _ (some 41) _ = _
       simp only [Act.put, List.setIfInBounds_toArray, List.set_cons_zero, List.set_cons_succ, i64_w, i32_w]
       rfl
      refine one_ (i := 15) (N := some 42) #[true, true, true, true, true, true, true, true, true, true, true, true, true, true, true, true, false, false, false, false] rfl rfl (one_of HT_.out (by kernel_rfl)) (by decide) (fun K hK => ?_)
      refine goes_ Try.func30 (by kernel_rfl) rfl #[.agg #[.int .i64 a0_0, .int .i64 (wrap64 (a0_1 - ((rd_T61 l0_2 0).f1))), .slice A32 y290.length c32], .slice Ao34 y295.length co34] (by rfl) rfl rfl zm ?_
      with_reducible refine (ih k (by omega) a0_0 (wrap64 (a0_1 - ((rd_T61 l0_2 0).f1))) (fun k_ => ((((P1_ k_ ∨ P0_2_ k_) ∨ w.heap.size ≤ k_) ∧ (k_ ≠ gb285 ∧ (k_ ≠ gb286 ∧ k_ ≠ gb289))) ∧ some k_ ≠ (.slice Ao34 y295.length co34 : Value).ownBlock)) _ _ y290 (fun k_ => some k_ = (.slice Ao34 y295.length co34 : Value).ownBlock) (.slice Ao34 y295.length co34) y295 t298 t299 t300 t303 w0 _ ?side1 ?side2 ?side3 A20.out).mono ?_
      (case side1 => repeat (first | (with_reducible first | exact HB.out | apply below_alloc | apply pw_below_drewN | apply below_drew1 | refine below_set ?_ GE285.out | refine below_set ?_ GE286.out | refine below_set ?_ GE289.out) | exact HB.out))
      (case side2 => exact Kd.V_mono (HO294.out) (fun k_ hk_ => ⟨hk_, hk_.2⟩))
      (case side3 => exact Kd.R_tight rfl HO297.out)
      rintro e w35 ⟨v301, v304, rfl, ho0, ho1, hb, hkp⟩
      refine ⟨_, rfl, ?_⟩
      replace HO0_2 := am (Kd.V_mono (ok' := fun k_ => ((P1_ k_ ∨ P0_2_ k_) ∨ w.heap.size ≤ k_) ∧ k_ ≠ gb285 ∧ k_ ≠ gb286 ∧ k_ ≠ gb289 ∧ some k_ ≠ (v304 : Value).ownBlock) (Kd.V_keptB (HO0_2.out) hkp (fun k_ hk_ hs_ => (hk_.2) hs_)) (fun k_ hk_ => ⟨hk_.1.1.1, hk_.1.1.2.1, hk_.1.1.2.2.1, hk_.1.1.2.2.2, fun e_ => Or.elim (ho1.1 k_ e_.symm) (fun hs_ => hk_.2.1 hs_) (fun hn_ => Nat.not_le.2 hk_.2.2 hn_)⟩))
      replace HO294 := am (Kd.V_mono (ok' := fun k_ => ((P1_ k_ ∨ P0_2_ k_) ∨ w.heap.size ≤ k_) ∧ k_ ≠ gb285 ∧ k_ ≠ gb286 ∧ k_ ≠ gb289 ∧ some k_ ≠ (v304 : Value).ownBlock) (Kd.V_keptB (HO294.out) hkp (fun k_ hk_ hs_ => (hk_.2) hs_)) (fun k_ hk_ => ⟨hk_.1.1.1, hk_.1.1.2.1, hk_.1.1.2.2.1, hk_.1.1.2.2.2, fun e_ => Or.elim (ho1.1 k_ e_.symm) (fun hs_ => hk_.2.1 hs_) (fun hn_ => Nat.not_le.2 hk_.2.2 hn_)⟩))
      have HO302 := am (Kd.V_mono (ok' := fun k_ => ((P1_ k_ ∨ P0_2_ k_) ∨ w.heap.size ≤ k_) ∧ some k_ ≠ (v304 : Value).ownBlock ∧ k_ ≠ gb285 ∧ k_ ≠ gb286 ∧ k_ ≠ gb289) ho0 (fun k_ hk_ => ⟨Or.elim hk_.1 (fun hs_ => Or.elim hs_ (fun hs_ => (Or.imp_left (fun h_ => (.inl h_)) ((HO297.out.1 k_ (hs_).symm).1))) (fun hs_ => hs_.1.1)) (fun hn_ => (.inr (Nat.le_trans (by first | exact HK.out.1 | exact (show Kept w _ (fun k_ => P1_ k_) from by repeat (first | (with_reducible first | exact HK.out | apply Kept.alloc | apply Kept.drewN | apply Kept.drew | refine Kept.setCell ?_ (.inr GW285.out) _ | refine Kept.setCell ?_ (.inr GW286.out) _ | refine Kept.setCell ?_ (.inr GW289.out) _) | exact HK.out)).1) hn_))), hk_.2, Or.elim hk_.1 (fun hs_ => Or.elim hs_ (fun hs_ => fun e_ => (Kd.R_ne HO297.out BK285.out (by decide)) (by rw [← e_]; exact hs_)) (fun hs_ => hs_.1.2.1)) (fun hn_ => (zfr gb285 BK285 hn_)), Or.elim hk_.1 (fun hs_ => Or.elim hs_ (fun hs_ => fun e_ => (Kd.R_ne HO297.out BK286.out (by decide)) (by rw [← e_]; exact hs_)) (fun hs_ => hs_.1.2.2.1)) (fun hn_ => (zfr gb286 BK286 hn_)), Or.elim hk_.1 (fun hs_ => Or.elim hs_ (fun hs_ => fun e_ => (Kd.R_away HO297.out (fun _ hk => hk.2)) (by rw [← e_]; exact hs_)) (fun hs_ => hs_.1.2.2.2)) (fun hn_ => (zfr gb289 BK289 hn_))⟩))
      replace BK285 := am (blk_kept (zb BK285) hkp (fun hs_ => (fun e_ => (Kd.R_ne HO297.out BK285.out (by decide)) e_) hs_))
      replace BK286 := am (blk_kept (zb BK286) hkp (fun hs_ => (fun e_ => (Kd.R_ne HO297.out BK286.out (by decide)) e_) hs_))
      have HO305 := am (Kd.R_mono (ok' := fun k_ => (P1_ k_ ∨ w.heap.size ≤ k_) ∧ k_ ≠ gb289) ho1 (fun k_ hk_ => ⟨Or.elim hk_ (fun hs_ => (HO297.out.1 k_ (hs_).symm).1) (fun hn_ => (.inr (Nat.le_trans (by first | exact HK.out.1 | exact (show Kept w _ (fun k_ => P1_ k_) from by repeat (first | (with_reducible first | exact HK.out | apply Kept.alloc | apply Kept.drewN | apply Kept.drew | refine Kept.setCell ?_ (.inr GW285.out) _ | refine Kept.setCell ?_ (.inr GW286.out) _ | refine Kept.setCell ?_ (.inr GW289.out) _) | exact HK.out)).1) hn_))), Or.elim hk_ (fun hs_ => fun e_ => (Kd.R_away HO297.out (fun _ hk => hk.2)) (by rw [← e_]; exact hs_)) (fun hn_ => (zfr gb289 BK289 hn_))⟩))
      replace BK289 := am (blk_kept (zb BK289) hkp (fun hs_ => (fun e_ => (Kd.R_away HO297.out (fun _ hk => hk.2)) e_) hs_))
      replace HK := am (Kept.then_ (S := (fun k_ => P1_ k_)) (by repeat (first | (with_reducible first | exact HK.out | apply Kept.alloc | apply Kept.drewN | apply Kept.drew | refine Kept.setCell ?_ (.inr GW285.out) _ | refine Kept.setCell ?_ (.inr GW286.out) _ | refine Kept.setCell ?_ (.inr GW289.out) _) | exact HK.out)) hkp (fun k_ hs_ => (fun e_ => (HO297.out.1 k_ e_.symm).1) hs_))
      replace HB := am (hb)
      clear HO297
      (try clear hb)
      (try clear hkp)
      (try clear ho0)
      (try clear ho1)
      obtain ⟨Ao38, co38, eo38⟩ := Kd.V_slice HO302.out
      (first | subst eo38 | (injection eo38 with f1_ f2_ f3_; have f4_ := f1_.symm; have f5_ := f3_.symm; clear f1_ f2_ f3_; subst f4_; subst f5_))
      refine hK.out _ _ ⟨(blk_cell BK285.out 0).trans rfl, (blk_cell BK285.out 1).trans rfl, (blk_cell BK285.out 2).trans rfl, (blk_cell BK289.out 0).trans rfl, (blk_cell BK289.out 1).trans rfl⟩ (fun hHeld => ?_)
      clear hK K
      refine norm_ (a' := ?_) ?_ ?_
      rotate_left
      ·show Act.put _ (some 42) _ = _
       simp only [Act.put, List.setIfInBounds_toArray, List.set_cons_zero, List.set_cons_succ, i64_w, i32_w]
       rfl
      refine pure_ (i := 16) (N := some 43) (v := ?_) (a' := ?_) #[true, true, true, true, true, true, true, true, true, true, true, true, true, true, true, true, true, false, false, false] rfl rfl (any_of HT_.out (by kernel_rfl)) (fun _ _ _ h => h) (Or.inl ⟨by rfl, ?_⟩) ?_ ?_
      rotate_left
      ·intro w'
       go_simp
       with_reducible rfl
      rotate_left
      ·simp only [Act.put, List.setIfInBounds_toArray, List.set_cons_zero, List.set_cons_succ, i64_w, i32_w]
       rfl
      refine pure_ (i := 17) (N := some 44) (v := ?_) (a' := ?_) #[true, true, true, true, true, true, true, true, true, true, true, true, true, true, true, true, true, true, false, false] rfl rfl (any_of HT_.out (by kernel_rfl)) (fun _ _ _ h => h) (Or.inl ⟨by rfl, ?_⟩) ?_ ?_
      rotate_left
      ·intro w'
       go_simp
       with_reducible rfl
      rotate_left
      ·simp only [Act.put, List.setIfInBounds_toArray, List.set_cons_zero, List.set_cons_succ, i64_w, i32_w]
       rfl
      refine one_ (i := 18) (N := none) #[true, true, true, true, true, true, true, true, true, true, true, true, true, true, true, true, true, true, true, false] rfl rfl (one_of HT_.out (by kernel_rfl)) (by decide) (fun K hK => ?_)
      have hs36 : w35.cell? ⟨gb286, 0, none⟩ = some (.int .i64 0) := (blk_cell BK286.out 0).trans rfl
      have hfs36 := blk_frozen BK286.out 0
      have hns36_0 := NB285_286.out
      have hns36_2 := NB289_286.out
      have hms36_0 := NB286_285.out
      have hms36_2 := NB286_289.out
      have hs37 : w35.cell? ⟨gb286, 1, none⟩ = some (.int .i64 0) := (blk_cell BK286.out 1).trans rfl
      have hfs37 := blk_frozen BK286.out 1
      have hns37_0 := NB285_286.out
      have hns37_2 := NB289_286.out
      have hms37_0 := NB286_285.out
      have hms37_2 := NB286_289.out
      have hs39 : w35.cell? ⟨gb286, 2, none⟩ = some (.slice none 0 0) := (blk_cell BK286.out 2).trans rfl
      have hfs39 := blk_frozen BK286.out 2
      have hns39_0 := NB285_286.out
      have hns39_2 := NB289_286.out
      have hms39_0 := NB286_285.out
      have hms39_2 := NB286_289.out
      refine skip_ (w1 := ?_) (by rfl) rfl ?_ ?_
      rotate_left
      ·go_simp
       rfl
      refine hK.out _ _ ⟨((cell_far (p := ⟨gb286, _, none⟩) NB285_286.out _).trans (((cell_far (p := ⟨gb286, _, none⟩) NB285_286.out _).trans (((cell_far (p := ⟨gb286, _, none⟩) NB285_286.out _).trans (hHeld.1)))))), ((cell_far (p := ⟨gb286, _, none⟩) NB285_286.out _).trans (((cell_far (p := ⟨gb286, _, none⟩) NB285_286.out _).trans (((cell_far (p := ⟨gb286, _, none⟩) NB285_286.out _).trans (hHeld.2.1)))))), ((cell_far (p := ⟨gb286, _, none⟩) NB285_286.out _).trans (((cell_far (p := ⟨gb286, _, none⟩) NB285_286.out _).trans (((cell_far (p := ⟨gb286, _, none⟩) NB285_286.out _).trans (hHeld.2.2.1)))))), ((cell_far (p := ⟨gb286, _, none⟩) NB289_286.out _).trans (((cell_far (p := ⟨gb286, _, none⟩) NB289_286.out _).trans (((cell_far (p := ⟨gb286, _, none⟩) NB289_286.out _).trans (hHeld.2.2.2.1)))))), ((cell_far (p := ⟨gb286, _, none⟩) NB289_286.out _).trans (((cell_far (p := ⟨gb286, _, none⟩) NB289_286.out _).trans (((cell_far (p := ⟨gb286, _, none⟩) NB289_286.out _).trans (hHeld.2.2.2.2))))))⟩ (fun hHeld => ?_)
      clear hK K
      refine pure_ (i := 19) (N := some 5) (v := ?_) (a' := ?_) #[true, true, true, true, true, true, true, true, true, true, true, true, true, true, true, true, true, true, true, true] rfl rfl (any_of HT_.out (by kernel_rfl)) (fun _ _ _ h => h) (Or.inl ⟨by rfl, ?_⟩) ?_ ?_
      rotate_left
      ·intro w'
       go_simp
       with_reducible rfl
      rotate_left
      ·simp only [Act.put, List.setIfInBounds_toArray, List.set_cons_zero, List.set_cons_succ, i64_w, i32_w]
       rfl
      refine done_ (done_of HT_.out (by kernel_rfl)) ?_
      try go_wp2
      refine bodyPost_ret (results_ct rfl _ _ gb286 28 #[.int .i64 t298, .int .i64 t299, .slice Ao38 t300.length co38] (0, 0) _ rfl (by (with_reducible repeat (first | refine blk_drewN ?_ _ | refine blk_drew ?_ | refine blk_alloc ?_ _)); refine blk_put (cs := #[.int .i64 t298, .int .i64 t299, .slice none 0 0]) ?_ 2 _ rfl; (with_reducible repeat (first | refine blk_drewN ?_ _ | refine blk_drew ?_ | refine blk_alloc ?_ _)); refine blk_put (cs := #[.int .i64 t298, .int .i64 0, .slice none 0 0]) ?_ 1 _ rfl; (with_reducible repeat (first | refine blk_drewN ?_ _ | refine blk_drew ?_ | refine blk_alloc ?_ _)); refine blk_put (cs := #[.int .i64 0, .int .i64 0, .slice none 0 0]) ?_ 0 _ rfl; (with_reducible repeat (first | refine blk_drewN ?_ _ | refine blk_drew ?_ | refine blk_alloc ?_ _)); exact BK286.out) Try.underlying28 rfl (by kernel_rfl)) rfl ?_
      exact ⟨_, _, by first | rfl | (simp [errW_none, errW_some] <;> rfl) | (simp [*, errW_none, errW_some] <;> rfl), by (with_reducible repeat (first | apply Kd.V_alloc | apply Kd.V_drewN | apply Kd.V_drew)); exact Kd.V_mono (Kd.V_far (p := ⟨gb286, 2, none⟩) (Kd.V_far (p := ⟨gb286, 1, none⟩) (Kd.V_far (p := ⟨gb286, 0, none⟩) (Kd.V_mono HO302.out (fun k_ hk => (⟨hk, hk.2.2.2.1⟩ : _ ∧ k_ ≠ gb286))) (fun _ hk => hk.2) (.int .i64 t298)) (fun _ hk => hk.2) (.int .i64 t299)) (fun _ hk => hk.2) (.slice Ao38 t300.length co38)) (fun _ hk => ⟨hk.1.1, hk.1.2.1⟩), by (with_reducible repeat (first | apply Kd.R_alloc | apply Kd.R_drewN | apply Kd.R_drew)); exact Kd.R_mono (Kd.R_far (p := ⟨gb286, 2, none⟩) (Kd.R_far (p := ⟨gb286, 1, none⟩) (Kd.R_far (p := ⟨gb286, 0, none⟩) (Kd.R_types HO305.out BK286.out (by decide)) (fun _ hk => hk.2) (.int .i64 t298)) (fun _ hk => hk.2) (.int .i64 t299)) (fun _ hk => hk.2) (.slice Ao38 t300.length co38)) (fun _ hk => hk.1.1), by repeat (first | (with_reducible first | exact HB.out | apply below_alloc | apply pw_below_drewN | apply below_drew1 | refine below_set ?_ GE285.out | refine below_set ?_ GE286.out | refine below_set ?_ GE289.out) | exact HB.out), by repeat (first | (with_reducible first | exact HK.out | apply Kept.alloc | apply Kept.drewN | apply Kept.drew | refine Kept.setCell ?_ (.inr GW285.out) _ | refine Kept.setCell ?_ (.inr GW286.out) _ | refine Kept.setCell ?_ (.inr GW289.out) _) | exact HK.out)⟩
     ·rw [if_neg c19] at H
      exact absurd H (by simp)
    ·rw [if_neg c18] at H
     exact absurd H (by simp)
  ·rw [if_neg c10] at H
   exact absurd H (by simp)

end Go.Proofs.Ythbcajkphkdnmaa.PSemaTells
