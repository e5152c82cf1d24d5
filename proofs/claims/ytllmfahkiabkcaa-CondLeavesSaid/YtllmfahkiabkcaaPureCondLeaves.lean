/- What the law CondLeaves computes is true: a plain law over what the printed functions tell; for every input. -/
import Derived.Test.YtllmfahkiabkcaaPCondLeavesx5
import Derived.Test.YtllmfahkiabkcaaEv
namespace Go.Proofs.Ytllmfahkiabkcaa.Pure
section core
open Go.RowKit Go.Proofs.Ytllmfahkiabkcaa.PCondLeaves Go.Proofs.YtllmfahkiabkcaaW.PrintWords Go.Proofs.YtllmfahkiabkcaaW.PrintLast Go.Proofs.YtllmfahkiabkcaaW.PrintMore Go.Proofs.Ytllmfahkiabkcaa.Ev
set_option linter.unusedVariables false
set_option linter.unusedSimpArgs false

theorem somebody (w : Int) : cond_somebody.f w = some (decide (1 ≤ w ∧ w ≤ 8)) := by
  unfold cond_somebody.f
  by_cases h : w ≥ 1
  · rw [if_pos h]; congr 1; apply decide_eq_decide.mpr; exact ⟨fun x => ⟨h, x⟩, fun x => x.2⟩
  · rw [if_neg h]; congr 1; symm; apply decide_eq_false; intro x; exact h x.1
theorem index_loop (h : List Int) (w : Int) (hb : h.length < 9223372036854775807) : ∀ n i : Nat, h.length - i = n → i ≤ h.length → w ∉ h.take i →
    Tl (fun k => slices_Index_int_int.l0 k h w (h.length : Int) (i : Int)) (fnd h w) := by
  intro n
  induction n with
  | zero =>
    intro i hn hi hm
    have : i = h.length := by omega
    subst this
    rw [List.take_length] at hm
    refine Tl.succ ?_
    simp only [slices_Index_int_int.l0]
    refine Tl.neg (by omega) ?_
    rw [fnd_none h w hm]
    exact Tl.const
  | succ n ih =>
    intro i hn hi hm
    have hlt : i < h.length := by omega
    refine Tl.succ ?_
    simp only [slices_Index_int_int.l0]
    refine Tl.pos (by omega) (Tl.pos (by omega) (Tl.pos (by omega) ?_))
    rw [rd_nat h i hlt]
    refine Tl.ite (fun e => ?_) (fun e => ?_)
    · rw [fnd_at h w i hlt e.symm hm]
      exact Tl.const
    · rw [w64 (by omega) (by omega)]
      exact ih (i + 1) (by omega) (by omega) (take_notMem_succ hlt hm (fun x => e x.symm))
theorem index (h : List Int) (w : Int) (hb : h.length < 9223372036854775807) : Tl (fun k => slices_Index_int_int.f k h w) (fnd h w) := by
  unfold slices_Index_int_int.f
  exact index_loop h w hb _ 0 rfl (Nat.zero_le _) (by simp)
theorem contains (h : List Int) (w : Int) (hb : h.length < 9223372036854775807) : Tl (fun k => slices_Contains_int_int.f k h w) (decide (w ∈ h)) := by
  unfold slices_Contains_int_int.f
  refine Tl.bind (index h w hb) ?_
  refine Tl.const.cast ?_
  exact decide_eq_decide.mpr (fnd_nonneg h w)
theorem clone (h : List Int) (hb : h.length < 17592186044416) : slices_Clone_int_int.f h = some h := by unfold slices_Clone_int_int.f; rw [if_pos hb]
theorem concat (a b : List Int) (hb : a.length + b.length < 17592186044416) : slices_Concat_int_int.f [a, b] = some (a ++ b) := by
  unfold slices_Concat_int_int.f
  rw [if_pos (by simp), if_pos (by simpa using hb)]
  simp

/-- Is it a condition? -/
def Rt (q t : List Int) : Prop := (∀ x ∈ q ++ t, 1 ≤ x ∧ x ≤ 8) ∧ (q ++ t).Nodup
instance (q t : List Int) : Decidable (Rt q t) := by unfold Rt; infer_instance
theorem fnd_first {h : List Int} (i : Nat) (hi : i < h.length) : fnd h h[i] = (i : Int) ↔ h[i] ∉ h.take i := by
  refine ⟨fun e hm => ?_, fun hn => fnd_at h _ i hi rfl hn⟩
  have hm' : h[i] ∈ h := List.getElem_mem hi
  unfold fnd at e
  rw [if_pos hm'] at e
  have e2 : h.idxOf h[i] = i := by omega
  have : h.idxOf h[i] < i := by
    have g : ∀ w, w ∈ h.take i → h.idxOf w < i := by
      intro w hw
      have : (h.take i ++ h.drop i).idxOf w = (h.take i).idxOf w := by rw [List.idxOf_append, if_pos hw]
      rw [List.take_append_drop] at this
      have := List.idxOf_lt_length_of_mem hw
      simp at this
      omega
    exact g _ hm
  omega
theorem right_loop (h : List Int) (hb : h.length < 9223372036854775807) : ∀ n i : Nat, h.length - i = n → i ≤ h.length → (∀ x ∈ h.take i, 1 ≤ x ∧ x ≤ 8) → (h.take i).Nodup →
    Tl (fun k => cond_Right.l0 k h h (h.length : Int) (i : Int)) (decide ((∀ x ∈ h, 1 ≤ x ∧ x ≤ 8) ∧ h.Nodup)) := by
  intro n
  induction n with
  | zero =>
    intro i hn hi h1 h2
    have : i = h.length := by omega
    subst this
    rw [List.take_length] at h1 h2
    refine Tl.succ ?_
    simp only [cond_Right.l0]
    refine Tl.neg (by omega) ?_
    refine Tl.const.cast ?_
    symm; exact decide_eq_true ⟨h1, h2⟩
  | succ n ih =>
    intro i hn hi h1 h2
    have hlt : i < h.length := by omega
    refine Tl.succ ?_
    simp only [cond_Right.l0]
    refine Tl.pos (by omega) (Tl.pos (by omega) (Tl.pos (by omega) ?_))
    rw [rd_nat h i hlt]
    refine Tl.bindO (somebody _) ?_
    refine Tl.ite (fun e => ?_) (fun e => ?_)
    · refine Tl.bind (index h _ hb) ?_
      refine Tl.ite (fun e2 => ?_) (fun e2 => ?_)
      · rw [w64 (by omega) (by omega)]
        rw [fnd_first i hlt] at e2
        refine ih (i + 1) (by omega) (by omega) ?_ ?_
        · rw [List.take_succ_eq_append_getElem hlt]
          intro x hx
          rcases List.mem_append.1 hx with hx | hx
          · exact h1 x hx
          · rw [List.mem_singleton.1 hx]; exact of_decide_eq_true e
        · rw [List.take_succ_eq_append_getElem hlt]
          rw [List.nodup_append]
          refine ⟨h2, by simp, ?_⟩
          intro a ha b hb' e3
          rw [List.mem_singleton.1 hb'] at e3
          exact e2 (e3 ▸ ha)
      · refine Tl.const.cast ?_
        symm; apply decide_eq_false
        intro x
        rw [fnd_first i hlt] at e2
        apply e2
        intro hm
        have e3 : h = h.take i ++ h[i] :: h.drop (i + 1) := by simp
        have := x.2
        rw [e3, List.nodup_append] at this
        exact this.2.2 _ hm _ (List.mem_cons_self ..) rfl
    · refine Tl.const.cast ?_
      symm; apply decide_eq_false
      exact fun x => e (decide_eq_true (x.1 _ (List.getElem_mem hlt)))
theorem right (q t : List Int) (hb : q.length + t.length < 17592186044416) : Tl (fun k => cond_Right.f k q t) (decide (Rt q t)) := by
  unfold cond_Right.f
  exact Tl.bindO (concat q t hb) (right_loop (q ++ t) (by simp; omega) _ 0 rfl (Nat.zero_le _) (by simp) (by simp))

/-- How many are told. -/
def num (a : Int) (q : List Int) : Nat := min a.toNat q.length
theorem mx_mn (a : Int) (q : List Int) : mx 0 (mn a (q.length : Int)) = (num a q : Int) := by
  unfold num mx mn
  omega
theorem num_le (a : Int) (q : List Int) : num a q ≤ q.length := by unfold num; omega
theorem signal {q t : List Int} (a : Int) (h : Rt q t) (hb : q.length + t.length < 17592186044416) : Tl (fun k => cond_Signal.f k q t a) (q.drop (num a q), t ++ q.take (num a q), q.take (num a q)) := by
  unfold cond_Signal.f
  have hn := num_le a q
  rw [mx_mn]
  refine Tl.bind (right q t hb) (Tl.pos (decide_eq_true h) (Tl.pos (by omega) (Tl.pos (by omega) (Tl.bind0 ?_))))
  simp only [Int.toNat_natCast]
  exact Tl.bindO (concat t _ (by simp; omega)) Tl.const
theorem signal_bad {q t : List Int} (a : Int) (h : ¬ Rt q t) (hb : q.length + t.length < 17592186044416) : Tl (fun k => cond_Signal.f k q t a) (q, t, []) := by
  unfold cond_Signal.f
  exact Tl.bind (right q t hb) (Tl.neg (by simp [h]) Tl.const)
theorem Rt.told {q t : List Int} (h : Rt q t) (n : Nat) : Rt (q.drop n) (t ++ q.take n) := by
  have p : List.Perm (q.drop n ++ (t ++ q.take n)) (q ++ t) := by
    have e : q ++ t = q.take n ++ (q.drop n ++ t) := by rw [← List.append_assoc, List.take_append_drop]
    rw [e, ← List.append_assoc]
    exact List.perm_append_comm
  exact ⟨fun x hx => h.1 x (p.mem_iff.1 hx), p.nodup_iff.2 h.2⟩
theorem nodup_le : ∀ (l m : List Int), l.Nodup → (∀ x ∈ l, x ∈ m) → l.length ≤ m.length := by
  intro l
  induction l with
  | nil => intro m _ _; simp
  | cons x l ih =>
    intro m hn hs
    have hx : x ∈ m := hs x (by simp)
    have h1 := ih (m.erase x) (List.nodup_cons.1 hn).2 (fun y hy => by
      refine (List.mem_erase_of_ne ?_).2 (hs y (by simp [hy]))
      intro e; subst e
      exact (List.nodup_cons.1 hn).1 hy)
    have h2 := List.length_erase_of_mem hx
    have h3 : 0 < m.length := List.length_pos_of_mem hx
    simp only [List.length_cons]
    omega

theorem len8 {l : List Int} (h1 : ∀ x ∈ l, 1 ≤ x ∧ x ≤ 8) (h2 : l.Nodup) : l.length ≤ 8 := by
  have := nodup_le l [1, 2, 3, 4, 5, 6, 7, 8] h2 (fun x hx => by
    have := h1 x hx
    simp
    omega)
  simpa using this
theorem Rt.len {q t : List Int} (h : Rt q t) : q.length + t.length ≤ 8 := by
  have := len8 h.1 h.2
  simpa using this

/-- One more waits. -/
theorem wait_bad {q t : List Int} (w : Int) (h : ¬ (Rt q t ∧ 1 ≤ w ∧ w ≤ 8)) (hb : q.length + t.length < 17592186044416) : Tl (fun k => cond_Wait.f k q t w) (q, t, 1) := by
  unfold cond_Wait.f
  have hbad : Tl (fun k => cond_Wait.j0 k w true q t) ((q, t, 1) : List Int × List Int × Int) := by
    refine Tl.succ ?_
    simp only [cond_Wait.j0]
    exact Tl.pos trivial Tl.const
  refine Tl.bind (right q t hb) (Tl.ite (fun e => ?_) (fun e => hbad))
  refine Tl.bindO (somebody w) ?_
  have hw : ¬ (1 ≤ w ∧ w ≤ 8) := fun x => h ⟨of_decide_eq_true e, x⟩
  rw [decide_eq_false hw]
  exact hbad
theorem wait_there {q t : List Int} (w : Int) (h : Rt q t) (hw : 1 ≤ w ∧ w ≤ 8) (hm : w ∈ q ∨ w ∈ t) : Tl (fun k => cond_Wait.f k q t w) (q, t, 9) := by
  unfold cond_Wait.f
  have hl := h.len
  refine Tl.bind (right q t (by omega)) (Tl.pos (decide_eq_true h) (Tl.bindO (somebody w) ?_))
  rw [decide_eq_true hw]
  refine Tl.succ ?_
  simp only [cond_Wait.j0]
  refine Tl.neg (by simp) (Tl.bind (contains q w (by omega)) (Tl.ite (fun e => Tl.const) (fun e => ?_)))
  have hq : w ∉ q := fun x => e (decide_eq_true x)
  exact Tl.bind (contains t w (by omega)) (Tl.pos (decide_eq_true (by simpa [hq] using hm)) Tl.const)
theorem wait_ok {q t : List Int} (w : Int) (h : Rt q t) (hw : 1 ≤ w ∧ w ≤ 8) (hq : w ∉ q) (ht : w ∉ t) : Tl (fun k => cond_Wait.f k q t w) (q ++ [w], t, 0) := by
  unfold cond_Wait.f
  have hl := h.len
  refine Tl.bind (right q t (by omega)) (Tl.pos (decide_eq_true h) (Tl.bindO (somebody w) ?_))
  rw [decide_eq_true hw]
  refine Tl.succ ?_
  simp only [cond_Wait.j0]
  exact Tl.neg (by simp) (Tl.bind (contains q w (by omega)) (Tl.neg (by simp [hq]) (Tl.bind (contains t w (by omega)) (Tl.neg (by simp [ht]) (Tl.bindO (clone q (by omega)) (Tl.pos (by omega) Tl.const))))))
theorem Rt.more {q t : List Int} {w : Int} (h : Rt q t) (hw : 1 ≤ w ∧ w ≤ 8) (hq : w ∉ q) (ht : w ∉ t) : Rt (q ++ [w]) t := by
  have p : List.Perm ((q ++ [w]) ++ t) (w :: (q ++ t)) := by
    rw [List.append_assoc]
    exact List.perm_middle
  refine ⟨fun x hx => ?_, p.nodup_iff.2 ?_⟩
  · rcases List.mem_cons.1 (p.mem_iff.1 hx) with rfl | hx
    · exact hw
    · exact h.1 x hx
  · rw [List.nodup_cons]
    exact ⟨by simp [hq, ht], h.2⟩
theorem without (l : List Int) (w : Int) (hb : l.length < 17592186044416) : cond_without.f l w = some (l.filter fun x => !(x == w)) := by
  unfold cond_without.f
  rw [clone l hb]
  rfl
theorem out_no {l : List Int} {w : Int} (h : w ∉ l) : (l.filter fun x => !(x == w)) = l := by
  rw [List.filter_eq_self]
  intro x hx
  have : x ≠ w := fun e => h (e ▸ hx)
  simp [this]

/-- Who leaves. -/
theorem leave_bad {q t : List Int} (w : Int) (h : ¬ Rt q t) (hb : q.length + t.length < 17592186044416) : Tl (fun k => cond_Leave.f k q t w) (q, t, false, 1) := by
  unfold cond_Leave.f
  exact Tl.bind (right q t hb) (Tl.neg (by simp [h]) Tl.const)
theorem leave_none {q t : List Int} (w : Int) (h : Rt q t) (hq : w ∉ q) (ht : w ∉ t) : Tl (fun k => cond_Leave.f k q t w) (q, t, false, 3) := by
  unfold cond_Leave.f
  have hl := h.len
  refine Tl.bind (right q t (by omega)) (Tl.pos (decide_eq_true h) (Tl.bind (index t w (by omega)) ?_))
  rw [fnd_none t w ht]
  refine Tl.neg (by omega) (Tl.succ ?_)
  simp only [cond_Leave.j0]
  refine Tl.neg (by simp) (Tl.pos (by omega) (Tl.bind (contains q w (by omega)) ?_))
  rw [decide_eq_false hq]
  refine Tl.succ ?_
  simp only [cond_Leave.j1]
  exact Tl.pos rfl Tl.const
/-- .. who was told, and somebody waits: that one is told in their place. -/
theorem leave_moved {q t : List Int} (w x : Int) (h : Rt (x :: q) t) (ht : w ∈ t) : Tl (fun k => cond_Leave.f k (x :: q) t w) (q, t.set (t.idxOf w) x, true, 0) := by
  unfold cond_Leave.f
  have hl := h.len
  simp only [List.length_cons] at hl
  have hi := List.idxOf_lt_length_of_mem ht
  refine Tl.bind (right (x :: q) t (by simp; omega)) (Tl.pos (decide_eq_true h) (Tl.bind (index t w (by omega)) ?_))
  have hf : fnd t w = (t.idxOf w : Int) := if_pos ht
  rw [hf, decide_eq_true (show ((x :: q).length : Int) > 0 by simp only [List.length_cons]; omega)]
  refine Tl.pos (by omega) (Tl.succ ?_)
  simp only [cond_Leave.j0]
  refine Tl.pos trivial (Tl.bindO (clone t (by omega)) (Tl.pos (by simp only [List.length_cons]; omega) (Tl.pos (by omega) (Tl.pos (by omega) (Tl.pos (by simp only [List.length_cons]; omega) ?_)))))
  refine Tl.const.cast ?_
  simp [rd]
/-- .. else. -/
theorem leave_ok {q t : List Int} (w : Int) (h : Rt q t) (hw : (w ∈ q ∧ w ∉ t) ∨ (w ∈ t ∧ q = [])) : Tl (fun k => cond_Leave.f k q t w) (q.filter fun x => !(x == w), t.filter fun x => !(x == w), false, 0) := by
  unfold cond_Leave.f
  have hl := h.len
  have last : Tl (fun k => cond_Leave.j1 k w false q t) (q.filter fun x => !(x == w), t.filter fun x => !(x == w), false, 0) := by
    refine Tl.succ ?_
    simp only [cond_Leave.j1]
    exact Tl.neg (by simp) (Tl.bindO (without q w (by omega)) (Tl.bindO (without t w (by omega)) Tl.const))
  refine Tl.bind (right q t (by omega)) (Tl.pos (decide_eq_true h) (Tl.bind (index t w (by omega)) ?_))
  rcases hw with ⟨h1, h2⟩ | ⟨h1, h2⟩
  · rw [fnd_none t w h2]
    refine Tl.neg (by omega) (Tl.succ ?_)
    simp only [cond_Leave.j0]
    refine Tl.neg (by simp) (Tl.pos (by omega) (Tl.bind (contains q w (by omega)) ?_))
    rw [decide_eq_true h1]
    exact last
  · have hf : fnd t w = (t.idxOf w : Int) := if_pos h1
    rw [hf]
    subst h2
    refine Tl.pos (by omega) (Tl.succ ?_)
    simp only [cond_Leave.j0]
    exact Tl.neg (by simp) (Tl.neg (by omega) last)

/-- Who goes on. -/
theorem go_bad {q t : List Int} (w : Int) (h : ¬ Rt q t) (hb : q.length + t.length < 17592186044416) : Tl (fun k => cond_Go.f k q t w) (q, t, 1) := by
  unfold cond_Go.f
  exact Tl.bind (right q t hb) (Tl.neg (by simp [h]) Tl.const)
theorem go_waits {q t : List Int} (w : Int) (h : Rt q t) (hq : w ∈ q) : Tl (fun k => cond_Go.f k q t w) (q, t, 9) := by
  unfold cond_Go.f
  have hl := h.len
  exact Tl.bind (right q t (by omega)) (Tl.pos (decide_eq_true h) (Tl.bind (contains q w (by omega)) (Tl.pos (decide_eq_true hq) Tl.const)))
theorem go_none {q t : List Int} (w : Int) (h : Rt q t) (hq : w ∉ q) (ht : w ∉ t) : Tl (fun k => cond_Go.f k q t w) (q, t, 3) := by
  unfold cond_Go.f
  have hl := h.len
  exact Tl.bind (right q t (by omega)) (Tl.pos (decide_eq_true h) (Tl.bind (contains q w (by omega)) (Tl.neg (by simp [hq]) (Tl.bind (contains t w (by omega)) (Tl.neg (by simp [ht]) Tl.const)))))
theorem go_ok {q t : List Int} (w : Int) (h : Rt q t) (hq : w ∉ q) (ht : w ∈ t) : Tl (fun k => cond_Go.f k q t w) (q, t.filter fun x => !(x == w), 0) := by
  unfold cond_Go.f
  have hl := h.len
  exact Tl.bind (right q t (by omega)) (Tl.pos (decide_eq_true h) (Tl.bind (contains q w (by omega)) (Tl.neg (by simp [hq]) (Tl.bind (contains t w (by omega)) (Tl.pos (decide_eq_true ht) (Tl.bindO (without t w (by omega)) Tl.const))))))

theorem numbers_loop (a : List Int) (hb : a.length < 9223372036854775807) : ∀ n i : Nat, a.length - i = n → i ≤ a.length →
    Tl (fun k => handshakerref03_Numbers.l0 k a a (i : Int)) true := by
  intro n
  induction n with
  | zero =>
    intro i hn hi
    refine Tl.succ ?_
    simp only [handshakerref03_Numbers.l0]
    exact Tl.neg (by omega) Tl.const
  | succ n ih =>
    intro i hn hi
    refine Tl.succ ?_
    simp only [handshakerref03_Numbers.l0]
    refine Tl.pos (by omega) (Tl.pos (by omega) (Tl.pos (by omega) (Tl.pos trivial ?_)))
    rw [w64 (by omega) (by omega)]
    exact ih (i + 1) (by omega) (by omega)
theorem numbers (a : List Int) (hb : a.length < 9223372036854775807) : Tl (fun k => handshakerref03_Numbers.f k a a) true := by
  unfold handshakerref03_Numbers.f
  exact Tl.pos rfl (numbers_loop a hb _ 0 rfl (Nat.zero_le _))
theorem awake : Tl (fun k => handshakerlaw20_awake.f k) true := Tl.of_mono handshakerlaw20_awake.mono 40 (by decide +kernel)
theorem awake' : Tl (fun k => (handshakerlaw20_awake.f k).bind fun t => some t) true := Tl.bind awake Tl.const
end core
section same
open Go.RowKit Go.Proofs.Ytllmfahkiabkcaa.PCondLeaves Go.Proofs.YtllmfahkiabkcaaW.PrintWords Go.Proofs.YtllmfahkiabkcaaW.PrintLast Go.Proofs.YtllmfahkiabkcaaW.PrintMore Go.Proofs.Ytllmfahkiabkcaa.Ev
set_option linter.unusedVariables false
set_option linter.unusedSimpArgs false
theorem same (q t : List Int) (hb : q.length + t.length < 9223372036854775807) : Tl (fun k => handshakerref20_Same.f k q t q t) true := by
  unfold handshakerref20_Same.f
  exact Tl.bind (numbers q (by omega)) (Tl.bind (numbers t (by omega)) (Tl.pos rfl Tl.const))
end same
section leaves
open Go.RowKit Go.Proofs.Ytllmfahkiabkcaa.PCondLeaves Go.Proofs.YtllmfahkiabkcaaW.PrintWords Go.Proofs.YtllmfahkiabkcaaW.PrintLast Go.Proofs.YtllmfahkiabkcaaW.PrintMore Go.Proofs.Ytllmfahkiabkcaa.Ev
set_option linter.unusedVariables false
set_option linter.unusedSimpArgs false
theorem CondLeaves (z0_0 : List (Int)) (z0_1 : List (Int)) (z1 : Int) (q0_0 : z0_0.length ≤ maxLen ∧ ∀ x_ ∈ z0_0, (Lit.int .i64 x_).wf = true) (q0_1 : z0_1.length ≤ maxLen ∧ ∀ x_ ∈ z0_1, (Lit.int .i64 x_).wf = true) (q1 : (Lit.int .i64 z1).wf = true) : ∃ k, handshakerlaw20_CondLeaves.f k z0_0 z0_1 z1 = some true := by
  refine Tl.some ?_
  unfold handshakerlaw20_CondLeaves.f
  by_cases hs : (z0_0.length : Int) ≤ 30 ∧ (z0_1.length : Int) ≤ 30
  · have e : handshakerlaw20_small.f z0_0 z0_1 = some true := by unfold handshakerlaw20_small.f; simp [hs.1, hs.2]
    refine Tl.bindO e (Tl.pos rfl ?_)
    by_cases h : Rt z0_0 z0_1 ∧ 1 ≤ z1 ∧ z1 ≤ 8
    · obtain ⟨h, hw⟩ := h
      have hl := h.len
      by_cases hm : z1 ∈ z0_0 ∨ z1 ∈ z0_1
      · exact Tl.bind (wait_there z1 h hw hm) (Tl.neg (by simp) (Tl.bind0 (Tl.bind0 (Tl.bind (same z0_0 z0_1 (by omega)) (Tl.pos rfl awake')))))
      · have hq : z1 ∉ z0_0 := fun x => hm (.inl x)
        have ht : z1 ∉ z0_1 := fun x => hm (.inr x)
        have r1 := h.more hw hq ht
        have l1 := r1.len
        have hn : num (((z0_0 ++ [z1]).length : Nat) : Int) (z0_0 ++ [z1]) = (z0_0 ++ [z1]).length := by unfold num; omega
        have hn0 : num ((z0_0.length : Nat) : Int) z0_0 = z0_0.length := by unfold num; omega
        have s1 := signal (((z0_0 ++ [z1]).length : Nat) : Int) r1 (by omega)
        have s0 := signal ((z0_0.length : Nat) : Int) h (by omega)
        have r2 := r1.told (z0_0 ++ [z1]).length
        rw [hn, List.drop_length, List.take_length] at s1
        rw [hn0, List.drop_length, List.take_length] at s0
        rw [List.drop_length, List.take_length] at r2
        have v1 := leave_ok z1 r1 (.inl ⟨by simp, ht⟩)
        have v2 := leave_ok z1 r2 (.inr ⟨by simp, rfl⟩)
        have f1 : ((z0_0 ++ [z1]).filter fun x => !(x == z1)) = z0_0 := by rw [List.filter_append, out_no hq]; simp
        rw [f1, out_no ht] at v1
        rw [List.filter_append, out_no ht, f1, List.filter_nil] at v2
        refine Tl.bind (wait_ok z1 h hw hq ht) (Tl.pos rfl ?_)
        refine Tl.bind v1 (Tl.bind s1 (Tl.bind v2 (Tl.bind s0 ?_)))
        refine Tl.pos rfl (Tl.neg (by simp) (Tl.bind0 (Tl.bind0 (Tl.bind (same z0_0 z0_1 (by omega)) (Tl.pos rfl ?_)))))
        refine Tl.pos ?_ (Tl.pos rfl (Tl.neg (by simp) (Tl.bind0 (Tl.bind0 (Tl.bind (same [] (z0_1 ++ z0_0) (by simp; omega)) (Tl.pos rfl awake'))))))
        rw [w64 (by omega) (by omega)]
        simp
    · exact Tl.bind (wait_bad z1 h (by omega)) (Tl.neg (by simp) (Tl.bind0 (Tl.bind0 (Tl.bind (same z0_0 z0_1 (by omega)) (Tl.pos rfl awake')))))
  · have e : handshakerlaw20_small.f z0_0 z0_1 = some false := by
      unfold handshakerlaw20_small.f
      by_cases h1 : (z0_0.length : Int) ≤ 30
      · rw [if_pos h1, decide_eq_false (fun x => hs ⟨h1, x⟩)]
      · rw [if_neg h1]
    exact Tl.bindO e (Tl.neg (by simp) awake')
end leaves
end Go.Proofs.Ytllmfahkiabkcaa.Pure
