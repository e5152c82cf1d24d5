/- What the law CondTells computes is true: a plain law over what the printed functions tell; for every input. -/
import Derived.Test.YtllmfahkiabkcaaPCondTellsx10
import Derived.Test.YtllmfahkiabkcaaEv
namespace Go.Proofs.Ytllmfahkiabkcaa.Pure
section core
open Go.RowKit Go.Proofs.Ytllmfahkiabkcaa.PCondTells Go.Proofs.YtllmfahkiabkcaaW.PrintWords Go.Proofs.YtllmfahkiabkcaaW.PrintLast Go.Proofs.YtllmfahkiabkcaaW.PrintMore Go.Proofs.Ytllmfahkiabkcaa.Ev
set_option linter.unusedVariables false
set_option linter.unusedSimpArgs false

theorem somebody (w : Int) : cond_somebody.f w = some (decide (1 ≤ w ∧ w ≤ 8)) := by
  unfold cond_somebody.f
  by_cases h : w ≥ 1
  · rw [if_pos h]; congr 1; apply decide_eq_decide.mpr; exact ⟨fun x => ⟨h, x⟩, fun x => x.2⟩
  · rw [if_neg h]; congr 1; symm; apply decide_eq_false; intro x; exact h x.1
theorem index_loop (h : List Int) (w : Int) (hb : h.length < 9223372036854775807) : ∀ n i : Nat, h.length - i = n → i ≤ h.length → w ∉ h.take i →
    Tl (fun k => slices_Index_int_int.l0 k h w (h.length : Int) (i : Int)) (fnd h w) := by
  intro n
  induction n with
  | zero =>
    intro i hn hi hm
    have : i = h.length := by omega
    subst this
    rw [List.take_length] at hm
    refine Tl.succ ?_
    simp only [slices_Index_int_int.l0]
    refine Tl.neg (by omega) ?_
    rw [fnd_none h w hm]
    exact Tl.const
  | succ n ih =>
    intro i hn hi hm
    have hlt : i < h.length := by omega
    refine Tl.succ ?_
    simp only [slices_Index_int_int.l0]
    refine Tl.pos (by omega) (Tl.pos (by omega) (Tl.pos (by omega) ?_))
    rw [rd_nat h i hlt]
    refine Tl.ite (fun e => ?_) (fun e => ?_)
    · rw [fnd_at h w i hlt e.symm hm]
      exact Tl.const
    · rw [w64 (by omega) (by omega)]
      exact ih (i + 1) (by omega) (by omega) (take_notMem_succ hlt hm (fun x => e x.symm))
theorem index (h : List Int) (w : Int) (hb : h.length < 9223372036854775807) : Tl (fun k => slices_Index_int_int.f k h w) (fnd h w) := by
  unfold slices_Index_int_int.f
  exact index_loop h w hb _ 0 rfl (Nat.zero_le _) (by simp)
theorem contains (h : List Int) (w : Int) (hb : h.length < 9223372036854775807) : Tl (fun k => slices_Contains_int_int.f k h w) (decide (w ∈ h)) := by
  unfold slices_Contains_int_int.f
  refine Tl.bind (index h w hb) ?_
  refine Tl.const.cast ?_
  exact decide_eq_decide.mpr (fnd_nonneg h w)
theorem clone (h : List Int) (hb : h.length < 17592186044416) : slices_Clone_int_int.f h = some h := by unfold slices_Clone_int_int.f; rw [if_pos hb]
theorem concat (a b : List Int) (hb : a.length + b.length < 17592186044416) : slices_Concat_int_int.f [a, b] = some (a ++ b) := by
  unfold slices_Concat_int_int.f
  rw [if_pos (by simp), if_pos (by simpa using hb)]
  simp

/-- Is it a condition? -/
def Rt (q t : List Int) : Prop := (∀ x ∈ q ++ t, 1 ≤ x ∧ x ≤ 8) ∧ (q ++ t).Nodup
instance (q t : List Int) : Decidable (Rt q t) := by unfold Rt; infer_instance
theorem fnd_first {h : List Int} (i : Nat) (hi : i < h.length) : fnd h h[i] = (i : Int) ↔ h[i] ∉ h.take i := by
  refine ⟨fun e hm => ?_, fun hn => fnd_at h _ i hi rfl hn⟩
  have hm' : h[i] ∈ h := List.getElem_mem hi
  unfold fnd at e
  rw [if_pos hm'] at e
  have e2 : h.idxOf h[i] = i := by omega
  have : h.idxOf h[i] < i := by
    have g : ∀ w, w ∈ h.take i → h.idxOf w < i := by
      intro w hw
      have : (h.take i ++ h.drop i).idxOf w = (h.take i).idxOf w := by rw [List.idxOf_append, if_pos hw]
      rw [List.take_append_drop] at this
      have := List.idxOf_lt_length_of_mem hw
      simp at this
      omega
    exact g _ hm
  omega
theorem right_loop (h : List Int) (hb : h.length < 9223372036854775807) : ∀ n i : Nat, h.length - i = n → i ≤ h.length → (∀ x ∈ h.take i, 1 ≤ x ∧ x ≤ 8) → (h.take i).Nodup →
    Tl (fun k => cond_Right.l0 k h h (h.length : Int) (i : Int)) (decide ((∀ x ∈ h, 1 ≤ x ∧ x ≤ 8) ∧ h.Nodup)) := by
  intro n
  induction n with
  | zero =>
    intro i hn hi h1 h2
    have : i = h.length := by omega
    subst this
    rw [List.take_length] at h1 h2
    refine Tl.succ ?_
    simp only [cond_Right.l0]
    refine Tl.neg (by omega) ?_
    refine Tl.const.cast ?_
    symm; exact decide_eq_true ⟨h1, h2⟩
  | succ n ih =>
    intro i hn hi h1 h2
    have hlt : i < h.length := by omega
    refine Tl.succ ?_
    simp only [cond_Right.l0]
    refine Tl.pos (by omega) (Tl.pos (by omega) (Tl.pos (by omega) ?_))
    rw [rd_nat h i hlt]
    refine Tl.bindO (somebody _) ?_
    refine Tl.ite (fun e => ?_) (fun e => ?_)
    · refine Tl.bind (index h _ hb) ?_
      refine Tl.ite (fun e2 => ?_) (fun e2 => ?_)
      · rw [w64 (by omega) (by omega)]
        rw [fnd_first i hlt] at e2
        refine ih (i + 1) (by omega) (by omega) ?_ ?_
        · rw [List.take_succ_eq_append_getElem hlt]
          intro x hx
          rcases List.mem_append.1 hx with hx | hx
          · exact h1 x hx
          · rw [List.mem_singleton.1 hx]; exact of_decide_eq_true e
        · rw [List.take_succ_eq_append_getElem hlt]
          rw [List.nodup_append]
          refine ⟨h2, by simp, ?_⟩
          intro a ha b hb' e3
          rw [List.mem_singleton.1 hb'] at e3
          exact e2 (e3 ▸ ha)
      · refine Tl.const.cast ?_
        symm; apply decide_eq_false
        intro x
        rw [fnd_first i hlt] at e2
        apply e2
        intro hm
        have e3 : h = h.take i ++ h[i] :: h.drop (i + 1) := by simp
        have := x.2
        rw [e3, List.nodup_append] at this
        exact this.2.2 _ hm _ (List.mem_cons_self ..) rfl
    · refine Tl.const.cast ?_
      symm; apply decide_eq_false
      exact fun x => e (decide_eq_true (x.1 _ (List.getElem_mem hlt)))
theorem right (q t : List Int) (hb : q.length + t.length < 17592186044416) : Tl (fun k => cond_Right.f k q t) (decide (Rt q t)) := by
  unfold cond_Right.f
  exact Tl.bindO (concat q t hb) (right_loop (q ++ t) (by simp; omega) _ 0 rfl (Nat.zero_le _) (by simp) (by simp))

/-- How many are told. -/
def num (a : Int) (q : List Int) : Nat := min a.toNat q.length
theorem mx_mn (a : Int) (q : List Int) : mx 0 (mn a (q.length : Int)) = (num a q : Int) := by
  unfold num mx mn
  omega
theorem num_le (a : Int) (q : List Int) : num a q ≤ q.length := by unfold num; omega
theorem signal {q t : List Int} (a : Int) (h : Rt q t) (hb : q.length + t.length < 17592186044416) : Tl (fun k => cond_Signal.f k q t a) (q.drop (num a q), t ++ q.take (num a q), q.take (num a q)) := by
  unfold cond_Signal.f
  have hn := num_le a q
  rw [mx_mn]
  refine Tl.bind (right q t hb) (Tl.pos (decide_eq_true h) (Tl.pos (by omega) (Tl.pos (by omega) (Tl.bind0 ?_))))
  simp only [Int.toNat_natCast]
  exact Tl.bindO (concat t _ (by simp; omega)) Tl.const
theorem signal_bad {q t : List Int} (a : Int) (h : ¬ Rt q t) (hb : q.length + t.length < 17592186044416) : Tl (fun k => cond_Signal.f k q t a) (q, t, []) := by
  unfold cond_Signal.f
  exact Tl.bind (right q t hb) (Tl.neg (by simp [h]) Tl.const)
theorem Rt.told {q t : List Int} (h : Rt q t) (n : Nat) : Rt (q.drop n) (t ++ q.take n) := by
  have p : List.Perm (q.drop n ++ (t ++ q.take n)) (q ++ t) := by
    have e : q ++ t = q.take n ++ (q.drop n ++ t) := by rw [← List.append_assoc, List.take_append_drop]
    rw [e, ← List.append_assoc]
    exact List.perm_append_comm
  exact ⟨fun x hx => h.1 x (p.mem_iff.1 hx), p.nodup_iff.2 h.2⟩
theorem nodup_le : ∀ (l m : List Int), l.Nodup → (∀ x ∈ l, x ∈ m) → l.length ≤ m.length := by
  intro l
  induction l with
  | nil => intro m _ _; simp
  | cons x l ih =>
    intro m hn hs
    have hx : x ∈ m := hs x (by simp)
    have h1 := ih (m.erase x) (List.nodup_cons.1 hn).2 (fun y hy => by
      refine (List.mem_erase_of_ne ?_).2 (hs y (by simp [hy]))
      intro e; subst e
      exact (List.nodup_cons.1 hn).1 hy)
    have h2 := List.length_erase_of_mem hx
    have h3 : 0 < m.length := List.length_pos_of_mem hx
    simp only [List.length_cons]
    omega

theorem len8 {l : List Int} (h1 : ∀ x ∈ l, 1 ≤ x ∧ x ≤ 8) (h2 : l.Nodup) : l.length ≤ 8 := by
  have := nodup_le l [1, 2, 3, 4, 5, 6, 7, 8] h2 (fun x hx => by
    have := h1 x hx
    simp
    omega)
  simpa using this
theorem Rt.len {q t : List Int} (h : Rt q t) : q.length + t.length ≤ 8 := by
  have := len8 h.1 h.2
  simpa using this

/-- One more waits. -/
theorem wait_bad {q t : List Int} (w : Int) (h : ¬ (Rt q t ∧ 1 ≤ w ∧ w ≤ 8)) (hb : q.length + t.length < 17592186044416) : Tl (fun k => cond_Wait.f k q t w) (q, t, 1) := by
  unfold cond_Wait.f
  have hbad : Tl (fun k => cond_Wait.j0 k w true q t) ((q, t, 1) : List Int × List Int × Int) := by
    refine Tl.succ ?_
    simp only [cond_Wait.j0]
    exact Tl.pos trivial Tl.const
  refine Tl.bind (right q t hb) (Tl.ite (fun e => ?_) (fun e => hbad))
  refine Tl.bindO (somebody w) ?_
  have hw : ¬ (1 ≤ w ∧ w ≤ 8) := fun x => h ⟨of_decide_eq_true e, x⟩
  rw [decide_eq_false hw]
  exact hbad
theorem wait_there {q t : List Int} (w : Int) (h : Rt q t) (hw : 1 ≤ w ∧ w ≤ 8) (hm : w ∈ q ∨ w ∈ t) : Tl (fun k => cond_Wait.f k q t w) (q, t, 9) := by
  unfold cond_Wait.f
  have hl := h.len
  refine Tl.bind (right q t (by omega)) (Tl.pos (decide_eq_true h) (Tl.bindO (somebody w) ?_))
  rw [decide_eq_true hw]
  refine Tl.succ ?_
  simp only [cond_Wait.j0]
  refine Tl.neg (by simp) (Tl.bind (contains q w (by omega)) (Tl.ite (fun e => Tl.const) (fun e => ?_)))
  have hq : w ∉ q := fun x => e (decide_eq_true x)
  exact Tl.bind (contains t w (by omega)) (Tl.pos (decide_eq_true (by simpa [hq] using hm)) Tl.const)
theorem wait_ok {q t : List Int} (w : Int) (h : Rt q t) (hw : 1 ≤ w ∧ w ≤ 8) (hq : w ∉ q) (ht : w ∉ t) : Tl (fun k => cond_Wait.f k q t w) (q ++ [w], t, 0) := by
  unfold cond_Wait.f
  have hl := h.len
  refine Tl.bind (right q t (by omega)) (Tl.pos (decide_eq_true h) (Tl.bindO (somebody w) ?_))
  rw [decide_eq_true hw]
  refine Tl.succ ?_
  simp only [cond_Wait.j0]
  exact Tl.neg (by simp) (Tl.bind (contains q w (by omega)) (Tl.neg (by simp [hq]) (Tl.bind (contains t w (by omega)) (Tl.neg (by simp [ht]) (Tl.bindO (clone q (by omega)) (Tl.pos (by omega) Tl.const))))))
theorem Rt.more {q t : List Int} {w : Int} (h : Rt q t) (hw : 1 ≤ w ∧ w ≤ 8) (hq : w ∉ q) (ht : w ∉ t) : Rt (q ++ [w]) t := by
  have p : List.Perm ((q ++ [w]) ++ t) (w :: (q ++ t)) := by
    rw [List.append_assoc]
    exact List.perm_middle
  refine ⟨fun x hx => ?_, p.nodup_iff.2 ?_⟩
  · rcases List.mem_cons.1 (p.mem_iff.1 hx) with rfl | hx
    · exact hw
    · exact h.1 x hx
  · rw [List.nodup_cons]
    exact ⟨by simp [hq, ht], h.2⟩
theorem without (l : List Int) (w : Int) (hb : l.length < 17592186044416) : cond_without.f l w = some (l.filter fun x => !(x == w)) := by
  unfold cond_without.f
  rw [clone l hb]
  rfl
theorem out_no {l : List Int} {w : Int} (h : w ∉ l) : (l.filter fun x => !(x == w)) = l := by
  rw [List.filter_eq_self]
  intro x hx
  have : x ≠ w := fun e => h (e ▸ hx)
  simp [this]

/-- Who leaves. -/
theorem leave_bad {q t : List Int} (w : Int) (h : ¬ Rt q t) (hb : q.length + t.length < 17592186044416) : Tl (fun k => cond_Leave.f k q t w) (q, t, false, 1) := by
  unfold cond_Leave.f
  exact Tl.bind (right q t hb) (Tl.neg (by simp [h]) Tl.const)
theorem leave_none {q t : List Int} (w : Int) (h : Rt q t) (hq : w ∉ q) (ht : w ∉ t) : Tl (fun k => cond_Leave.f k q t w) (q, t, false, 3) := by
  unfold cond_Leave.f
  have hl := h.len
  refine Tl.bind (right q t (by omega)) (Tl.pos (decide_eq_true h) (Tl.bind (index t w (by omega)) ?_))
  rw [fnd_none t w ht]
  refine Tl.neg (by omega) (Tl.succ ?_)
  simp only [cond_Leave.j0]
  refine Tl.neg (by simp) (Tl.pos (by omega) (Tl.bind (contains q w (by omega)) ?_))
  rw [decide_eq_false hq]
  refine Tl.succ ?_
  simp only [cond_Leave.j1]
  exact Tl.pos rfl Tl.const
/-- .. who was told, and somebody waits: that one is told in their place. -/
theorem leave_moved {q t : List Int} (w x : Int) (h : Rt (x :: q) t) (ht : w ∈ t) : Tl (fun k => cond_Leave.f k (x :: q) t w) (q, t.set (t.idxOf w) x, true, 0) := by
  unfold cond_Leave.f
  have hl := h.len
  simp only [List.length_cons] at hl
  have hi := List.idxOf_lt_length_of_mem ht
  refine Tl.bind (right (x :: q) t (by simp; omega)) (Tl.pos (decide_eq_true h) (Tl.bind (index t w (by omega)) ?_))
  have hf : fnd t w = (t.idxOf w : Int) := if_pos ht
  rw [hf, decide_eq_true (show ((x :: q).length : Int) > 0 by simp only [List.length_cons]; omega)]
  refine Tl.pos (by omega) (Tl.succ ?_)
  simp only [cond_Leave.j0]
  refine Tl.pos trivial (Tl.bindO (clone t (by omega)) (Tl.pos (by simp only [List.length_cons]; omega) (Tl.pos (by omega) (Tl.pos (by omega) (Tl.pos (by simp only [List.length_cons]; omega) ?_)))))
  refine Tl.const.cast ?_
  simp [rd]
/-- .. else. -/
theorem leave_ok {q t : List Int} (w : Int) (h : Rt q t) (hw : (w ∈ q ∧ w ∉ t) ∨ (w ∈ t ∧ q = [])) : Tl (fun k => cond_Leave.f k q t w) (q.filter fun x => !(x == w), t.filter fun x => !(x == w), false, 0) := by
  unfold cond_Leave.f
  have hl := h.len
  have last : Tl (fun k => cond_Leave.j1 k w false q t) (q.filter fun x => !(x == w), t.filter fun x => !(x == w), false, 0) := by
    refine Tl.succ ?_
    simp only [cond_Leave.j1]
    exact Tl.neg (by simp) (Tl.bindO (without q w (by omega)) (Tl.bindO (without t w (by omega)) Tl.const))
  refine Tl.bind (right q t (by omega)) (Tl.pos (decide_eq_true h) (Tl.bind (index t w (by omega)) ?_))
  rcases hw with ⟨h1, h2⟩ | ⟨h1, h2⟩
  · rw [fnd_none t w h2]
    refine Tl.neg (by omega) (Tl.succ ?_)
    simp only [cond_Leave.j0]
    refine Tl.neg (by simp) (Tl.pos (by omega) (Tl.bind (contains q w (by omega)) ?_))
    rw [decide_eq_true h1]
    exact last
  · have hf : fnd t w = (t.idxOf w : Int) := if_pos h1
    rw [hf]
    subst h2
    refine Tl.pos (by omega) (Tl.succ ?_)
    simp only [cond_Leave.j0]
    exact Tl.neg (by simp) (Tl.neg (by omega) last)

/-- Who goes on. -/
theorem go_bad {q t : List Int} (w : Int) (h : ¬ Rt q t) (hb : q.length + t.length < 17592186044416) : Tl (fun k => cond_Go.f k q t w) (q, t, 1) := by
  unfold cond_Go.f
  exact Tl.bind (right q t hb) (Tl.neg (by simp [h]) Tl.const)
theorem go_waits {q t : List Int} (w : Int) (h : Rt q t) (hq : w ∈ q) : Tl (fun k => cond_Go.f k q t w) (q, t, 9) := by
  unfold cond_Go.f
  have hl := h.len
  exact Tl.bind (right q t (by omega)) (Tl.pos (decide_eq_true h) (Tl.bind (contains q w (by omega)) (Tl.pos (decide_eq_true hq) Tl.const)))
theorem go_none {q t : List Int} (w : Int) (h : Rt q t) (hq : w ∉ q) (ht : w ∉ t) : Tl (fun k => cond_Go.f k q t w) (q, t, 3) := by
  unfold cond_Go.f
  have hl := h.len
  exact Tl.bind (right q t (by omega)) (Tl.pos (decide_eq_true h) (Tl.bind (contains q w (by omega)) (Tl.neg (by simp [hq]) (Tl.bind (contains t w (by omega)) (Tl.neg (by simp [ht]) Tl.const)))))
theorem go_ok {q t : List Int} (w : Int) (h : Rt q t) (hq : w ∉ q) (ht : w ∈ t) : Tl (fun k => cond_Go.f k q t w) (q, t.filter fun x => !(x == w), 0) := by
  unfold cond_Go.f
  have hl := h.len
  exact Tl.bind (right q t (by omega)) (Tl.pos (decide_eq_true h) (Tl.bind (contains q w (by omega)) (Tl.neg (by simp [hq]) (Tl.bind (contains t w (by omega)) (Tl.pos (decide_eq_true ht) (Tl.bindO (without t w (by omega)) Tl.const))))))

theorem numbers_loop (a : List Int) (hb : a.length < 9223372036854775807) : ∀ n i : Nat, a.length - i = n → i ≤ a.length →
    Tl (fun k => handshakerref03_Numbers.l0 k a a (i : Int)) true := by
  intro n
  induction n with
  | zero =>
    intro i hn hi
    refine Tl.succ ?_
    simp only [handshakerref03_Numbers.l0]
    exact Tl.neg (by omega) Tl.const
  | succ n ih =>
    intro i hn hi
    refine Tl.succ ?_
    simp only [handshakerref03_Numbers.l0]
    refine Tl.pos (by omega) (Tl.pos (by omega) (Tl.pos (by omega) (Tl.pos trivial ?_)))
    rw [w64 (by omega) (by omega)]
    exact ih (i + 1) (by omega) (by omega)
theorem numbers (a : List Int) (hb : a.length < 9223372036854775807) : Tl (fun k => handshakerref03_Numbers.f k a a) true := by
  unfold handshakerref03_Numbers.f
  exact Tl.pos rfl (numbers_loop a hb _ 0 rfl (Nat.zero_le _))
theorem awake : Tl (fun k => handshakerlaw20_awake.f k) true := Tl.of_mono handshakerlaw20_awake.mono 40 (by decide +kernel)
theorem awake' : Tl (fun k => (handshakerlaw20_awake.f k).bind fun t => some t) true := Tl.bind awake Tl.const
end core
section same
open Go.RowKit Go.Proofs.Ytllmfahkiabkcaa.PCondTells Go.Proofs.YtllmfahkiabkcaaW.PrintWords Go.Proofs.YtllmfahkiabkcaaW.PrintLast Go.Proofs.YtllmfahkiabkcaaW.PrintMore Go.Proofs.Ytllmfahkiabkcaa.Ev
set_option linter.unusedVariables false
set_option linter.unusedSimpArgs false
theorem same (q t : List Int) (hb : q.length + t.length < 9223372036854775807) : Tl (fun k => handshakerref20_Same.f k q t q t) true := by
  unfold handshakerref20_Same.f
  exact Tl.bind (numbers q (by omega)) (Tl.bind (numbers t (by omega)) (Tl.pos rfl Tl.const))
end same
section tells
open Go.RowKit Go.Proofs.Ytllmfahkiabkcaa.PCondTells Go.Proofs.YtllmfahkiabkcaaW.PrintWords Go.Proofs.YtllmfahkiabkcaaW.PrintLast Go.Proofs.YtllmfahkiabkcaaW.PrintMore Go.Proofs.Ytllmfahkiabkcaa.Ev
set_option linter.unusedVariables false
set_option linter.unusedSimpArgs false
theorem r_right (q t : List Int) (hb : q.length + t.length < 17592186044416) : handshakerref20_Right.f q t = some (decide (Rt q t)) := by
  unfold handshakerref20_Right.f
  rw [if_pos hb]
  exact congrArg some (decide_eq_decide.2 Iff.rfl)
theorem r_who (w : Int) : handshakerref03_Who.f w = some (decide (1 ≤ w ∧ w ≤ 8)) := by
  unfold handshakerref03_Who.f
  by_cases h : w > 0
  · rw [if_pos h]; congr 1; apply decide_eq_decide.mpr; exact ⟨fun x => ⟨by omega, by omega⟩, fun x => by omega⟩
  · rw [if_neg h]; congr 1; symm; apply decide_eq_false; intro x; exact h (by omega)
theorem r_in_loop (l : List Int) (w : Int) (hb : l.length < 9223372036854775807) : ∀ n i : Nat, l.length - i = n → i ≤ l.length → w ∉ l.take i → Tl (fun k => handshakerref20_in.l0 k l w (i : Int)) (decide (w ∈ l)) := by
  intro n
  induction n with
  | zero =>
    intro i hn hi hm
    have : i = l.length := by omega
    subst this
    rw [List.take_length] at hm
    refine Tl.succ ?_
    simp only [handshakerref20_in.l0]
    refine Tl.neg (by omega) ?_
    rw [decide_eq_false hm]
    exact Tl.const
  | succ n ih =>
    intro i hn hi hm
    have hlt : i < l.length := by omega
    refine Tl.succ ?_
    simp only [handshakerref20_in.l0]
    refine Tl.pos (by omega) (Tl.pos (by omega) ?_)
    rw [rd_nat l i hlt]
    refine Tl.ite (fun e => ?_) (fun e => ?_)
    · rw [decide_eq_true (e ▸ List.getElem_mem hlt)]
      exact Tl.const
    · rw [w64 (by omega) (by omega)]
      exact ih (i + 1) (by omega) (by omega) (take_notMem_succ hlt hm e)
theorem r_in (l : List Int) (w : Int) (hb : l.length < 9223372036854775807) : Tl (fun k => handshakerref20_in.f k l w) (decide (w ∈ l)) := by
  unfold handshakerref20_in.f
  exact r_in_loop l w hb _ 0 rfl (Nat.zero_le _) (by simp)
theorem r_less_loop (l : List Int) (w : Int) (hb : l.length < 17592186044416) : ∀ n i : Nat, l.length - i = n → i ≤ l.length → ∀ acc, acc = (l.take i).filter (fun x => !(x == w)) → Tl (fun k => handshakerref20_less.l0 k l w acc (i : Int)) (l.filter fun x => !(x == w)) := by
  intro n
  induction n with
  | zero =>
    intro i hn hi acc ha
    have : i = l.length := by omega
    subst this
    rw [List.take_length] at ha
    refine Tl.succ ?_
    simp only [handshakerref20_less.l0]
    refine Tl.neg (by omega) ?_
    rw [ha]
    exact Tl.const
  | succ n ih =>
    intro i hn hi acc ha
    have hlt : i < l.length := by omega
    have hal : acc.length ≤ i := by
      have := List.length_filter_le (fun x => !(x == w)) (l.take i)
      rw [ha]
      simp at this ⊢
      omega
    refine Tl.succ ?_
    simp only [handshakerref20_less.l0]
    refine Tl.pos (by omega) (Tl.pos (by omega) ?_)
    rw [rd_nat l i hlt, w64 (n := (i : Int) + 1) (by omega) (by omega)]
    refine Tl.ite (fun e => ?_) (fun e => ?_)
    · refine ih (i + 1) (by omega) (by omega) _ ?_
      rw [List.take_succ_eq_append_getElem hlt, List.filter_append, ha]
      simp [e]
    · refine Tl.pos (by omega) ?_
      refine ih (i + 1) (by omega) (by omega) _ ?_
      rw [List.take_succ_eq_append_getElem hlt, List.filter_append, ha]
      simp [e]
theorem r_less (l : List Int) (w : Int) (hb : l.length < 17592186044416) : Tl (fun k => handshakerref20_less.f k l w) (l.filter fun x => !(x == w)) := by
  unfold handshakerref20_less.f
  exact r_less_loop l w hb _ 0 rfl (Nat.zero_le _) _ (by simp)

theorem wait_eq (q t : List Int) (w : Int) (hq : q.length ≤ 30) (ht : t.length ≤ 30) : ∃ q' t' e, Tl (fun k => cond_Wait.f k q t w) (q', t', e) ∧ Tl (fun k => handshakerref20_Wait.f k q t w) (q', t', e) ∧ q'.length + t'.length ≤ 100 := by
  have bad : Tl (fun k => handshakerref20_Wait.j0 k w true q t) ((q, t, 1) : List Int × List Int × Int) := by
    refine Tl.succ ?_
    simp only [handshakerref20_Wait.j0]
    exact Tl.pos trivial Tl.const
  by_cases h : Rt q t ∧ 1 ≤ w ∧ w ≤ 8
  · obtain ⟨h, hw⟩ := h
    have start : ∀ v, Tl (fun k => handshakerref20_Wait.j0 k w false q t) v → Tl (fun k => handshakerref20_Wait.f k q t w) v := by
      intro v hv
      unfold handshakerref20_Wait.f
      refine Tl.bindO (r_right q t (by omega)) (Tl.bindO (r_who w) (Tl.pos (decide_eq_true h) ?_))
      rw [decide_eq_true hw]
      exact hv
    by_cases hm : w ∈ q ∨ w ∈ t
    · refine ⟨_, _, _, wait_there w h hw hm, start _ (Tl.succ ?_), by omega⟩
      simp only [handshakerref20_Wait.j0]
      refine Tl.neg (by simp) (Tl.bind (r_in q w (by omega)) (Tl.bind (r_in t w (by omega)) (Tl.ite (fun e => Tl.const) (fun e => ?_))))
      have h2 : w ∈ t := by
        rcases hm with h1 | h1
        · exact absurd (decide_eq_true h1) e
        · exact h1
      exact Tl.pos (decide_eq_true h2) Tl.const
    · have h1 : w ∉ q := fun x => hm (.inl x)
      have h2 : w ∉ t := fun x => hm (.inr x)
      refine ⟨_, _, _, wait_ok w h hw h1 h2, start _ (Tl.succ ?_), by simp; omega⟩
      simp only [handshakerref20_Wait.j0]
      refine Tl.neg (by simp) (Tl.bind (r_in q w (by omega)) (Tl.bind (r_in t w (by omega)) (Tl.neg (by simp [h1]) (Tl.neg (by simp [h2]) (Tl.pos (by simp; omega) (Tl.bind0 (Tl.pos (by simp; omega) Tl.const)))))))
  · refine ⟨_, _, _, wait_bad w h (by omega), ?_, by omega⟩
    unfold handshakerref20_Wait.f
    refine Tl.bindO (r_right q t (by omega)) (Tl.bindO (r_who w) (Tl.ite (fun e => ?_) (fun e => bad)))
    rw [decide_eq_false (fun x => h ⟨of_decide_eq_true e, x⟩)]
    exact bad

theorem num_cons (n x : Int) (q : List Int) (h : 0 < n) : num n (x :: q) = num (n - 1) q + 1 := by
  unfold num
  rw [List.length_cons]
  omega
theorem num_zero (n : Int) (q : List Int) (h : n ≤ 0) : num n q = 0 := by unfold num; omega
theorem r_signal_loop (q : List Int) : ∀ (n : Int) (t acc : List Int), -9223372036854775808 ≤ n → n ≤ 9223372036854775807 → q.length + t.length ≤ 1000 → q.length + acc.length ≤ 1000 →
    Tl (fun k => handshakerref20_Signal.l0 k n true acc q t) (q.drop (num n q), t ++ q.take (num n q), acc ++ q.take (num n q)) := by
  induction q with
  | nil =>
    intro n t acc h0 h1 hb hc
    refine Tl.succ ?_
    simp only [handshakerref20_Signal.l0]
    refine Tl.pos trivial (Tl.ite (fun e => Tl.neg (by simp) ?_) (fun e => ?_)) <;> · refine Tl.const.cast ?_; simp
  | cons x q ih =>
    intro n t acc h0 h1 hb hc
    simp only [List.length_cons] at hb hc
    refine Tl.succ ?_
    simp only [handshakerref20_Signal.l0]
    refine Tl.pos trivial (Tl.ite (fun e => ?_) (fun e => ?_))
    · refine Tl.pos (by simp only [List.length_cons]; omega) (Tl.pos (by simp only [List.length_cons]; omega) (Tl.pos (by simp; omega) (Tl.bind0 (Tl.pos (by simp only [List.length_cons]; omega) (Tl.pos (by simp; omega) (Tl.pos (by omega) ?_))))))
      have hr : rd (x :: q) 0 = x := rfl
      rw [hr, w64 (by omega) (by omega)]
      refine (ih (n - 1) (t ++ [x]) (acc ++ [x]) (by omega) (by omega) (by simp; omega) (by simp; omega)).cast ?_
      rw [num_cons n x q e]
      simp
    · refine Tl.const.cast ?_
      rw [num_zero n _ (by omega)]
      simp
theorem signal_eq (q t : List Int) (n : Int) (hq : q.length ≤ 30) (ht : t.length ≤ 30) (h0 : -9223372036854775808 ≤ n) (h1 : n ≤ 9223372036854775807) : ∃ q' t' l, Tl (fun k => cond_Signal.f k q t n) (q', t', l) ∧ Tl (fun k => handshakerref20_Signal.f k q t n) (q', t', l) ∧ q'.length + t'.length ≤ 100 ∧ l.length ≤ 100 := by
  by_cases h : Rt q t
  · refine ⟨_, _, _, signal n h (by omega), ?_, by simp; omega, by simp; omega⟩
    unfold handshakerref20_Signal.f
    refine Tl.bindO (r_right q t (by omega)) ?_
    rw [decide_eq_true h]
    exact (r_signal_loop q n t [] h0 h1 (by omega) (by simp; omega)).cast (by simp)
  · refine ⟨_, _, _, signal_bad n h (by omega), ?_, by omega, by simp⟩
    unfold handshakerref20_Signal.f
    refine Tl.bindO (r_right q t (by omega)) ?_
    rw [decide_eq_false h]
    refine Tl.succ ?_
    simp only [handshakerref20_Signal.l0]
    exact Tl.neg (by simp) Tl.const

theorem go_eq (q t : List Int) (w : Int) (hq : q.length ≤ 30) (ht : t.length ≤ 30) : ∃ q' t' e, Tl (fun k => cond_Go.f k q t w) (q', t', e) ∧ Tl (fun k => handshakerref20_Go.f k q t w) (q', t', e) ∧ q'.length + t'.length ≤ 100 := by
  have start : ∀ {F : Nat → Bool → Bool → Bool → Option (List Int × List Int × Int)} {v}, Tl (fun k => F k (decide (Rt q t)) (decide (w ∈ q)) (decide (w ∈ t))) v → Tl (fun k => (handshakerref20_Right.f q t).bind fun a => (handshakerref20_in.f k q w).bind fun b => (handshakerref20_in.f k t w).bind fun c => F k a b c) v :=
    fun h => Tl.bindO (r_right q t (by omega)) (Tl.bind (r_in q w (by omega)) (Tl.bind (r_in t w (by omega)) h))
  by_cases h : Rt q t
  · by_cases h1 : w ∈ q
    · refine ⟨_, _, _, go_waits w h h1, ?_, by omega⟩
      unfold handshakerref20_Go.f
      exact start (Tl.pos (decide_eq_true h) (Tl.pos (decide_eq_true h1) Tl.const))
    · by_cases h2 : w ∈ t
      · have hl := List.length_filter_le (fun x => !(x == w)) t
        refine ⟨_, _, _, go_ok w h h1 h2, ?_, by omega⟩
        unfold handshakerref20_Go.f
        exact start (Tl.pos (decide_eq_true h) (Tl.neg (by simp [h1]) (Tl.pos (decide_eq_true h2) (Tl.bind (r_less t w (by omega)) Tl.const))))
      · refine ⟨_, _, _, go_none w h h1 h2, ?_, by omega⟩
        unfold handshakerref20_Go.f
        exact start (Tl.pos (decide_eq_true h) (Tl.neg (by simp [h1]) (Tl.neg (by simp [h2]) Tl.const)))
  · refine ⟨_, _, _, go_bad w h (by omega), ?_, by omega⟩
    unfold handshakerref20_Go.f
    exact start (Tl.neg (by simp [h]) Tl.const)

theorem set_map (x w : Int) : ∀ (t : List Int), t.Nodup → w ∈ t → t.set (t.idxOf w) x = t.map (fun y => if y = w then x else y) := by
  intro t
  induction t with
  | nil => intro _ h; cases h
  | cons a t ih =>
    intro hn hm
    have hn2 := List.nodup_cons.1 hn
    by_cases e : a = w
    · subst e
      have : t.map (fun y => if y = a then x else y) = t := by
        conv => rhs; rw [← List.map_id t]
        exact List.map_congr_left (fun y hy => if_neg (fun e : y = a => hn2.1 (e ▸ hy)))
      simp [List.idxOf_cons, this]
    · have h2 : w ∈ t := by
        rcases List.mem_cons.1 hm with h | h
        · exact absurd h.symm e
        · exact h
      have e2 : (a == w) = false := beq_eq_false_iff_ne.2 e
      rw [List.idxOf_cons, e2]
      simp [ih hn2.2 h2, e]
theorem r_leave_loop (w x : Int) (q t : List Int) (hb : t.length ≤ 1000) : ∀ n i : Nat, t.length - i = n → i ≤ t.length → ∀ acc, acc = (t.take i).map (fun y => if y = w then x else y) →
    Tl (fun k => handshakerref20_Leave.l0 k w acc (i : Int) (x :: q) t) (q, t.map (fun y => if y = w then x else y), true, 0) := by
  intro n
  induction n with
  | zero =>
    intro i hn hi acc ha
    have : i = t.length := by omega
    subst this
    rw [List.take_length] at ha
    refine Tl.succ ?_
    simp only [handshakerref20_Leave.l0]
    refine Tl.neg (by omega) (Tl.pos (by simp only [List.length_cons]; omega) ?_)
    rw [ha]
    exact Tl.const
  | succ n ih =>
    intro i hn hi acc ha
    have hlt : i < t.length := by omega
    have hal : acc.length = i := by rw [ha]; simp; omega
    refine Tl.succ ?_
    simp only [handshakerref20_Leave.l0]
    refine Tl.pos (by omega) (Tl.pos (by omega) ?_)
    have hr : rd (x :: q) 0 = x := rfl
    rw [rd_nat t i hlt, w64 (n := (i : Int) + 1) (by omega) (by omega), hr]
    refine Tl.ite (fun e => ?_) (fun e => ?_)
    · refine Tl.pos (by simp only [List.length_cons]; omega) (Tl.pos (by omega) ?_)
      refine ih (i + 1) (by omega) (by omega) _ ?_
      rw [List.take_succ_eq_append_getElem hlt, List.map_append, ha]
      simp [e]
    · refine Tl.pos (by omega) ?_
      refine ih (i + 1) (by omega) (by omega) _ ?_
      rw [List.take_succ_eq_append_getElem hlt, List.map_append, ha]
      simp [e]
theorem leave_eq (q t : List Int) (w : Int) (hq : q.length ≤ 30) (ht : t.length ≤ 30) : ∃ q' t' m e, Tl (fun k => cond_Leave.f k q t w) (q', t', m, e) ∧ Tl (fun k => handshakerref20_Leave.f k q t w) (q', t', m, e) ∧ q'.length + t'.length ≤ 100 := by
  have start : ∀ {F : Nat → Bool → Bool → Bool → Option (List Int × List Int × Bool × Int)} {v}, Tl (fun k => F k (decide (Rt q t)) (decide (w ∈ q)) (decide (w ∈ t))) v → Tl (fun k => (handshakerref20_Right.f q t).bind fun a => (handshakerref20_in.f k q w).bind fun b => (handshakerref20_in.f k t w).bind fun c => F k a b c) v :=
    fun h => Tl.bindO (r_right q t (by omega)) (Tl.bind (r_in q w (by omega)) (Tl.bind (r_in t w (by omega)) h))
  have hlq := List.length_filter_le (fun x => !(x == w)) q
  have hlt := List.length_filter_le (fun x => !(x == w)) t
  have last : Tl (fun k => handshakerref20_Leave.j1 k w true q t) (q.filter fun x => !(x == w), t.filter fun x => !(x == w), false, 0) := by
    refine Tl.succ ?_
    simp only [handshakerref20_Leave.j1]
    exact Tl.pos trivial (Tl.bind (r_less q w (by omega)) (Tl.bind (r_less t w (by omega)) Tl.const))
  by_cases h : Rt q t
  · by_cases h1 : w ∈ q
    · have h2 : w ∉ t := fun x => (List.nodup_append.1 h.2).2.2 _ h1 _ x rfl
      refine ⟨_, _, _, _, leave_ok w h (.inl ⟨h1, h2⟩), ?_, by omega⟩
      unfold handshakerref20_Leave.f
      refine start (Tl.pos (decide_eq_true h) (Tl.pos (decide_eq_true h1) (Tl.succ ?_)))
      simp only [handshakerref20_Leave.j0]
      exact Tl.neg (by simp) (Tl.pos (by simp [h1]) (by simpa [h1] using last))
    · by_cases h2 : w ∈ t
      · cases q with
        | nil =>
          refine ⟨_, _, _, _, leave_ok w h (.inr ⟨h2, rfl⟩), ?_, by omega⟩
          unfold handshakerref20_Leave.f
          refine start (Tl.pos (decide_eq_true h) (Tl.neg (by simp) (Tl.succ ?_)))
          simp only [handshakerref20_Leave.j0]
          exact Tl.neg (by simp [h2]) (Tl.neg (by simp) last)
        | cons x q =>
          refine ⟨_, _, _, _, leave_moved w x h h2, ?_, by simp at hq ⊢; omega⟩
          unfold handshakerref20_Leave.f
          refine start (Tl.pos (decide_eq_true h) (Tl.neg (by simpa using h1) (Tl.succ ?_)))
          simp only [handshakerref20_Leave.j0]
          refine Tl.neg (by simp [h2]) (Tl.neg (by simpa using h1) ?_)
          have e : ((((x :: q).length : Nat) : Int) == 0) = false := beq_eq_false_iff_ne.2 (by simp only [List.length_cons]; omega)
          rw [e]
          refine Tl.succ ?_
          simp only [handshakerref20_Leave.j1]
          refine Tl.neg (by simp) ?_
          rw [set_map x w t (List.nodup_append.1 h.2).2.1 h2]
          exact r_leave_loop w x q t (by omega) _ 0 rfl (Nat.zero_le _) _ (by simp)
      · refine ⟨_, _, _, _, leave_none w h h1 h2, ?_, by omega⟩
        unfold handshakerref20_Leave.f
        refine start (Tl.pos (decide_eq_true h) (Tl.neg (by simp [h1]) (Tl.succ ?_)))
        simp only [handshakerref20_Leave.j0]
        exact Tl.pos (by simp [h2]) Tl.const
  · refine ⟨_, _, _, _, leave_bad w h (by omega), ?_, by omega⟩
    unfold handshakerref20_Leave.f
    exact start (Tl.neg (by simp [h]) Tl.const)
theorem CondTells (z0_0 : List (Int)) (z0_1 : List (Int)) (z1 : Int) (z2 : Int) (q0_0 : z0_0.length ≤ maxLen ∧ ∀ x_ ∈ z0_0, (Lit.int .i64 x_).wf = true) (q0_1 : z0_1.length ≤ maxLen ∧ ∀ x_ ∈ z0_1, (Lit.int .i64 x_).wf = true) (q1 : (Lit.int .i64 z1).wf = true) (q2 : (Lit.int .i64 z2).wf = true) : ∃ k, handshakerlaw20_CondTells.f k z0_0 z0_1 z1 z2 = some true := by
  refine Tl.some ?_
  have hb : -9223372036854775808 ≤ z2 ∧ z2 ≤ 9223372036854775807 := by simpa [Lit.wf, IntKind.min, IntKind.max, IntKind.signed, IntKind.bits] using q2
  unfold handshakerlaw20_CondTells.f
  by_cases hs : (z0_0.length : Int) ≤ 30 ∧ (z0_1.length : Int) ≤ 30
  · have e : handshakerlaw20_small.f z0_0 z0_1 = some true := by unfold handshakerlaw20_small.f; simp [hs.1, hs.2]
    have h0 : z0_0.length ≤ 30 := by omega
    have h1 : z0_1.length ≤ 30 := by omega
    obtain ⟨a1, a2, a3, a4, a5, a6⟩ := wait_eq z0_0 z0_1 z1 h0 h1
    obtain ⟨b1, b2, b3, b4, b5, b6, b7⟩ := signal_eq z0_0 z0_1 z2 h0 h1 hb.1 hb.2
    obtain ⟨c1, c2, c3, c4, c5, c6⟩ := go_eq z0_0 z0_1 z1 h0 h1
    obtain ⟨d1, d2, d3, d4, d5, d6, d7⟩ := leave_eq z0_0 z0_1 z1 h0 h1
    refine Tl.bindO e (Tl.pos rfl (Tl.bind a4 (Tl.bind0 (Tl.bind a5 (Tl.bind b4 (Tl.bind0 (Tl.bind b5 (Tl.bind c4 (Tl.bind0 (Tl.bind c5 (Tl.bind d5 (Tl.bind0 (Tl.bind d6 ?_)))))))))))))
    refine Tl.bind (right z0_0 z0_1 (by omega)) (Tl.bind0 (Tl.bindO (r_right z0_0 z0_1 (by omega)) (Tl.pos (by simp) ?_)))
    refine Tl.bind0 (Tl.bind (same a1 a2 (by omega)) (Tl.pos rfl (Tl.pos rfl ?_)))
    refine Tl.bind0 (Tl.bind (same b1 b2 (by omega)) (Tl.pos rfl (Tl.bind (numbers b3 (by omega)) (Tl.pos rfl ?_))))
    refine Tl.bind0 (Tl.bind (same c1 c2 (by omega)) (Tl.pos rfl (Tl.pos rfl ?_)))
    exact Tl.bind0 (Tl.bind (same d1 d2 (by omega)) (Tl.pos rfl (Tl.pos (by simp) (Tl.pos rfl awake'))))
  · have e : handshakerlaw20_small.f z0_0 z0_1 = some false := by
      unfold handshakerlaw20_small.f
      by_cases h1 : (z0_0.length : Int) ≤ 30
      · rw [if_pos h1, decide_eq_false (fun x => hs ⟨h1, x⟩)]
      · rw [if_neg h1]
    exact Tl.bindO e (Tl.neg (by simp) awake')
end tells
end Go.Proofs.Ytllmfahkiabkcaa.Pure
