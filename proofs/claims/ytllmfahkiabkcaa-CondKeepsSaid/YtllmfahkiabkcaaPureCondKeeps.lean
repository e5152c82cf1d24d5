/- What the law CondKeeps computes is true: a plain law over what the printed functions tell; for every input. -/
import Derived.Test.YtllmfahkiabkcaaPCondKeepsx5
import Derived.Test.YtllmfahkiabkcaaEv
namespace Go.Proofs.Ytllmfahkiabkcaa.Pure
section core
open Go.RowKit Go.Proofs.Ytllmfahkiabkcaa.PCondKeeps Go.Proofs.YtllmfahkiabkcaaW.PrintWords Go.Proofs.YtllmfahkiabkcaaW.PrintLast Go.Proofs.YtllmfahkiabkcaaW.PrintMore Go.Proofs.Ytllmfahkiabkcaa.Ev
set_option linter.unusedVariables false
set_option linter.unusedSimpArgs false

theorem somebody (w : Int) : cond_somebody.f w = some (decide (1 ≤ w ∧ w ≤ 8)) := by
  unfold cond_somebody.f
  by_cases h : w ≥ 1
  · rw [if_pos h]; congr 1; apply decide_eq_decide.mpr; exact ⟨fun x => ⟨h, x⟩, fun x => x.2⟩
  · rw [if_neg h]; congr 1; symm; apply decide_eq_false; intro x; exact h x.1
theorem index_loop (h : List Int) (w : Int) (hb : h.length < 9223372036854775807) : ∀ n i : Nat, h.length - i = n → i ≤ h.length → w ∉ h.take i →
    Tl (fun k => slices_Index_int_int.l0 k h w (h.length : Int) (i : Int)) (fnd h w) := by
  intro n
  induction n with
  | zero =>
    intro i hn hi hm
    have : i = h.length := by omega
    subst this
    rw [List.take_length] at hm
    refine Tl.succ ?_
    simp only [slices_Index_int_int.l0]
    refine Tl.neg (by omega) ?_
    rw [fnd_none h w hm]
    exact Tl.const
  | succ n ih =>
    intro i hn hi hm
    have hlt : i < h.length := by omega
    refine Tl.succ ?_
    simp only [slices_Index_int_int.l0]
    refine Tl.pos (by omega) (Tl.pos (by omega) (Tl.pos (by omega) ?_))
    rw [rd_nat h i hlt]
    refine Tl.ite (fun e => ?_) (fun e => ?_)
    · rw [fnd_at h w i hlt e.symm hm]
      exact Tl.const
    · rw [w64 (by omega) (by omega)]
      exact ih (i + 1) (by omega) (by omega) (take_notMem_succ hlt hm (fun x => e x.symm))
theorem index (h : List Int) (w : Int) (hb : h.length < 9223372036854775807) : Tl (fun k => slices_Index_int_int.f k h w) (fnd h w) := by
  unfold slices_Index_int_int.f
  exact index_loop h w hb _ 0 rfl (Nat.zero_le _) (by simp)
theorem contains (h : List Int) (w : Int) (hb : h.length < 9223372036854775807) : Tl (fun k => slices_Contains_int_int.f k h w) (decide (w ∈ h)) := by
  unfold slices_Contains_int_int.f
  refine Tl.bind (index h w hb) ?_
  refine Tl.const.cast ?_
  exact decide_eq_decide.mpr (fnd_nonneg h w)
theorem clone (h : List Int) (hb : h.length < 17592186044416) : slices_Clone_int_int.f h = some h := by unfold slices_Clone_int_int.f; rw [if_pos hb]
theorem concat (a b : List Int) (hb : a.length + b.length < 17592186044416) : slices_Concat_int_int.f [a, b] = some (a ++ b) := by
  unfold slices_Concat_int_int.f
  rw [if_pos (by simp), if_pos (by simpa using hb)]
  simp

/-- Is it a condition? -/
def Rt (q t : List Int) : Prop := (∀ x ∈ q ++ t, 1 ≤ x ∧ x ≤ 8) ∧ (q ++ t).Nodup
instance (q t : List Int) : Decidable (Rt q t) := by unfold Rt; infer_instance
theorem fnd_first {h : List Int} (i : Nat) (hi : i < h.length) : fnd h h[i] = (i : Int) ↔ h[i] ∉ h.take i := by
  refine ⟨fun e hm => ?_, fun hn => fnd_at h _ i hi rfl hn⟩
  have hm' : h[i] ∈ h := List.getElem_mem hi
  unfold fnd at e
  rw [if_pos hm'] at e
  have e2 : h.idxOf h[i] = i := by omega
  have : h.idxOf h[i] < i := by
    have g : ∀ w, w ∈ h.take i → h.idxOf w < i := by
      intro w hw
      have : (h.take i ++ h.drop i).idxOf w = (h.take i).idxOf w := by rw [List.idxOf_append, if_pos hw]
      rw [List.take_append_drop] at this
      have := List.idxOf_lt_length_of_mem hw
      simp at this
      omega
    exact g _ hm
  omega
theorem right_loop (h : List Int) (hb : h.length < 9223372036854775807) : ∀ n i : Nat, h.length - i = n → i ≤ h.length → (∀ x ∈ h.take i, 1 ≤ x ∧ x ≤ 8) → (h.take i).Nodup →
    Tl (fun k => cond_Right.l0 k h h (h.length : Int) (i : Int)) (decide ((∀ x ∈ h, 1 ≤ x ∧ x ≤ 8) ∧ h.Nodup)) := by
  intro n
  induction n with
  | zero =>
    intro i hn hi h1 h2
    have : i = h.length := by omega
    subst this
    rw [List.take_length] at h1 h2
    refine Tl.succ ?_
    simp only [cond_Right.l0]
    refine Tl.neg (by omega) ?_
    refine Tl.const.cast ?_
    symm; exact decide_eq_true ⟨h1, h2⟩
  | succ n ih =>
    intro i hn hi h1 h2
    have hlt : i < h.length := by omega
    refine Tl.succ ?_
    simp only [cond_Right.l0]
    refine Tl.pos (by omega) (Tl.pos (by omega) (Tl.pos (by omega) ?_))
    rw [rd_nat h i hlt]
    refine Tl.bindO (somebody _) ?_
    refine Tl.ite (fun e => ?_) (fun e => ?_)
    · refine Tl.bind (index h _ hb) ?_
      refine Tl.ite (fun e2 => ?_) (fun e2 => ?_)
      · rw [w64 (by omega) (by omega)]
        rw [fnd_first i hlt] at e2
        refine ih (i + 1) (by omega) (by omega) ?_ ?_
        · rw [List.take_succ_eq_append_getElem hlt]
          intro x hx
          rcases List.mem_append.1 hx with hx | hx
          · exact h1 x hx
          · rw [List.mem_singleton.1 hx]; exact of_decide_eq_true e
        · rw [List.take_succ_eq_append_getElem hlt]
          rw [List.nodup_append]
          refine ⟨h2, by simp, ?_⟩
          intro a ha b hb' e3
          rw [List.mem_singleton.1 hb'] at e3
          exact e2 (e3 ▸ ha)
      · refine Tl.const.cast ?_
        symm; apply decide_eq_false
        intro x
        rw [fnd_first i hlt] at e2
        apply e2
        intro hm
        have e3 : h = h.take i ++ h[i] :: h.drop (i + 1) := by simp
        have := x.2
        rw [e3, List.nodup_append] at this
        exact this.2.2 _ hm _ (List.mem_cons_self ..) rfl
    · refine Tl.const.cast ?_
      symm; apply decide_eq_false
      exact fun x => e (decide_eq_true (x.1 _ (List.getElem_mem hlt)))
theorem right (q t : List Int) (hb : q.length + t.length < 17592186044416) : Tl (fun k => cond_Right.f k q t) (decide (Rt q t)) := by
  unfold cond_Right.f
  exact Tl.bindO (concat q t hb) (right_loop (q ++ t) (by simp; omega) _ 0 rfl (Nat.zero_le _) (by simp) (by simp))

/-- How many are told. -/
def num (a : Int) (q : List Int) : Nat := min a.toNat q.length
theorem mx_mn (a : Int) (q : List Int) : mx 0 (mn a (q.length : Int)) = (num a q : Int) := by
  unfold num mx mn
  omega
theorem num_le (a : Int) (q : List Int) : num a q ≤ q.length := by unfold num; omega
theorem signal {q t : List Int} (a : Int) (h : Rt q t) (hb : q.length + t.length < 17592186044416) : Tl (fun k => cond_Signal.f k q t a) (q.drop (num a q), t ++ q.take (num a q), q.take (num a q)) := by
  unfold cond_Signal.f
  have hn := num_le a q
  rw [mx_mn]
  refine Tl.bind (right q t hb) (Tl.pos (decide_eq_true h) (Tl.pos (by omega) (Tl.pos (by omega) (Tl.bind0 ?_))))
  simp only [Int.toNat_natCast]
  exact Tl.bindO (concat t _ (by simp; omega)) Tl.const
theorem signal_bad {q t : List Int} (a : Int) (h : ¬ Rt q t) (hb : q.length + t.length < 17592186044416) : Tl (fun k => cond_Signal.f k q t a) (q, t, []) := by
  unfold cond_Signal.f
  exact Tl.bind (right q t hb) (Tl.neg (by simp [h]) Tl.const)
theorem Rt.told {q t : List Int} (h : Rt q t) (n : Nat) : Rt (q.drop n) (t ++ q.take n) := by
  have p : List.Perm (q.drop n ++ (t ++ q.take n)) (q ++ t) := by
    have e : q ++ t = q.take n ++ (q.drop n ++ t) := by rw [← List.append_assoc, List.take_append_drop]
    rw [e, ← List.append_assoc]
    exact List.perm_append_comm
  exact ⟨fun x hx => h.1 x (p.mem_iff.1 hx), p.nodup_iff.2 h.2⟩
theorem nodup_le : ∀ (l m : List Int), l.Nodup → (∀ x ∈ l, x ∈ m) → l.length ≤ m.length := by
  intro l
  induction l with
  | nil => intro m _ _; simp
  | cons x l ih =>
    intro m hn hs
    have hx : x ∈ m := hs x (by simp)
    have h1 := ih (m.erase x) (List.nodup_cons.1 hn).2 (fun y hy => by
      refine (List.mem_erase_of_ne ?_).2 (hs y (by simp [hy]))
      intro e; subst e
      exact (List.nodup_cons.1 hn).1 hy)
    have h2 := List.length_erase_of_mem hx
    have h3 : 0 < m.length := List.length_pos_of_mem hx
    simp only [List.length_cons]
    omega

theorem len8 {l : List Int} (h1 : ∀ x ∈ l, 1 ≤ x ∧ x ≤ 8) (h2 : l.Nodup) : l.length ≤ 8 := by
  have := nodup_le l [1, 2, 3, 4, 5, 6, 7, 8] h2 (fun x hx => by
    have := h1 x hx
    simp
    omega)
  simpa using this
theorem Rt.len {q t : List Int} (h : Rt q t) : q.length + t.length ≤ 8 := by
  have := len8 h.1 h.2
  simpa using this

/-- One more waits. -/
theorem wait_bad {q t : List Int} (w : Int) (h : ¬ (Rt q t ∧ 1 ≤ w ∧ w ≤ 8)) (hb : q.length + t.length < 17592186044416) : Tl (fun k => cond_Wait.f k q t w) (q, t, 1) := by
  unfold cond_Wait.f
  have hbad : Tl (fun k => cond_Wait.j0 k w true q t) ((q, t, 1) : List Int × List Int × Int) := by
    refine Tl.succ ?_
    simp only [cond_Wait.j0]
    exact Tl.pos trivial Tl.const
  refine Tl.bind (right q t hb) (Tl.ite (fun e => ?_) (fun e => hbad))
  refine Tl.bindO (somebody w) ?_
  have hw : ¬ (1 ≤ w ∧ w ≤ 8) := fun x => h ⟨of_decide_eq_true e, x⟩
  rw [decide_eq_false hw]
  exact hbad
theorem wait_there {q t : List Int} (w : Int) (h : Rt q t) (hw : 1 ≤ w ∧ w ≤ 8) (hm : w ∈ q ∨ w ∈ t) : Tl (fun k => cond_Wait.f k q t w) (q, t, 9) := by
  unfold cond_Wait.f
  have hl := h.len
  refine Tl.bind (right q t (by omega)) (Tl.pos (decide_eq_true h) (Tl.bindO (somebody w) ?_))
  rw [decide_eq_true hw]
  refine Tl.succ ?_
  simp only [cond_Wait.j0]
  refine Tl.neg (by simp) (Tl.bind (contains q w (by omega)) (Tl.ite (fun e => Tl.const) (fun e => ?_)))
  have hq : w ∉ q := fun x => e (decide_eq_true x)
  exact Tl.bind (contains t w (by omega)) (Tl.pos (decide_eq_true (by simpa [hq] using hm)) Tl.const)
theorem wait_ok {q t : List Int} (w : Int) (h : Rt q t) (hw : 1 ≤ w ∧ w ≤ 8) (hq : w ∉ q) (ht : w ∉ t) : Tl (fun k => cond_Wait.f k q t w) (q ++ [w], t, 0) := by
  unfold cond_Wait.f
  have hl := h.len
  refine Tl.bind (right q t (by omega)) (Tl.pos (decide_eq_true h) (Tl.bindO (somebody w) ?_))
  rw [decide_eq_true hw]
  refine Tl.succ ?_
  simp only [cond_Wait.j0]
  exact Tl.neg (by simp) (Tl.bind (contains q w (by omega)) (Tl.neg (by simp [hq]) (Tl.bind (contains t w (by omega)) (Tl.neg (by simp [ht]) (Tl.bindO (clone q (by omega)) (Tl.pos (by omega) Tl.const))))))
theorem Rt.more {q t : List Int} {w : Int} (h : Rt q t) (hw : 1 ≤ w ∧ w ≤ 8) (hq : w ∉ q) (ht : w ∉ t) : Rt (q ++ [w]) t := by
  have p : List.Perm ((q ++ [w]) ++ t) (w :: (q ++ t)) := by
    rw [List.append_assoc]
    exact List.perm_middle
  refine ⟨fun x hx => ?_, p.nodup_iff.2 ?_⟩
  · rcases List.mem_cons.1 (p.mem_iff.1 hx) with rfl | hx
    · exact hw
    · exact h.1 x hx
  · rw [List.nodup_cons]
    exact ⟨by simp [hq, ht], h.2⟩
theorem without (l : List Int) (w : Int) (hb : l.length < 17592186044416) : cond_without.f l w = some (l.filter fun x => !(x == w)) := by
  unfold cond_without.f
  rw [clone l hb]
  rfl
theorem out_no {l : List Int} {w : Int} (h : w ∉ l) : (l.filter fun x => !(x == w)) = l := by
  rw [List.filter_eq_self]
  intro x hx
  have : x ≠ w := fun e => h (e ▸ hx)
  simp [this]

/-- Who leaves. -/
theorem leave_bad {q t : List Int} (w : Int) (h : ¬ Rt q t) (hb : q.length + t.length < 17592186044416) : Tl (fun k => cond_Leave.f k q t w) (q, t, false, 1) := by
  unfold cond_Leave.f
  exact Tl.bind (right q t hb) (Tl.neg (by simp [h]) Tl.const)
theorem leave_none {q t : List Int} (w : Int) (h : Rt q t) (hq : w ∉ q) (ht : w ∉ t) : Tl (fun k => cond_Leave.f k q t w) (q, t, false, 3) := by
  unfold cond_Leave.f
  have hl := h.len
  refine Tl.bind (right q t (by omega)) (Tl.pos (decide_eq_true h) (Tl.bind (index t w (by omega)) ?_))
  rw [fnd_none t w ht]
  refine Tl.neg (by omega) (Tl.succ ?_)
  simp only [cond_Leave.j0]
  refine Tl.neg (by simp) (Tl.pos (by omega) (Tl.bind (contains q w (by omega)) ?_))
  rw [decide_eq_false hq]
  refine Tl.succ ?_
  simp only [cond_Leave.j1]
  exact Tl.pos rfl Tl.const
/-- .. who was told, and somebody waits: that one is told in their place. -/
theorem leave_moved {q t : List Int} (w x : Int) (h : Rt (x :: q) t) (ht : w ∈ t) : Tl (fun k => cond_Leave.f k (x :: q) t w) (q, t.set (t.idxOf w) x, true, 0) := by
  unfold cond_Leave.f
  have hl := h.len
  simp only [List.length_cons] at hl
  have hi := List.idxOf_lt_length_of_mem ht
  refine Tl.bind (right (x :: q) t (by simp; omega)) (Tl.pos (decide_eq_true h) (Tl.bind (index t w (by omega)) ?_))
  have hf : fnd t w = (t.idxOf w : Int) := if_pos ht
  rw [hf, decide_eq_true (show ((x :: q).length : Int) > 0 by simp only [List.length_cons]; omega)]
  refine Tl.pos (by omega) (Tl.succ ?_)
  simp only [cond_Leave.j0]
  refine Tl.pos trivial (Tl.bindO (clone t (by omega)) (Tl.pos (by simp only [List.length_cons]; omega) (Tl.pos (by omega) (Tl.pos (by omega) (Tl.pos (by simp only [List.length_cons]; omega) ?_)))))
  refine Tl.const.cast ?_
  simp [rd]
/-- .. else. -/
theorem leave_ok {q t : List Int} (w : Int) (h : Rt q t) (hw : (w ∈ q ∧ w ∉ t) ∨ (w ∈ t ∧ q = [])) : Tl (fun k => cond_Leave.f k q t w) (q.filter fun x => !(x == w), t.filter fun x => !(x == w), false, 0) := by
  unfold cond_Leave.f
  have hl := h.len
  have last : Tl (fun k => cond_Leave.j1 k w false q t) (q.filter fun x => !(x == w), t.filter fun x => !(x == w), false, 0) := by
    refine Tl.succ ?_
    simp only [cond_Leave.j1]
    exact Tl.neg (by simp) (Tl.bindO (without q w (by omega)) (Tl.bindO (without t w (by omega)) Tl.const))
  refine Tl.bind (right q t (by omega)) (Tl.pos (decide_eq_true h) (Tl.bind (index t w (by omega)) ?_))
  rcases hw with ⟨h1, h2⟩ | ⟨h1, h2⟩
  · rw [fnd_none t w h2]
    refine Tl.neg (by omega) (Tl.succ ?_)
    simp only [cond_Leave.j0]
    refine Tl.neg (by simp) (Tl.pos (by omega) (Tl.bind (contains q w (by omega)) ?_))
    rw [decide_eq_true h1]
    exact last
  · have hf : fnd t w = (t.idxOf w : Int) := if_pos h1
    rw [hf]
    subst h2
    refine Tl.pos (by omega) (Tl.succ ?_)
    simp only [cond_Leave.j0]
    exact Tl.neg (by simp) (Tl.neg (by omega) last)

/-- Who goes on. -/
theorem go_bad {q t : List Int} (w : Int) (h : ¬ Rt q t) (hb : q.length + t.length < 17592186044416) : Tl (fun k => cond_Go.f k q t w) (q, t, 1) := by
  unfold cond_Go.f
  exact Tl.bind (right q t hb) (Tl.neg (by simp [h]) Tl.const)
theorem go_waits {q t : List Int} (w : Int) (h : Rt q t) (hq : w ∈ q) : Tl (fun k => cond_Go.f k q t w) (q, t, 9) := by
  unfold cond_Go.f
  have hl := h.len
  exact Tl.bind (right q t (by omega)) (Tl.pos (decide_eq_true h) (Tl.bind (contains q w (by omega)) (Tl.pos (decide_eq_true hq) Tl.const)))
theorem go_none {q t : List Int} (w : Int) (h : Rt q t) (hq : w ∉ q) (ht : w ∉ t) : Tl (fun k => cond_Go.f k q t w) (q, t, 3) := by
  unfold cond_Go.f
  have hl := h.len
  exact Tl.bind (right q t (by omega)) (Tl.pos (decide_eq_true h) (Tl.bind (contains q w (by omega)) (Tl.neg (by simp [hq]) (Tl.bind (contains t w (by omega)) (Tl.neg (by simp [ht]) Tl.const)))))
theorem go_ok {q t : List Int} (w : Int) (h : Rt q t) (hq : w ∉ q) (ht : w ∈ t) : Tl (fun k => cond_Go.f k q t w) (q, t.filter fun x => !(x == w), 0) := by
  unfold cond_Go.f
  have hl := h.len
  exact Tl.bind (right q t (by omega)) (Tl.pos (decide_eq_true h) (Tl.bind (contains q w (by omega)) (Tl.neg (by simp [hq]) (Tl.bind (contains t w (by omega)) (Tl.pos (decide_eq_true ht) (Tl.bindO (without t w (by omega)) Tl.const))))))

theorem numbers_loop (a : List Int) (hb : a.length < 9223372036854775807) : ∀ n i : Nat, a.length - i = n → i ≤ a.length →
    Tl (fun k => handshakerref03_Numbers.l0 k a a (i : Int)) true := by
  intro n
  induction n with
  | zero =>
    intro i hn hi
    refine Tl.succ ?_
    simp only [handshakerref03_Numbers.l0]
    exact Tl.neg (by omega) Tl.const
  | succ n ih =>
    intro i hn hi
    refine Tl.succ ?_
    simp only [handshakerref03_Numbers.l0]
    refine Tl.pos (by omega) (Tl.pos (by omega) (Tl.pos (by omega) (Tl.pos trivial ?_)))
    rw [w64 (by omega) (by omega)]
    exact ih (i + 1) (by omega) (by omega)
theorem numbers (a : List Int) (hb : a.length < 9223372036854775807) : Tl (fun k => handshakerref03_Numbers.f k a a) true := by
  unfold handshakerref03_Numbers.f
  exact Tl.pos rfl (numbers_loop a hb _ 0 rfl (Nat.zero_le _))
theorem awake : Tl (fun k => handshakerlaw20_awake.f k) true := Tl.of_mono handshakerlaw20_awake.mono 40 (by decide +kernel)
theorem awake' : Tl (fun k => (handshakerlaw20_awake.f k).bind fun t => some t) true := Tl.bind awake Tl.const
end core
section keeps
open Go.RowKit Go.Proofs.Ytllmfahkiabkcaa.PCondKeeps Go.Proofs.YtllmfahkiabkcaaW.PrintWords Go.Proofs.YtllmfahkiabkcaaW.PrintLast Go.Proofs.YtllmfahkiabkcaaW.PrintMore Go.Proofs.Ytllmfahkiabkcaa.Ev
set_option linter.unusedVariables false
set_option linter.unusedSimpArgs false
theorem rdA (h : List S48) (i : Nat) (hi : i < h.length) : rd_T48 h (i : Int) = h[i] := by unfold rd_T48; simp [hi]
/-- Where a number is last; -1: nowhere. -/
def lstR : List Int → Int → Int
  | [], _ => -1
  | a :: r, x => if a = x then (r.length : Int) else lstR r x
def lst (l : List Int) (x : Int) : Int := lstR l.reverse x
theorem lst_add (l : List Int) (a x : Int) : lst (l ++ [a]) x = if a = x then (l.length : Int) else lst l x := by
  unfold lst
  rw [List.reverse_append]
  simp [lstR]
theorem lst_nil (x : Int) : lst [] x = -1 := rfl
theorem lstR_lt (l : List Int) (x : Int) : -1 ≤ lstR l x ∧ lstR l x < (l.length : Int) := by
  induction l with
  | nil => simp [lstR]
  | cons a l ih =>
    unfold lstR
    rw [List.length_cons]
    split <;> omega
theorem lst_lt (l : List Int) (x : Int) : -1 ≤ lst l x ∧ lst l x < (l.length : Int) := by
  have := lstR_lt l.reverse x
  rw [List.length_reverse] at this
  exact this
theorem lst_take {l : List Int} {i : Nat} (hi : i < l.length) (x : Int) : lst (l.take (i + 1)) x = if l[i] = x then (i : Int) else lst (l.take i) x := by
  rw [List.take_succ_eq_append_getElem hi, lst_add, List.length_take, Nat.min_eq_left (by omega)]
/-- Those who are told waited ahead of those who wait, and these are in order. -/
def Or (came q t : List Int) : Prop := q.Pairwise (fun a b => lst came a < lst came b) ∧ ∀ x ∈ t, ∀ y ∈ q, lst came x < lst came y
theorem Or.sub {came q t q' t' : List Int} (h : Or came q t) (hq : q'.Sublist q) (ht : ∀ x ∈ t', x ∈ t) : Or came q' t' :=
  ⟨h.1.sublist hq, fun x hx y hy => h.2 x (ht x hx) y (hq.subset hy)⟩
theorem Or.first {came q t t' : List Int} {y : Int} (h : Or came (y :: q) t) (ht : ∀ x ∈ t', x ∈ t ∨ x = y) : Or came q t' := by
  have h1 := List.pairwise_cons.1 h.1
  refine ⟨h1.2, fun x hx z hz => ?_⟩
  rcases ht x hx with h2 | rfl
  · exact h.2 x h2 z (by simp [hz])
  · exact h1.1 z hz
theorem Or.more {came q t : List Int} {w : Int} (h : Or came q t) (hq : w ∉ q) (ht : w ∉ t) : Or (came ++ [w]) (q ++ [w]) t := by
  have e : ∀ x, x ≠ w → lst (came ++ [w]) x = lst came x := fun x hx => by rw [lst_add, if_neg (fun e => hx e.symm)]
  have ew : lst (came ++ [w]) w = (came.length : Int) := by rw [lst_add, if_pos rfl]
  have eq : ∀ x ∈ q, lst (came ++ [w]) x = lst came x := fun x hx => e x (fun e => hq (e ▸ hx))
  refine ⟨List.pairwise_append.2 ⟨?_, by simp, ?_⟩, ?_⟩
  · exact h.1.imp_of_mem (fun {a b} ha hb hab => by rw [eq a ha, eq b hb]; exact hab)
  · intro a ha b hb
    rw [List.mem_singleton.1 hb, eq a ha, ew]
    exact (lst_lt came a).2
  · intro x hx y hy
    rw [e x (fun e => ht (e ▸ hx))]
    rcases List.mem_append.1 hy with hy | hy
    · rw [eq y hy]
      exact h.2 x hx y hy
    · rw [List.mem_singleton.1 hy, ew]
      exact (lst_lt came x).2

theorem keeps_l3 (s g z : Int) (came : List Int) (a b : Int) (acts : List S48) (n i : Int) (t : List Int) (tn ti : Int) (q : List Int) (qn qi : Int) (q0 t0 : List Int) (hb : came.length ≤ 60) (hab : lst came a ≤ lst came b)
    (go : Tl (fun k => handshakerlaw20_CondKeeps.l2 k s g z came a acts n i t tn ti q qn (wrap64 (qi + 1)) q0 t0) true) :
    ∀ d j : Nat, came.length - j = d → j ≤ came.length → ∀ u v, u = lst (came.take j) a → v = lst (came.take j) b →
    Tl (fun k => handshakerlaw20_CondKeeps.l3 k s g z came a b u v acts n i t tn ti q qn qi came (came.length : Int) (j : Int) q0 t0) true := by
  intro d
  induction d with
  | zero =>
    intro j hd hj u v hu hv
    have : j = came.length := by omega
    subst this
    rw [List.take_length] at hu hv
    refine Tl.succ ?_
    simp only [handshakerlaw20_CondKeeps.l3]
    exact Tl.neg (by omega) (Tl.neg (by omega) go)
  | succ d ih =>
    intro j hd hj u v hu hv
    have hlt : j < came.length := by omega
    have n1 := lst_take hlt a
    have n2 := lst_take hlt b
    refine Tl.succ ?_
    simp only [handshakerlaw20_CondKeeps.l3]
    refine Tl.pos (by omega) (Tl.pos (by omega) (Tl.pos (by omega) ?_))
    rw [rd_nat came j hlt, w64 (n := (j : Int) + 1) (by omega) (by omega)]
    refine Tl.ite (fun e => ?_) (fun e => ?_)
    · rw [if_pos e] at n1
      refine Tl.ite (fun e2 => ?_) (fun e2 => ?_)
      · rw [if_pos e2] at n2
        exact ih (j + 1) (by omega) (by omega) _ _ n1.symm n2.symm
      · rw [if_neg e2] at n2
        exact ih (j + 1) (by omega) (by omega) _ _ n1.symm (by rw [n2]; exact hv)
    · rw [if_neg e] at n1
      refine Tl.ite (fun e2 => ?_) (fun e2 => ?_)
      · rw [if_pos e2] at n2
        exact ih (j + 1) (by omega) (by omega) _ _ (by rw [n1]; exact hu) n2.symm
      · rw [if_neg e2] at n2
        exact ih (j + 1) (by omega) (by omega) _ _ (by rw [n1]; exact hu) (by rw [n2]; exact hv)
theorem keeps_l2 (s g z : Int) (came : List Int) (a : Int) (acts : List S48) (n i : Int) (t : List Int) (tn ti : Int) (q : List Int) (q0 t0 : List Int) (hb : came.length ≤ 60) (hq : q.length ≤ 60) (hab : ∀ b ∈ q, lst came a < lst came b)
    (go : Tl (fun k => handshakerlaw20_CondKeeps.l1 k s g z came acts n i t tn (wrap64 (ti + 1)) q0 t0) true) :
    ∀ d j : Nat, q.length - j = d → j ≤ q.length →
    Tl (fun k => handshakerlaw20_CondKeeps.l2 k s g z came a acts n i t tn ti q (q.length : Int) (j : Int) q0 t0) true := by
  intro d
  induction d with
  | zero =>
    intro j hd hj
    refine Tl.succ ?_
    simp only [handshakerlaw20_CondKeeps.l2]
    exact Tl.neg (by omega) go
  | succ d ih =>
    intro j hd hj
    have hlt : j < q.length := by omega
    refine Tl.succ ?_
    simp only [handshakerlaw20_CondKeeps.l2]
    refine Tl.pos (by omega) (Tl.pos (by omega) (Tl.pos (by omega) ?_))
    rw [rd_nat q j hlt]
    have := hab q[j] (List.getElem_mem hlt)
    refine keeps_l3 s g z came a q[j] acts n i t tn ti q (q.length : Int) (j : Int) q0 t0 hb (by omega) ?_ _ 0 rfl (Nat.zero_le _) _ _ (by simp [lst_nil]) (by simp [lst_nil])
    rw [w64 (n := (j : Int) + 1) (by omega) (by omega)]
    exact ih (j + 1) (by omega) (by omega)
theorem keeps_l1 (s g z : Int) (came : List Int) (acts : List S48) (n i : Int) (t q : List Int) (hb : came.length ≤ 60) (hq : q.length ≤ 60) (ht : t.length ≤ 60) (hab : ∀ a ∈ t, ∀ b ∈ q, lst came a < lst came b)
    (go : Tl (fun k => handshakerlaw20_CondKeeps.l0 k s g z came acts n (wrap64 (i + 1)) q t) true) :
    ∀ d j : Nat, t.length - j = d → j ≤ t.length →
    Tl (fun k => handshakerlaw20_CondKeeps.l1 k s g z came acts n i t (t.length : Int) (j : Int) q t) true := by
  intro d
  induction d with
  | zero =>
    intro j hd hj
    refine Tl.succ ?_
    simp only [handshakerlaw20_CondKeeps.l1]
    exact Tl.neg (by omega) go
  | succ d ih =>
    intro j hd hj
    have hlt : j < t.length := by omega
    refine Tl.succ ?_
    simp only [handshakerlaw20_CondKeeps.l1]
    refine Tl.pos (by omega) (Tl.pos (by omega) (Tl.pos (by omega) ?_))
    rw [rd_nat t j hlt]
    refine keeps_l2 s g z came t[j] acts n i t (t.length : Int) (j : Int) q q t hb hq (fun b hm => hab t[j] (List.getElem_mem hlt) b hm) ?_ _ 0 rfl (Nat.zero_le _)
    rw [w64 (n := (j : Int) + 1) (by omega) (by omega)]
    exact ih (j + 1) (by omega) (by omega)
theorem keeps_j2 (s g z : Int) (came : List Int) (acts : List S48) (n : Int) (i : Nat) (q t : List Int) (hi : i < 60) (hr : Rt q t) (ho : Or came q t) (hb : came.length ≤ 60) (hs : s = g + z + (t.length : Int)) (hg : 0 ≤ g) (hz : 0 ≤ z) (hs2 : s ≤ 100)
    (go : Tl (fun k => handshakerlaw20_CondKeeps.l0 k s g z came acts n ((i + 1 : Nat) : Int) q t) true) :
    Tl (fun k => handshakerlaw20_CondKeeps.j2 k s g z came acts n (i : Int) q t) true := by
  have hl := hr.len
  refine Tl.succ ?_
  simp only [handshakerlaw20_CondKeeps.j2]
  refine Tl.bind (right q t (by omega)) (Tl.pos (decide_eq_true hr) ?_)
  rw [w64 (n := g + z) (by omega) (by omega), w64 (n := g + z + (t.length : Int)) (by omega) (by omega), ← hs]
  refine Tl.succ ?_
  simp only [handshakerlaw20_CondKeeps.j3]
  refine Tl.neg (by simp) ?_
  refine keeps_l1 s g z came acts n i t q hb (by omega) (by omega) ho.2 ?_ _ 0 rfl (Nat.zero_le _)
  rw [w64 (n := (i : Int) + 1) (by omega) (by omega)]
  exact go
theorem mem_set {t : List Int} {i : Nat} {x y : Int} (h : y ∈ t.set i x) : y ∈ t ∨ y = x := by
  rcases List.mem_or_eq_of_mem_set h with h | h
  · exact .inl h
  · exact .inr h
theorem Rt.moved {q t : List Int} {x w : Int} (h : Rt (x :: q) t) (ht : w ∈ t) : Rt q (t.set (t.idxOf w) x) := by
  have hi := List.idxOf_lt_length_of_mem ht
  have hn : (q ++ t).Nodup := (List.nodup_cons.1 (by simpa using h.2)).2
  have hx : x ∉ q ++ t := (List.nodup_cons.1 (by simpa using h.2)).1
  have e : t.set (t.idxOf w) x = t.take (t.idxOf w) ++ x :: t.drop (t.idxOf w + 1) := by rw [List.set_eq_take_append_cons_drop, if_pos hi]
  have p : List.Perm (q ++ t.set (t.idxOf w) x) (x :: (q ++ t.eraseIdx (t.idxOf w))) := by
    rw [e, List.eraseIdx_eq_take_drop_succ]
    refine (List.Perm.append_left q List.perm_middle).trans ?_
    exact List.perm_middle
  have hs : (q ++ t.eraseIdx (t.idxOf w)).Sublist (q ++ t) := List.Sublist.append_left (List.eraseIdx_sublist t _) q
  refine ⟨fun y hy => ?_, p.nodup_iff.2 (List.nodup_cons.2 ⟨fun hm => hx (hs.subset hm), hn.sublist hs⟩)⟩
  rcases List.mem_cons.1 (p.mem_iff.1 hy) with rfl | hy
  · exact h.1 y (by simp)
  · exact h.1 y (by have := hs.subset hy; simp at this ⊢; exact .inr this)
theorem Rt.filters {q t : List Int} (h : Rt q t) (f g : Int → Bool) : Rt (q.filter f) (t.filter g) := by
  have hs : (q.filter f ++ t.filter g).Sublist (q ++ t) := List.Sublist.append List.filter_sublist List.filter_sublist
  exact ⟨fun y hy => h.1 y (hs.subset hy), h.2.sublist hs⟩
theorem Rt.gone {q t : List Int} (h : Rt q t) (g : Int → Bool) : Rt q (t.filter g) := by
  have hs : (q ++ t.filter g).Sublist (q ++ t) := List.Sublist.append_left List.filter_sublist q
  exact ⟨fun y hy => h.1 y (hs.subset hy), h.2.sublist hs⟩
theorem out_len {t : List Int} {w : Int} (h : t.Nodup) (hm : w ∈ t) : ((t.filter fun x => !(x == w)).length : Int) = (t.length : Int) - 1 := by
  induction t with
  | nil => cases hm
  | cons a t ih =>
    have hn := List.nodup_cons.1 h
    by_cases e : a = w
    · subst e
      rw [List.filter_cons]
      simp only [beq_self_eq_true, Bool.not_true, Bool.false_eq_true, if_false]
      rw [out_no hn.1, List.length_cons]
      omega
    · have hm2 : w ∈ t := by
        rcases List.mem_cons.1 hm with h1 | h1
        · exact absurd h1.symm e
        · exact h1
      have := ih hn.2 hm2
      rw [List.filter_cons]
      simp only [beq_eq_false_iff_ne.2 e, Bool.not_false, if_true, List.length_cons]
      omega
theorem keeps_loop (acts : List S48) (ha : acts.length ≤ 60) : ∀ d i : Nat, acts.length - i = d → i ≤ acts.length → ∀ s g z came q t, Rt q t → Or came q t → came.length ≤ i → s = g + z + (t.length : Int) → 0 ≤ g → 0 ≤ z → s ≤ (i : Int) →
    Tl (fun k => handshakerlaw20_CondKeeps.l0 k s g z came acts (acts.length : Int) (i : Int) q t) true := by
  intro d
  induction d with
  | zero =>
    intro i hd hi s g z came q t hr ho hb hs hg hz hs2
    refine Tl.succ ?_
    simp only [handshakerlaw20_CondKeeps.l0]
    exact Tl.neg (by omega) awake'
  | succ d ih =>
    intro i hd hi s g z came q t hr ho hb hs hg hz hs2
    have hlt : i < acts.length := by omega
    have hl := hr.len
    have next : ∀ s' g' z' came' q' t', Rt q' t' → Or came' q' t' → came'.length ≤ i + 1 → s' = g' + z' + (t'.length : Int) → 0 ≤ g' → 0 ≤ z' → s' ≤ (i : Int) + 1 →
        Tl (fun k => handshakerlaw20_CondKeeps.j2 k s' g' z' came' acts (acts.length : Int) (i : Int) q' t') true := by
      intro s' g' z' came' q' t' hr' ho' hb' hs' hg' hz' hs2'
      exact keeps_j2 s' g' z' came' acts _ i q' t' (by omega) hr' ho' (by omega) hs' hg' hz' (by omega) (ih (i + 1) (by omega) (by omega) _ _ _ _ _ _ hr' ho' hb' hs' hg' hz' (by omega))
    have same := next s g z came q t hr ho (by omega) hs hg hz (by omega)
    refine Tl.succ ?_
    simp only [handshakerlaw20_CondKeeps.l0]
    refine Tl.pos (by omega) (Tl.pos (by omega) (Tl.pos (by omega) ?_))
    rw [rdA acts i hlt]
    obtain ⟨w, hw⟩ : ∃ w, w = wrap64 (1 + wrap64 (Int.tmod acts[i].f1 8)) := ⟨_, rfl⟩
    rw [← hw]
    refine Tl.ite (fun e => ?_) (fun e => Tl.ite (fun e2 => ?_) (fun e2 => Tl.ite (fun e3 => ?_) (fun e3 => ?_)))
    · by_cases hw8 : 1 ≤ w ∧ w ≤ 8
      · by_cases hm : w ∈ q ∨ w ∈ t
        · exact Tl.bind (wait_there w hr hw8 hm) (Tl.neg (by simp) same)
        · have hq : w ∉ q := fun x => hm (.inl x)
          have ht : w ∉ t := fun x => hm (.inr x)
          refine Tl.bind (wait_ok w hr hw8 hq ht) (Tl.pos rfl (Tl.pos (by omega) ?_))
          exact next _ _ _ _ _ _ (hr.more hw8 hq ht) (ho.more hq ht) (by simp; omega) hs hg hz (by omega)
      · exact Tl.bind (wait_bad w (fun x => hw8 x.2) (by omega)) (Tl.neg (by simp) same)
    · by_cases hq : w ∈ q
      · exact Tl.bind (go_waits w hr hq) (Tl.neg (by simp) same)
      · by_cases ht : w ∈ t
        · refine Tl.bind (go_ok w hr hq ht) (Tl.pos rfl ?_)
          have hlen := out_len (List.nodup_append.1 hr.2).2.1 ht
          show Tl (fun k => handshakerlaw20_CondKeeps.j2 k s (wrap64 (g + 1)) z came acts (acts.length : Int) (i : Int) q (t.filter fun x => !(x == w))) true
          rw [w64 (n := g + 1) (by omega) (by omega)]
          exact next _ _ _ _ _ _ (hr.gone _) (ho.sub (List.Sublist.refl q) (fun x hx => (List.mem_filter.1 hx).1)) (by omega) (by omega) (by omega) hz (by omega)
        · exact Tl.bind (go_none w hr hq ht) (Tl.neg (by simp) same)
    · have sameJ : ∀ q' t', Tl (fun k => handshakerlaw20_CondKeeps.j2 k s g z came acts (acts.length : Int) (i : Int) q' t') true → Tl (fun k => handshakerlaw20_CondKeeps.j1 k s g z came acts (acts.length : Int) (i : Int) false q t q' t') true := by
        intro q' t' h
        refine Tl.succ ?_
        simp only [handshakerlaw20_CondKeeps.j1]
        exact Tl.neg (by simp) h
      by_cases ht : w ∈ t
      · cases q with
        | cons x q =>
          refine Tl.bind (leave_moved w x hr ht) (Tl.pos rfl (Tl.pos rfl (sameJ _ _ ?_)))
          exact next _ _ _ _ _ _ (hr.moved ht) (ho.first (fun y hy => mem_set hy)) (by omega) (by simpa using hs) hg hz (by omega)
        | nil =>
          have hlen := out_len (List.nodup_append.1 hr.2).2.1 ht
          refine Tl.bind (leave_ok w hr (.inr ⟨ht, rfl⟩)) (Tl.pos rfl (Tl.neg (by simp) ?_))
          show Tl (fun k => handshakerlaw20_CondKeeps.j1 k s g z came acts (acts.length : Int) (i : Int) (decide (((t.filter fun x => !(x == w)).length : Int) < (t.length : Int))) [] t [] (t.filter fun x => !(x == w))) true
          rw [decide_eq_true (by omega)]
          refine Tl.succ ?_
          simp only [handshakerlaw20_CondKeeps.j1]
          refine Tl.pos trivial (Tl.neg (by simp) ?_)
          rw [w64 (n := z + 1) (by omega) (by omega)]
          exact next _ _ _ _ _ _ (hr.gone _) (ho.sub (List.Sublist.refl []) (fun x hx => (List.mem_filter.1 hx).1)) (by omega) (by omega) hg (by omega) (by omega)
      · by_cases hq : w ∈ q
        · refine Tl.bind (leave_ok w hr (.inl ⟨hq, ht⟩)) (Tl.pos rfl (Tl.neg (by simp) ?_))
          rw [out_no ht]
          show Tl (fun k => handshakerlaw20_CondKeeps.j1 k s g z came acts (acts.length : Int) (i : Int) (decide ((t.length : Int) < (t.length : Int))) q t (q.filter fun x => !(x == w)) t) true
          rw [decide_eq_false (by omega)]
          refine sameJ _ _ ?_
          have hr2 := hr.filters (fun x => !(x == w)) (fun _ => true)
          rw [List.filter_eq_self.2 (fun _ _ => rfl)] at hr2
          exact next _ _ _ _ _ _ hr2 (ho.sub List.filter_sublist (fun x hx => hx)) (by omega) hs hg hz (by omega)
        · exact Tl.bind (leave_none w hr hq ht) (Tl.neg (by simp) (sameJ _ _ same))
    · refine Tl.bind (signal 1 hr (by omega)) ?_
      have hn := num_le 1 q
      have hn1 : num 1 q ≤ 1 := by unfold num; omega
      have hll : (q.take (num 1 q)).length = num 1 q := by rw [List.length_take]; omega
      show Tl (fun k => handshakerlaw20_CondKeeps.j2 k (wrap64 (s + ((q.take (num 1 q)).length : Int))) g z came acts (acts.length : Int) (i : Int) (q.drop (num 1 q)) (t ++ q.take (num 1 q))) true
      rw [hll, w64 (n := s + (num 1 q : Int)) (by omega) (by omega)]
      refine next _ _ _ _ _ _ (hr.told _) ?_ (by omega) (by rw [List.length_append, hll]; omega) hg hz (by omega)
      cases q with
      | nil => simpa using ho
      | cons y q =>
        have e1 : num 1 (y :: q) = 1 := by unfold num; rw [List.length_cons]; omega
        rw [e1]
        exact ho.first (fun x hx => by simpa using hx)
theorem CondKeeps (z0 : List (S48)) (q0 : z0.length ≤ maxLen ∧ ∀ x_ ∈ z0, ((Lit.int .u8 x_.f0).wf = true) ∧ ((Lit.int .u8 x_.f1).wf = true)) : ∃ k, handshakerlaw20_CondKeeps.f k z0 = some true := by
  refine Tl.some ?_
  unfold handshakerlaw20_CondKeeps.f
  refine Tl.ite (fun e => awake') (fun e => ?_)
  exact keeps_loop z0 (by omega) _ 0 rfl (Nat.zero_le _) 0 0 0 [] [] [] (by unfold Rt; simp) ⟨by simp, by simp⟩ (by simp) (by simp) (by omega) (by omega) (by omega)
end keeps
end Go.Proofs.Ytllmfahkiabkcaa.Pure
