/- What the law SwapBoth computes is true: a plain law over what the printed functions tell; for every input. -/
import Derived.Test.YtpmcoehggajmcaaPSwapBothx4
import Derived.Test.YtpmcoehggajmcaaEv
namespace Go.Proofs.Ytpmcoehggajmcaa.Pure
section core
open Go.RowKit Go.Proofs.Ytpmcoehggajmcaa.PSwapBoth Go.Proofs.YtpmcoehggajmcaaW.PrintWords Go.Proofs.YtpmcoehggajmcaaW.PrintLast Go.Proofs.YtpmcoehggajmcaaW.PrintMore Go.Proofs.Ytpmcoehggajmcaa.Ev
set_option linter.unusedVariables false
set_option linter.unusedSimpArgs false

theorem rdT (h : List S26) (i : Nat) (hi : i < h.length) : rd_T26 h (i : Int) = h[i] := by unfold rd_T26; simp [hi]
theorem split_at {h : List S26} {i : Nat} (hi : i < h.length) : h = h.take i ++ h[i] :: h.drop (i + 1) := by simp
/-- Do they meet? -/
def Mt (a b : S26) : Bool := swap_Meet.b a.f0 a.f1 a.f2 a.f3 b.f0 b.f1 b.f2 b.f3
theorem meet_eq (a b : S26) : Mt a b = decide (a.f0 ≠ b.f0 ∧ (a.f1 = 0 ∨ a.f1 = b.f0) ∧ (b.f1 = 0 ∨ b.f1 = a.f0)) := by
  unfold Mt swap_Meet.b swap_Meet.f swap_Offer_takes.f
  rw [Bool.eq_iff_iff, decide_eq_true_iff]
  by_cases h0 : a.f0 = b.f0 <;> by_cases h1 : a.f1 = 0 <;> by_cases h2 : a.f1 = b.f0 <;> by_cases h3 : b.f1 = 0 <;> by_cases h4 : b.f1 = a.f0 <;> simp [h0, h1, h2, h3, h4] <;> simp_all
theorem meet (a b : S26) : swap_Meet.f a.f0 a.f1 a.f2 a.f3 b.f0 b.f1 b.f2 b.f3 = some (Mt a b) := by
  unfold Mt swap_Meet.b swap_Meet.f swap_Offer_takes.f
  by_cases h0 : a.f0 = b.f0 <;> by_cases h1 : a.f1 = 0 <;> by_cases h2 : a.f1 = b.f0 <;> by_cases h3 : b.f1 = 0 <;> by_cases h4 : b.f1 = a.f0 <;> simp [h0, h1, h2, h3, h4] <;> simp_all
theorem meet_comm (a b : S26) : Mt a b = Mt b a := by
  rw [meet_eq, meet_eq]
  exact decide_eq_decide.mpr ⟨fun x => ⟨fun e => x.1 e.symm, x.2.2, x.2.1⟩, fun x => ⟨fun e => x.1 e.symm, x.2.2, x.2.1⟩⟩

/-- May it be? -/
def Mays (o : S26) : Prop := (1 ≤ o.f0 ∧ o.f0 ≤ 8) ∧ (0 ≤ o.f1 ∧ o.f1 ≤ 8) ∧ o.f1 ≠ o.f0 ∧ (-2147483648 ≤ o.f2 ∧ o.f2 ≤ 2147483647) ∧ (0 ≤ o.f3 ∧ o.f3 ≤ 2147483647)
instance (o : S26) : Decidable (Mays o) := by unfold Mays; infer_instance
theorem may (o : S26) : swap_Offer_may.f o.f0 o.f1 o.f2 o.f3 = some (decide (Mays o)) := by
  have hs : span_Right.f o.f2 = some (decide (-2147483648 ≤ o.f2 ∧ o.f2 ≤ 2147483647)) := by
    unfold span_Right.f
    by_cases h : o.f2 ≥ -2147483648
    · rw [if_pos h]; congr 1; apply decide_eq_decide.mpr; exact ⟨fun x => ⟨h, x⟩, fun x => x.2⟩
    · rw [if_neg h]; congr 1; symm; apply decide_eq_false; intro x; exact h x.1
  have ht : tick_Right.f o.f3 = some (decide (0 ≤ o.f3 ∧ o.f3 ≤ 2147483647)) := by
    unfold tick_Right.f
    by_cases h : o.f3 ≥ 0
    · rw [if_pos h]; congr 1; apply decide_eq_decide.mpr; exact ⟨fun x => ⟨h, x⟩, fun x => x.2⟩
    · rw [if_neg h]; congr 1; symm; apply decide_eq_false; intro x; exact h x.1
  unfold swap_Offer_may.f
  rw [hs, ht]
  simp only [Option.bind_some]
  have no : ¬ Mays o → some false = some (decide (Mays o)) := fun h => by rw [decide_eq_false h]
  split
  · split
    · split
      · split
        · split
          · exact no (fun x => x.2.2.1 (by assumption))
          · split
            · rename_i h1 h2 h3 h4 h5 h6
              congr 1
              apply decide_eq_decide.mpr
              exact ⟨fun x => ⟨⟨h1, h2⟩, ⟨h3, h4⟩, h5, of_decide_eq_true h6, x⟩, fun x => x.2.2.2.2⟩
            · rename_i h6
              exact no (fun x => h6 (decide_eq_true x.2.2.2.1))
        · rename_i h; exact no (fun x => h x.2.1.2)
      · rename_i h; exact no (fun x => h x.2.1.1)
    · rename_i h; exact no (fun x => h x.1.2)
  · rename_i h; exact no (fun x => h x.1.1)

/-- Neither has the other one's number, nor do they meet. -/
def Apart (a b : S26) : Prop := a.f0 ≠ b.f0 ∧ Mt a b = false
instance (a b : S26) : Decidable (Apart a b) := by unfold Apart; infer_instance
/-- Is it a place? -/
def Rt (p : List S26) : Prop := (∀ o ∈ p, Mays o) ∧ p.Pairwise Apart
instance (p : List S26) : Decidable (Rt p) := by unfold Rt; infer_instance
theorem Rt.sub {p q : List S26} (h : Rt p) (hs : q.Sublist p) : Rt q := ⟨fun o ho => h.1 o (hs.subset ho), h.2.sublist hs⟩
theorem Rt.add {p : List S26} {o : S26} (h : Rt p) (hm : Mays o) (hn : ∀ x ∈ p, Apart x o) : Rt (p ++ [o]) := by
  refine ⟨fun x hx => ?_, ?_⟩
  · rcases List.mem_append.1 hx with hx | hx
    · exact h.1 x hx
    · rw [List.mem_singleton.1 hx]; exact hm
  · rw [List.pairwise_append]
    refine ⟨h.2, by simp, ?_⟩
    intro a ha b hb
    rw [List.mem_singleton.1 hb]
    exact hn a ha
theorem Rt.last {p : List S26} {o : S26} (h : Rt (p ++ [o])) : Mays o ∧ ∀ x ∈ p, Apart x o := by
  refine ⟨h.1 o (by simp), fun x hx => ?_⟩
  have := h.2
  rw [List.pairwise_append] at this
  exact this.2.2 x hx o (by simp)

theorem any_right (p : List S26) (o : S26) : any_swap_Right_1.f p o.f0 o.f1 o.f2 o.f3 = some (p.any fun x => x.f0 == o.f0 || Mt x o) := rfl
theorem right_loop (p : List S26) (hb : p.length < 9223372036854775807) : ∀ n i : Nat, p.length - i = n → i ≤ p.length → Rt (p.take i) →
    Tl (fun k => swap_Right.l0 k p p (p.length : Int) (i : Int)) (decide (Rt p)) := by
  intro n
  induction n with
  | zero =>
    intro i hn hi h
    have : i = p.length := by omega
    subst this
    rw [List.take_length] at h
    refine Tl.succ ?_
    simp only [swap_Right.l0]
    refine Tl.neg (by omega) ?_
    rw [decide_eq_true h]
    exact Tl.const
  | succ n ih =>
    intro i hn hi h
    have hlt : i < p.length := by omega
    have hnot : ¬ Rt (p.take i ++ [p[i]]) → Tl (fun _ => some false) (decide (Rt p)) := by
      intro hx
      rw [decide_eq_false (fun hp => hx (by rw [← List.take_succ_eq_append_getElem hlt]; exact hp.sub (List.take_sublist _ _)))]
      exact Tl.const
    refine Tl.succ ?_
    simp only [swap_Right.l0]
    refine Tl.pos (by omega) (Tl.pos (by omega) (Tl.pos (by omega) ?_))
    rw [rdT p i hlt]
    refine Tl.bindO (may _) ?_
    refine Tl.ite (fun e => ?_) (fun e => hnot (fun x => e (decide_eq_true x.last.1)))
    refine Tl.pos (by omega) ?_
    refine Tl.bindO (any_right _ _) ?_
    rw [show ((i : Int)).toNat = i by omega]
    refine Tl.ite (fun e2 => hnot (fun x => ?_)) (fun e2 => ?_)
    · obtain ⟨y, hy, hm⟩ := List.any_eq_true.1 e2
      have := x.last.2 y hy
      rcases Bool.or_eq_true _ _ |>.mp hm with h1 | h1
      · exact this.1 (by simpa using h1)
      · rw [this.2] at h1; cases h1
    · rw [w64 (by omega) (by omega)]
      refine ih (i + 1) (by omega) (by omega) ?_
      rw [List.take_succ_eq_append_getElem hlt]
      refine h.add (of_decide_eq_true e) (fun x hx => ?_)
      have hm : ¬ (x.f0 == p[i].f0 || Mt x p[i]) = true := fun hm => e2 (List.any_eq_true.2 ⟨x, hx, hm⟩)
      rw [Bool.or_eq_true, not_or] at hm
      exact ⟨by simpa using hm.1, by simpa using hm.2⟩
theorem right (p : List S26) (hb : p.length < 9223372036854775807) : Tl (fun k => swap_Right.f k p) (decide (Rt p)) := by
  unfold swap_Right.f
  exact right_loop p hb _ 0 rfl (Nat.zero_le _) ⟨by simp, by simp⟩

theorem idx_at {q : S26 → Bool} {l r : List S26} {x : S26} (hq : q x = true) (hn : ∀ y ∈ l, q y = false) : Go.Proofs.YtpmcoehggajmcaaG.idxBy q (l ++ x :: r) = (l.length : Int) := by
  refine Go.Proofs.YtpmcoehggajmcaaG.idxBy_some (x := x) (by simp) hq (fun i y hi hy => ?_)
  rw [List.getElem?_append_left hi] at hy
  exact hn y (List.mem_of_getElem? hy)
theorem idx_no {q : S26 → Bool} {l : List S26} (hn : ∀ y ∈ l, q y = false) : Go.Proofs.YtpmcoehggajmcaaG.idxBy q l = -1 := Go.Proofs.YtpmcoehggajmcaaG.idxBy_none (fun j x hx => hn x (List.mem_of_getElem? hx))
theorem idx_cases (q : S26 → Bool) (p : List S26) : (∀ y ∈ p, q y = false) ∨ ∃ l x r, p = l ++ x :: r ∧ q x = true ∧ ∀ y ∈ l, q y = false := by
  induction p with
  | nil => exact .inl (by simp)
  | cons a p ih =>
    cases ha : q a with
    | true => exact .inr ⟨[], a, p, rfl, ha, by simp⟩
    | false =>
      rcases ih with h | ⟨l, x, r, rfl, hx, hl⟩
      · refine .inl (fun y hy => ?_)
        rcases List.mem_cons.1 hy with rfl | hy
        · exact ha
        · exact h y hy
      · refine .inr ⟨a :: l, x, r, rfl, hx, fun y hy => ?_⟩
        rcases List.mem_cons.1 hy with rfl | hy
        · exact ha
        · exact hl y hy
theorem erase_at (l r : List S26) (x : S26) : (l ++ x :: r).eraseIdx l.length = l ++ r := by
  rw [List.eraseIdx_append_of_length_le (Nat.le_refl _)]; simp
theorem rd_at (l r : List S26) (x : S26) : rd_T26 (l ++ x :: r) (l.length : Int) = x := by
  rw [rdT _ l.length (by simp)]; simp
theorem place_eq (p : List S26) (w : Int) : swap_place.f p w = some (Go.Proofs.YtpmcoehggajmcaaG.idxBy (fun x => x.f0 == w) p) := rfl
theorem clone (p : List S26) (hb : p.length < 4398046511104) : swap_Offer_19.f p = some p := by unfold swap_Offer_19.f; rw [if_pos hb]
theorem delete (l r : List S26) (x : S26) : swap_Offer_18.f (l ++ x :: r) (l.length : Int) (wrap64 ((l.length : Int) + 1)) = some (l ++ r) := by
  unfold swap_Offer_18.f
  rw [if_pos (by omega), if_pos (by simp; omega), if_pos rfl]
  simp only [Int.toNat_natCast]
  rw [erase_at]

/-- Who leaves. -/
theorem leave_bad {p : List S26} (w : Int) (hb : p.length < 4398046511104) (h : ¬ Rt p) : Tl (fun k => swap_Leave.f k p w) (p, 0, 0, 0, 0, 1) := by
  unfold swap_Leave.f
  refine Tl.bindO (place_eq p w) (Tl.bind (right p (by omega)) ?_)
  exact Tl.neg (by simp [h]) Tl.const
theorem leave_none {p : List S26} {w : Int} (hb : p.length < 4398046511104) (h : Rt p) (hn : ∀ y ∈ p, y.f0 ≠ w) : Tl (fun k => swap_Leave.f k p w) (p, 0, 0, 0, 0, 3) := by
  unfold swap_Leave.f
  refine Tl.bindO (place_eq p w) (Tl.bind (right p (by omega)) ?_)
  rw [idx_no (fun y hy => by simpa using hn y hy)]
  exact Tl.pos (by simp [h]) (Tl.pos (by omega) Tl.const)
theorem leave_at {l r : List S26} {x : S26} {w : Int} (hb : (l ++ x :: r).length < 4398046511104) (h : Rt (l ++ x :: r)) (hx : x.f0 = w) (hn : ∀ y ∈ l, y.f0 ≠ w) :
    Tl (fun k => swap_Leave.f k (l ++ x :: r) w) (l ++ r, x.f0, x.f1, x.f2, x.f3, 0) := by
  unfold swap_Leave.f
  refine Tl.bindO (place_eq _ w) (Tl.bind (right _ (by omega)) ?_)
  rw [idx_at (by simpa using hx) (fun y hy => by simpa using hn y hy)]
  refine Tl.pos (by simp [h]) (Tl.neg (by omega) (Tl.bindO (clone _ hb) (Tl.bindO (delete l r x) (Tl.pos (by omega) (Tl.pos (by simp; omega) ?_)))))
  rw [rd_at]
  exact Tl.const
theorem who_cases (p : List S26) (w : Int) : (∀ y ∈ p, y.f0 ≠ w) ∨ ∃ l x r, p = l ++ x :: r ∧ x.f0 = w ∧ ∀ y ∈ l, y.f0 ≠ w := by
  rcases idx_cases (fun x => x.f0 == w) p with h | ⟨l, x, r, hp, hx, hl⟩
  · exact .inl (fun y hy => by simpa using h y hy)
  · exact .inr ⟨l, x, r, hp, by simpa using hx, fun y hy => by simpa using hl y hy⟩

/-- Who puts. -/
theorem put_bad {p : List S26} {o : S26} (hb : p.length < 4398046511104) (h : ¬ (Rt p ∧ Mays o)) : Tl (fun k => swap_Put.f k p o.f0 o.f1 o.f2 o.f3) (p, 0, 0, 0, 0, 0, 0, 0, 0, false, 1) := by
  unfold swap_Put.f
  have bad : Tl (fun k => swap_Put.j0 k p true o.f0 o.f1 o.f2 o.f3) (p, 0, 0, 0, 0, 0, 0, 0, 0, false, 1) := by
    refine Tl.succ ?_
    simp only [swap_Put.j0]
    exact Tl.pos trivial Tl.const
  refine Tl.bind (right p (by omega)) ?_
  refine Tl.ite (fun e => ?_) (fun e => bad)
  refine Tl.bindO (may o) ?_
  have : ¬ Mays o := fun x => h ⟨of_decide_eq_true e, x⟩
  simp only [this, decide_false, Bool.not_false]
  exact bad
theorem put_go {p : List S26} {o : S26} {v : List S26 × Int × Int × Int × Int × Int × Int × Int × Int × Bool × Int} (hb : p.length < 4398046511104) (h : Rt p) (hm : Mays o) (g : Tl (fun k => swap_Put.j0 k p false o.f0 o.f1 o.f2 o.f3) v) : Tl (fun k => swap_Put.f k p o.f0 o.f1 o.f2 o.f3) v := by
  unfold swap_Put.f
  refine Tl.bind (right p (by omega)) ?_
  refine Tl.pos (decide_eq_true h) ?_
  refine Tl.bindO (may o) ?_
  simp only [hm, decide_true, Bool.not_true]
  exact g
theorem put_wait {p : List S26} {o : S26} (hb : p.length < 4398046511104) (h : Rt p) (hm : Mays o) (hw : ∃ x ∈ p, x.f0 = o.f0) : Tl (fun k => swap_Put.f k p o.f0 o.f1 o.f2 o.f3) (p, 0, 0, 0, 0, 0, 0, 0, 0, false, 9) := by
  refine put_go hb h hm (Tl.succ ?_)
  simp only [swap_Put.j0]
  refine Tl.neg (by simp) (Tl.bindO (place_eq p o.f0) ?_)
  rcases who_cases p o.f0 with hn | ⟨l, x, r, rfl, hx, hl⟩
  · obtain ⟨x, hx, e⟩ := hw
    exact absurd e (hn x hx)
  · rw [idx_at (by simpa using hx) (fun y hy => by simpa using hl y hy)]
    exact Tl.pos (by omega) Tl.const
theorem put_add {p : List S26} {o : S26} (hb : p.length < 4398046511104) (h : Rt p) (hm : Mays o) (hw : ∀ x ∈ p, Apart x o) : Tl (fun k => swap_Put.f k p o.f0 o.f1 o.f2 o.f3) (p ++ [o], 0, 0, 0, 0, 0, 0, 0, 0, false, 0) := by
  refine put_go hb h hm (Tl.succ ?_)
  simp only [swap_Put.j0]
  refine Tl.neg (by simp) (Tl.bindO (place_eq p o.f0) ?_)
  rw [idx_no (fun y hy => by simpa using (hw y hy).1)]
  refine Tl.neg (by omega) (Tl.bindO (clone p hb) ?_)
  refine Tl.bindO (v := -1) (congrArg some (idx_no (q := swap_Put_1.p o.f0 o.f1 o.f2 o.f3) (fun y hy => (hw y hy).2))) ?_
  exact Tl.pos (by omega) (Tl.pos hb Tl.const)
theorem put_meet {l r : List S26} {x o : S26} (hb : (l ++ x :: r).length < 4398046511104) (h : Rt (l ++ x :: r)) (hm : Mays o) (hw : ∀ y ∈ l ++ x :: r, y.f0 ≠ o.f0) (hx : Mt x o = true) (hl : ∀ y ∈ l, Mt y o = false) :
    Tl (fun k => swap_Put.f k (l ++ x :: r) o.f0 o.f1 o.f2 o.f3) (l ++ r, x.f0, x.f1, x.f2, x.f3, o.f0, o.f1, o.f2, o.f3, true, 0) := by
  refine put_go hb h hm (Tl.succ ?_)
  simp only [swap_Put.j0]
  refine Tl.neg (by simp) (Tl.bindO (place_eq _ o.f0) ?_)
  rw [idx_no (fun y hy => by simpa using hw y hy)]
  refine Tl.neg (by omega) (Tl.bindO (clone _ hb) ?_)
  refine Tl.bindO (v := (l.length : Int)) (congrArg some (idx_at (q := swap_Put_1.p o.f0 o.f1 o.f2 o.f3) (x := x) hx hl)) ?_
  refine Tl.neg (by omega) (Tl.bindO (delete l r x) (Tl.pos (by omega) (Tl.pos (by simp; omega) ?_)))
  rw [rd_at]
  exact Tl.const
theorem put_cases (p : List S26) (o : S26) : (¬ (Rt p ∧ Mays o)) ∨ (Rt p ∧ Mays o ∧ ((∃ x ∈ p, x.f0 = o.f0) ∨ (∀ x ∈ p, Apart x o) ∨ ∃ l x r, p = l ++ x :: r ∧ (∀ y ∈ l ++ x :: r, y.f0 ≠ o.f0) ∧ Mt x o = true ∧ ∀ y ∈ l, Mt y o = false)) := by
  by_cases h : Rt p ∧ Mays o
  · refine .inr ⟨h.1, h.2, ?_⟩
    rcases who_cases p o.f0 with hn | ⟨l, x, r, rfl, hx, hl⟩
    · rcases idx_cases (fun x => Mt x o) p with h1 | ⟨l, x, r, rfl, hx, hl⟩
      · exact .inr (.inl (fun x hx => ⟨hn x hx, h1 x hx⟩))
      · exact .inr (.inr ⟨l, x, r, rfl, hn, hx, hl⟩)
    · exact .inl ⟨x, by simp, hx⟩
  · exact .inl h
theorem sub_out (l r : List S26) (x : S26) : (l ++ r).Sublist (l ++ x :: r) := List.Sublist.append (List.Sublist.refl l) (List.sublist_cons_self x r)
theorem awake : Tl (fun k => handshakerlaw21_awake.f k) true := Tl.of_mono handshakerlaw21_awake.mono 40 (by decide +kernel)
theorem awake' : Tl (fun k => (handshakerlaw21_awake.f k).bind fun t => some t) true := Tl.bind awake Tl.const
end core
section late
open Go.RowKit Go.Proofs.Ytpmcoehggajmcaa.PSwapBoth Go.Proofs.YtpmcoehggajmcaaW.PrintWords Go.Proofs.YtpmcoehggajmcaaW.PrintLast Go.Proofs.YtpmcoehggajmcaaW.PrintMore Go.Proofs.Ytpmcoehggajmcaa.Ev
set_option linter.unusedVariables false
/-- Is it late by then? -/
def lateB (now : Int) (o : S26) : Bool := decide (o.f3 ≠ 0 ∧ o.f3 ≤ now)
theorem late_loop (p : List S26) (now : Int) (hb : p.length < 4398046511104) : ∀ n i : Nat, p.length - i = n → i ≤ p.length → ∀ on off, on = (p.take i).filter (fun o => !lateB now o) → off = (p.take i).filter (lateB now) →
    Tl (fun k => swap_Late.l0 k now on off p (p.length : Int) (i : Int)) (p.filter (fun o => !lateB now o), p.filter (lateB now)) := by
  intro n
  induction n with
  | zero =>
    intro i hn hi on off h1 h2
    have : i = p.length := by omega
    subst this
    rw [List.take_length] at h1 h2
    refine Tl.succ ?_
    simp only [swap_Late.l0]
    refine Tl.neg (by omega) ?_
    rw [h1, h2]
    exact Tl.const
  | succ n ih =>
    intro i hn hi on off h1 h2
    have hlt : i < p.length := by omega
    have b1 : on.length < 4398046511104 := by have := List.length_filter_le (fun o => !lateB now o) (p.take i); rw [h1]; simp at this; omega
    have b2 : off.length < 4398046511104 := by have := List.length_filter_le (lateB now) (p.take i); rw [h2]; simp at this; omega
    refine Tl.succ ?_
    simp only [swap_Late.l0]
    refine Tl.pos (by omega) (Tl.pos (by omega) (Tl.pos (by omega) ?_))
    rw [rdT p i hlt, w64 (by omega) (by omega)]
    have stay : lateB now p[i] = false → Tl (fun k => if on.length < 4398046511104 then swap_Late.l0 k now (on ++ [(⟨p[i].f0, p[i].f1, p[i].f2, p[i].f3⟩ : S26)]) off p (p.length : Int) ((i : Int) + 1) else none) (p.filter (fun o => !lateB now o), p.filter (lateB now)) := by
      intro e
      refine Tl.pos b1 ?_
      refine ih (i + 1) (by omega) (by omega) _ _ ?_ ?_
      · rw [List.take_succ_eq_append_getElem hlt, List.filter_append, h1]; simp [e]
      · rw [List.take_succ_eq_append_getElem hlt, List.filter_append, h2]; simp [e]
    refine Tl.ite (fun e => stay (by unfold lateB; simp [e])) (fun e => ?_)
    refine Tl.ite (fun e2 => ?_) (fun e2 => stay (by unfold lateB; simp [e2]))
    have hl : lateB now p[i] = true := by unfold lateB; simp [e, e2]
    refine Tl.pos b2 ?_
    refine ih (i + 1) (by omega) (by omega) _ _ ?_ ?_
    · rw [List.take_succ_eq_append_getElem hlt, List.filter_append, h1]; simp [hl]
    · rw [List.take_succ_eq_append_getElem hlt, List.filter_append, h2]; simp [hl]
theorem late {p : List S26} (now : Int) (hb : p.length < 4398046511104) (h : Rt p) : Tl (fun k => swap_Late.f k p now) (p.filter (fun o => !lateB now o), p.filter (lateB now)) := by
  unfold swap_Late.f
  refine Tl.bind (right p (by omega)) (Tl.pos (decide_eq_true h) ?_)
  exact late_loop p now hb _ 0 rfl (Nat.zero_le _) _ _ (by simp) (by simp)
end late
section both
open Go.RowKit Go.Proofs.Ytpmcoehggajmcaa.PSwapBoth Go.Proofs.YtpmcoehggajmcaaW.PrintWords Go.Proofs.YtpmcoehggajmcaaW.PrintLast Go.Proofs.YtpmcoehggajmcaaW.PrintMore Go.Proofs.Ytpmcoehggajmcaa.Ev
set_option linter.unusedVariables false
set_option linter.unusedSimpArgs false
theorem both_choosy (v w : Int) (x y : S26) (hx : Mays x) (hy : Mays y) (hne : x.f0 ≠ y.f0) (hc : x.f1 ≠ 0 ∧ x.f1 ≠ y.f0) :
    Tl (fun k => handshakerlaw21_SwapBoth.j1 k v w true x.f0 x.f1 x.f2 x.f3 y.f0 y.f1 y.f2 y.f3) true := by
  have hm : Mt x y = false := by rw [meet_eq]; exact decide_eq_false (fun h => h.2.1.elim hc.1 hc.2)
  refine Tl.succ ?_
  simp only [handshakerlaw21_SwapBoth.j1]
  have h1 := put_add (p := []) (o := x) (by simp) ⟨by simp, by simp⟩ hx (by simp)
  have hr : Rt ([] ++ [x]) := Rt.add ⟨by simp, by simp⟩ hx (by simp)
  have h2 := put_add (p := [] ++ [x]) (o := y) (by simp) hr hy (by simp; exact ⟨hne, hm⟩)
  refine Tl.bind h1 (Tl.bind h2 (Tl.pos rfl (Tl.pos rfl (Tl.neg (by simp) ?_))))
  refine Tl.succ ?_
  simp only [handshakerlaw21_SwapBoth.j2]
  refine Tl.neg (by simp) (Tl.pos trivial (Tl.pos (by simp) (Tl.bindO (meet x y) (Tl.neg (by simp [hm]) awake'))))
theorem both_plain (v w : Int) (x y : S26) (hx : Mays x) (hy : Mays y) (hne : x.f0 ≠ y.f0) (hc : x.f1 = 0 ∧ y.f1 = 0) (hv : x.f2 = wrap64 v) (hw : y.f2 = wrap64 w) :
    Tl (fun k => handshakerlaw21_SwapBoth.j1 k v w false x.f0 x.f1 x.f2 x.f3 y.f0 y.f1 y.f2 y.f3) true := by
  have hm : Mt x y = true := by rw [meet_eq]; exact decide_eq_true ⟨hne, .inl hc.1, .inl hc.2⟩
  refine Tl.succ ?_
  simp only [handshakerlaw21_SwapBoth.j1]
  have h1 := put_add (p := []) (o := x) (by simp) ⟨by simp, by simp⟩ hx (by simp)
  have hr : Rt ([] ++ [x]) := Rt.add ⟨by simp, by simp⟩ hx (by simp)
  have h2 := put_meet (l := []) (r := []) (x := x) (o := y) (by simp) hr hy (by simp; exact hne) hm (by simp)
  refine Tl.bind h1 (Tl.bind h2 (Tl.pos rfl (Tl.pos rfl (Tl.neg (by simp) ?_))))
  refine Tl.succ ?_
  simp only [handshakerlaw21_SwapBoth.j2]
  have g1 : swap_Got.f x.f0 x.f1 x.f2 x.f3 y.f0 y.f1 y.f2 y.f3 x.f0 = some (y.f2, true) := by unfold swap_Got.f; rw [if_pos rfl]
  have g2 : swap_Got.f x.f0 x.f1 x.f2 x.f3 y.f0 y.f1 y.f2 y.f3 y.f0 = some (x.f2, true) := by unfold swap_Got.f; rw [if_neg (fun e => hne e.symm), if_pos rfl]
  exact Tl.neg (by simp) (Tl.neg (by simp) (Tl.bindO g1 (Tl.bindO g2 (Tl.pos (by simp) (Tl.pos rfl (Tl.pos rfl (Tl.pos hw (Tl.pos hv awake'))))))))
theorem both_loop (v w : Int) (x y : S26) (hy : Mays y) (hne : x.f0 ≠ y.f0) (hx : ∀ c, (0 ≤ c ∧ c ≤ 8) → c ≠ x.f0 → Mays ⟨x.f0, c, x.f2, x.f3⟩) : ∀ n i : Nat, 9 - i = n → 1 ≤ i → i ≤ 9 → ∀ c : Int, ((c = 0 ∧ ∀ m : Int, 1 ≤ m → m < (i : Int) → m = x.f0 ∨ m = y.f0) ∨ ((1 ≤ c ∧ c ≤ 8) ∧ c ≠ x.f0 ∧ c ≠ y.f0)) →
    Tl (fun k => handshakerlaw21_SwapBoth.l0 k v w true (i : Int) x.f0 c x.f2 x.f3 y.f0 y.f1 y.f2 y.f3) true := by
  intro n
  induction n with
  | zero =>
    intro i hn h1 h9 c hc
    have : i = 9 := by omega
    subst this
    refine Tl.succ ?_
    simp only [handshakerlaw21_SwapBoth.l0]
    refine Tl.neg (by omega) ?_
    have hc : (1 ≤ c ∧ c ≤ 8) ∧ c ≠ x.f0 ∧ c ≠ y.f0 := by
      rcases hc with ⟨_, h⟩ | h
      · have a := h 1 (by omega) (by omega)
        have b := h 2 (by omega) (by omega)
        have d := h 3 (by omega) (by omega)
        omega
      · exact h
    exact both_choosy v w ⟨x.f0, c, x.f2, x.f3⟩ y (hx c (by omega) hc.2.1) hy hne ⟨by show c ≠ 0; omega, hc.2.2⟩
  | succ n ih =>
    intro i hn h1 h9 c hc
    refine Tl.succ ?_
    simp only [handshakerlaw21_SwapBoth.l0]
    refine Tl.pos (by omega) ?_
    rw [w64 (by omega) (by omega)]
    have more : ((i : Int) = x.f0 ∨ (i : Int) = y.f0) → ((c = 0 ∧ ∀ m : Int, 1 ≤ m → m < ((i + 1 : Nat) : Int) → m = x.f0 ∨ m = y.f0) ∨ ((1 ≤ c ∧ c ≤ 8) ∧ c ≠ x.f0 ∧ c ≠ y.f0)) := by
      intro hi
      rcases hc with ⟨h0, h⟩ | h
      · refine .inl ⟨h0, fun m hm1 hm2 => ?_⟩
        rcases Int.lt_or_eq_of_le (show m ≤ (i : Int) by omega) with hlt | heq
        · exact h m hm1 hlt
        · rw [heq]; exact hi
      · exact .inr h
    refine Tl.ite (fun e => ih (i + 1) (by omega) (by omega) (by omega) c (more (.inl e))) (fun e => ?_)
    refine Tl.ite (fun e2 => ih (i + 1) (by omega) (by omega) (by omega) c (more (.inr e2))) (fun e2 => ?_)
    exact ih (i + 1) (by omega) (by omega) (by omega) (i : Int) (.inr ⟨by omega, e, e2⟩)
theorem SwapBoth : handshakerlaw21_SwapBoth.Pure := by
  intro a b v w choosy ha hb hv hw
  refine Tl.some ?_
  have ha : 0 ≤ a ∧ a ≤ 255 := by simpa [Lit.wf, IntKind.min, IntKind.max, IntKind.signed, IntKind.bits] using ha
  have hb : 0 ≤ b ∧ b ≤ 255 := by simpa [Lit.wf, IntKind.min, IntKind.max, IntKind.signed, IntKind.bits] using hb
  have hv : -2147483648 ≤ v ∧ v ≤ 2147483647 := by simpa [Lit.wf, IntKind.min, IntKind.max, IntKind.signed, IntKind.bits] using hv
  have hw : -2147483648 ≤ w ∧ w ≤ 2147483647 := by simpa [Lit.wf, IntKind.min, IntKind.max, IntKind.signed, IntKind.bits] using hw
  unfold handshakerlaw21_SwapBoth.f
  have e1 : Int.tmod a 8 = a % 8 := Int.tmod_eq_emod_of_nonneg ha.1
  have e2 : Int.tmod b 8 = b % 8 := Int.tmod_eq_emod_of_nonneg hb.1
  rw [e1, e2, w64 (n := a % 8) (by omega) (by omega), w64 (n := b % 8) (by omega) (by omega), w64 (n := 1 + a % 8) (by omega) (by omega), w64 (n := 1 + b % 8) (by omega) (by omega), w64 (n := v) (by omega) (by omega), w64 (n := w) (by omega) (by omega)]
  refine Tl.ite (fun e => ?_) (fun e => ?_)
  · have hm := meet (⟨1 + a % 8, 0, v, 0⟩ : S26) ⟨1 + b % 8, 0, w, 0⟩
    have hf : Mt (⟨1 + a % 8, 0, v, 0⟩ : S26) ⟨1 + b % 8, 0, w, 0⟩ = false := by rw [meet_eq]; exact decide_eq_false (fun x => x.1 e)
    rw [hf] at hm
    exact Tl.bindO hm (Tl.neg (by simp) awake')
  · have hx : ∀ c, (0 ≤ c ∧ c ≤ 8) → c ≠ 1 + a % 8 → Mays ⟨1 + a % 8, c, v, 0⟩ := by
      intro c hc hn
      exact ⟨by show 1 ≤ 1 + a % 8 ∧ 1 + a % 8 ≤ 8; omega, hc, hn, hv, by show 0 ≤ (0 : Int) ∧ (0 : Int) ≤ 2147483647; omega⟩
    have hy : Mays ⟨1 + b % 8, 0, w, 0⟩ := ⟨by show 1 ≤ 1 + b % 8 ∧ 1 + b % 8 ≤ 8; omega, by show 0 ≤ (0 : Int) ∧ (0 : Int) ≤ 8; omega, by show (0 : Int) ≠ 1 + b % 8; omega, hw, by show 0 ≤ (0 : Int) ∧ (0 : Int) ≤ 2147483647; omega⟩
    refine Tl.ite (fun e3 => ?_) (fun e3 => ?_)
    · subst e3
      exact both_loop v w ⟨1 + a % 8, 0, v, 0⟩ ⟨1 + b % 8, 0, w, 0⟩ hy e hx _ 1 rfl (by omega) (by omega) 0 (.inl ⟨rfl, fun m h1 h2 => by omega⟩)
    · have e3 : choosy = false := by simpa using e3
      subst e3
      exact both_plain v w ⟨1 + a % 8, 0, v, 0⟩ ⟨1 + b % 8, 0, w, 0⟩ (hx 0 (by omega) (by omega)) hy e ⟨rfl, rfl⟩ (w64 (n := v) (by omega) (by omega)).symm (w64 (n := w) (by omega) (by omega)).symm
end both
end Go.Proofs.Ytpmcoehggajmcaa.Pure
