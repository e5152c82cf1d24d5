/- What the law SemaTells computes is true: a plain law over what the printed functions tell; for every input. -/
import Derived.Test.YthbcajkphkdnmaaPSemaTellsx15
import Derived.Test.YthbcajkphkdnmaaEv
namespace Go.Proofs.Ythbcajkphkdnmaa.Pure
section core
open Go.RowKit Go.Proofs.Ythbcajkphkdnmaa.PSemaTells Go.Proofs.YthbcajkphkdnmaaW.PrintWords Go.Proofs.YthbcajkphkdnmaaW.PrintLast Go.Proofs.YthbcajkphkdnmaaW.PrintMore Go.Proofs.Ythbcajkphkdnmaa.Ev
set_option linter.unusedVariables false
set_option linter.unusedSimpArgs false

theorem rdT (h : List S50) (i : Nat) (hi : i < h.length) : rd_T50 h (i : Int) = h[i] := by unfold rd_T50; simp [hi]
/-- May it be asked? -/
def Mays (m : Int) (a : S50) : Prop := (1 ≤ a.f0 ∧ a.f0 ≤ 8) ∧ (1 ≤ a.f1 ∧ a.f1 ≤ m)
instance (m : Int) (a : S50) : Decidable (Mays m a) := by unfold Mays; infer_instance
theorem may (m f : Int) (q : List S50) (a : S50) : sema_Sema_may.f m f q a.f0 a.f1 = some (decide (Mays m a)) := by
  unfold sema_Sema_may.f
  have no : ¬ Mays m a → some false = some (decide (Mays m a)) := fun h => by rw [decide_eq_false h]
  split
  · split
    · split
      · rename_i h1 h2 h3
        congr 1
        exact decide_eq_decide.mpr ⟨fun x => ⟨⟨h1, h2⟩, h3, x⟩, fun x => x.2.2⟩
      · rename_i h; exact no (fun x => h x.2.1)
    · rename_i h; exact no (fun x => h x.1.2)
  · rename_i h; exact no (fun x => h x.1.1)

/-- Asks, each of somebody else, which may be asked. -/
def Qu (m : Int) (q : List S50) : Prop := (∀ a ∈ q, Mays m a) ∧ q.Pairwise (fun a b => a.f0 ≠ b.f0)
/-- The first one can't be served. -/
def Hd (f : Int) : List S50 → Prop
  | [] => True
  | a :: _ => f < a.f1
/-- Is it a semaphore? -/
def Rt (m f : Int) (q : List S50) : Prop := (1 ≤ m ∧ m ≤ 100) ∧ (0 ≤ f ∧ f ≤ m) ∧ Qu m q ∧ Hd f q
instance (m : Int) (q : List S50) : Decidable (Qu m q) := by unfold Qu; infer_instance
instance (f : Int) (q : List S50) : Decidable (Hd f q) := by cases q <;> unfold Hd <;> infer_instance
instance (m f : Int) (q : List S50) : Decidable (Rt m f q) := by unfold Rt; infer_instance
theorem Qu.sub {m : Int} {p q : List S50} (h : Qu m p) (hs : q.Sublist p) : Qu m q := ⟨fun o ho => h.1 o (hs.subset ho), h.2.sublist hs⟩
theorem Qu.add {m : Int} {q : List S50} {a : S50} (h : Qu m q) (hm : Mays m a) (hn : ∀ x ∈ q, x.f0 ≠ a.f0) : Qu m (q ++ [a]) := by
  refine ⟨fun x hx => ?_, ?_⟩
  · rcases List.mem_append.1 hx with hx | hx
    · exact h.1 x hx
    · rw [List.mem_singleton.1 hx]; exact hm
  · rw [List.pairwise_append]
    refine ⟨h.2, by simp, ?_⟩
    intro x hx b hb
    rw [List.mem_singleton.1 hb]
    exact hn x hx
theorem Qu.last {m : Int} {q : List S50} {a : S50} (h : Qu m (q ++ [a])) : Mays m a ∧ ∀ x ∈ q, x.f0 ≠ a.f0 := by
  refine ⟨h.1 a (by simp), fun x hx => ?_⟩
  have := h.2
  rw [List.pairwise_append] at this
  exact this.2.2 x hx a (by simp)

theorem idx_is (q : List S50) (w : Int) : idx_sema_is_1.f q w = some (Go.Proofs.YthbcajkphkdnmaaG.idxBy (fun x => x.f0 == w) q) := rfl
theorem any_is (q : List S50) (w : Int) : any_sema_is_1.f q w = some (q.any fun x => x.f0 == w) := rfl
theorem idx_first {q : List S50} {i : Nat} (hi : i < q.length) : Go.Proofs.YthbcajkphkdnmaaG.idxBy (fun x => x.f0 == q[i].f0) q = (i : Int) ↔ ∀ x ∈ q.take i, x.f0 ≠ q[i].f0 := by
  constructor
  · intro h x hx e
    obtain ⟨j, hj, hx'⟩ := List.getElem_of_mem hx
    have hj2 : j < i := by simp at hj; omega
    obtain ⟨k, y, hk, hy, hp, hl⟩ := Go.Proofs.YthbcajkphkdnmaaG.idxBy_found (p := fun x : S50 => x.f0 == q[i].f0) (l := q) (by rw [h]; omega)
    have hki : k = i := by omega
    have := hl j q[j] (by omega) (List.getElem?_eq_getElem (by omega))
    have hxj : q[j] = x := by rw [← hx']; simp
    rw [hxj] at this
    simp at this
    exact this e
  · intro h
    refine Go.Proofs.YthbcajkphkdnmaaG.idxBy_some (x := q[i]) (List.getElem?_eq_getElem hi) (by simp) (fun j y hj hy => ?_)
    obtain ⟨hjl, e⟩ := List.getElem?_eq_some_iff.1 hy
    have : y ∈ q.take i := by
      rw [← e]
      exact List.mem_iff_getElem.2 ⟨j, by simp; omega, by simp⟩
    simpa using h y this
theorem right_loop (m f : Int) (q : List S50) (hm : 1 ≤ m ∧ m ≤ 100) (hf : 0 ≤ f ∧ f ≤ m) (hb : q.length < 9223372036854775807) : ∀ n i : Nat, q.length - i = n → i ≤ q.length → Qu m (q.take i) →
    Tl (fun k => sema_Right.l0 k q (q.length : Int) (i : Int) m f q) (decide (Rt m f q)) := by
  intro n
  induction n with
  | zero =>
    intro i hn hi h
    have : i = q.length := by omega
    subst this
    rw [List.take_length] at h
    refine Tl.succ ?_
    simp only [sema_Right.l0]
    refine Tl.neg (by omega) ?_
    cases q with
    | nil =>
      refine Tl.pos (by simp) (Tl.const.cast ?_)
      symm; exact decide_eq_true ⟨hm, hf, h, trivial⟩
    | cons a r =>
      refine Tl.neg (by simp; omega) (Tl.pos (by simp) (Tl.const.cast ?_))
      exact decide_eq_decide.mpr ⟨fun x => ⟨hm, hf, h, x⟩, fun x => x.2.2.2⟩
  | succ n ih =>
    intro i hn hi h
    have hlt : i < q.length := by omega
    have hnot : ¬ Qu m (q.take i ++ [q[i]]) → Tl (fun _ => some false) (decide (Rt m f q)) := by
      intro hx
      rw [decide_eq_false (fun hp : Rt m f q => hx (by rw [← List.take_succ_eq_append_getElem hlt]; exact hp.2.2.1.sub (List.take_sublist _ _)))]
      exact Tl.const
    refine Tl.succ ?_
    simp only [sema_Right.l0]
    refine Tl.pos (by omega) (Tl.pos (by omega) (Tl.pos (by omega) ?_))
    rw [rdT q i hlt]
    refine Tl.bindO (may m f q _) ?_
    refine Tl.ite (fun e => ?_) (fun e => hnot (fun x => e (decide_eq_true x.last.1)))
    refine Tl.bindO (idx_is q _) ?_
    refine Tl.ite (fun e2 => ?_) (fun e2 => hnot (fun x => e2 ((idx_first hlt).2 x.last.2)))
    rw [w64 (by omega) (by omega)]
    refine ih (i + 1) (by omega) (by omega) ?_
    rw [List.take_succ_eq_append_getElem hlt]
    exact h.add (of_decide_eq_true e) ((idx_first hlt).1 e2)
theorem right (m f : Int) (q : List S50) (hb : q.length < 9223372036854775807) : Tl (fun k => sema_Right.f k m f q) (decide (Rt m f q)) := by
  have bad : ¬ ((1 ≤ m ∧ m ≤ 100) ∧ (0 ≤ f ∧ f ≤ m)) → Tl (fun k => sema_Right.j0 k true m f q) (decide (Rt m f q)) := by
    intro h
    rw [decide_eq_false (fun x : Rt m f q => h ⟨x.1, x.2.1⟩)]
    refine Tl.succ ?_
    simp only [sema_Right.j0]
    exact Tl.pos trivial Tl.const
  unfold sema_Right.f
  refine Tl.ite (fun e => bad (fun x => by omega)) (fun e1 => Tl.ite (fun e => bad (fun x => by omega)) (fun e2 => Tl.ite (fun e => bad (fun x => by omega)) (fun e3 => ?_)))
  by_cases h : f > m
  · rw [decide_eq_true h]
    exact bad (fun x => by omega)
  · rw [decide_eq_false h]
    refine Tl.succ ?_
    simp only [sema_Right.j0]
    exact Tl.neg (by simp) (right_loop m f q (by omega) (by omega) hb _ 0 rfl (Nat.zero_le _) ⟨by simp, by simp⟩)

theorem clone (q : List S50) (hb : q.length < 8796093022208) : sema_Ask_26.f q = some q := by unfold sema_Ask_26.f; rw [if_pos hb]
theorem any_yes {q : List S50} {w : Int} (h : ∃ x ∈ q, x.f0 = w) : (q.any fun x => x.f0 == w) = true := by
  obtain ⟨x, hx, e⟩ := h
  exact List.any_eq_true.2 ⟨x, hx, by simpa using e⟩
theorem any_no {q : List S50} {w : Int} (h : ∀ x ∈ q, x.f0 ≠ w) : (q.any fun x => x.f0 == w) = false := by
  rw [List.any_eq_false]
  exact fun x hx => by simpa using h x hx
theorem is_cases (q : List S50) (w : Int) : (∃ x ∈ q, x.f0 = w) ∨ ∀ x ∈ q, x.f0 ≠ w := by
  by_cases h : ∃ x ∈ q, x.f0 = w
  · exact .inl h
  · exact .inr (fun x hx e => h ⟨x, hx, e⟩)

/-- As many as can be, in order: what is free then, who still waits, who is served. -/
def srv : Int → List S50 → Int × List S50 × List S50
  | f, [] => (f, [], [])
  | f, a :: q => if a.f1 ≤ f then ((srv (f - a.f1) q).1, (srv (f - a.f1) q).2.1, a :: (srv (f - a.f1) q).2.2) else (f, a :: q, [])
theorem srv_split (q : List S50) : ∀ f, (srv f q).2.2 ++ (srv f q).2.1 = q := by
  induction q with
  | nil => intro f; rfl
  | cons a q ih => intro f; unfold srv; split <;> simp [ih]
theorem srv_head (q : List S50) : ∀ f, Hd (srv f q).1 (srv f q).2.1 := by
  induction q with
  | nil => intro f; trivial
  | cons a q ih =>
    intro f
    unfold srv
    split
    · exact ih _
    · rename_i h
      show f < a.f1
      omega
def sum (q : List S50) : Int := (q.map (·.f1)).sum
theorem srv_free (q : List S50) : ∀ f, (srv f q).1 = f - sum (srv f q).2.2 := by
  induction q with
  | nil => intro f; simp [srv, sum]
  | cons a q ih =>
    intro f
    unfold srv
    split
    · show (srv (f - a.f1) q).1 = f - sum (a :: (srv (f - a.f1) q).2.2)
      rw [ih]; simp [sum]; omega
    · simp [sum]
theorem srv_bounds (q : List S50) : ∀ f, (∀ a ∈ q, 1 ≤ a.f1) → 0 ≤ f → 0 ≤ (srv f q).1 ∧ (srv f q).1 ≤ f := by
  induction q with
  | nil => intro f _ h; exact ⟨h, Int.le_refl _⟩
  | cons a q ih =>
    intro f hq hf
    unfold srv
    split
    · rename_i h
      have h1 := hq a (by simp)
      have := ih (f - a.f1) (fun x hx => hq x (by simp [hx])) (by omega)
      exact ⟨this.1, by show (srv (f - a.f1) q).1 ≤ f; omega⟩
    · exact ⟨hf, Int.le_refl _⟩
theorem srv_none {f : Int} {q : List S50} (h : Hd f q) : srv f q = (f, q, []) := by
  cases q with
  | nil => rfl
  | cons a q =>
    unfold srv
    have h : f < a.f1 := h
    rw [if_neg (by omega)]
theorem srv_rt {m f : Int} {q : List S50} (hm : 1 ≤ m ∧ m ≤ 100) (hf : 0 ≤ f ∧ f ≤ m) (hq : Qu m q) : Rt m (srv f q).1 (srv f q).2.1 := by
  have h := srv_bounds q f (fun a ha => (hq.1 a ha).2.1) hf.1
  refine ⟨hm, by omega, hq.sub ?_, srv_head q f⟩
  conv => rhs; rw [← srv_split q f]
  exact List.sublist_append_right _ _
theorem srv_len (q : List S50) (f : Int) : (srv f q).2.2.length + (srv f q).2.1.length = q.length := by
  rw [← List.length_append, srv_split]
theorem served_loop (m : Int) (q : List S50) : ∀ (f : Int) (acc : List S50), (∀ a ∈ q, 1 ≤ a.f1) → 0 ≤ f → f ≤ 1000 → acc.length + q.length < 8796093022208 →
    Tl (fun k => sema_served.l0 k acc m f q) (m, (srv f q).1, (srv f q).2.1, acc ++ (srv f q).2.2) := by
  induction q with
  | nil =>
    intro f acc _ _ _ _
    refine Tl.succ ?_
    simp only [sema_served.l0]
    refine Tl.neg (by simp) (Tl.const.cast ?_)
    simp [srv]
  | cons a q ih =>
    intro f acc hq h0 h1 hb
    have ha := hq a (by simp)
    simp only [List.length_cons] at hb
    refine Tl.succ ?_
    simp only [sema_served.l0]
    refine Tl.pos (by simp) (Tl.pos (by simp) ?_)
    have e : rd_T50 (a :: q) 0 = a := rfl
    rw [e]
    refine Tl.ite (fun h => ?_) (fun h => ?_)
    · refine Tl.pos (by omega) (Tl.pos (by simp; omega) ?_)
      rw [w64 (by omega) (by omega)]
      have := ih (f - a.f1) (acc ++ [a]) (fun x hx => hq x (by simp [hx])) (by omega) (by omega) (by simp; omega)
      refine this.cast ?_
      conv => rhs; unfold srv
      rw [if_pos h]
      simp
    · refine Tl.const.cast ?_
      conv => rhs; unfold srv
      rw [if_neg h]
      simp
theorem served (m f : Int) (q : List S50) (hq : ∀ a ∈ q, 1 ≤ a.f1) (h0 : 0 ≤ f) (h1 : f ≤ 1000) (hb : q.length < 8796093022208) : Tl (fun k => sema_served.f k m f q) (m, (srv f q).1, (srv f q).2.1, (srv f q).2.2) := by
  unfold sema_served.f
  exact (served_loop m q f [] hq h0 h1 (by simpa using hb)).cast (by simp)

/-- Who takes. -/
theorem take_bad {m f : Int} {q : List S50} {w n : Int} (hb : q.length < 8796093022000) (h : ¬ (Rt m f q ∧ Mays m ⟨w, n⟩)) : Tl (fun k => sema_Take.f k m f q w n) (m, f, q, false, 1) := by
  have bad : Tl (fun k => sema_Take.j0 k w n true m f q w n) (m, f, q, false, 1) := by
    refine Tl.succ ?_
    simp only [sema_Take.j0]
    exact Tl.pos trivial Tl.const
  unfold sema_Take.f
  refine Tl.bind (right m f q (by omega)) ?_
  refine Tl.ite (fun e => ?_) (fun e => bad)
  refine Tl.bindO (may m f q ⟨w, n⟩) ?_
  have : ¬ Mays m ⟨w, n⟩ := fun x => h ⟨of_decide_eq_true e, x⟩
  simp only [this, decide_false, Bool.not_false]
  exact bad
theorem take_go {m f : Int} {q : List S50} {w n : Int} {v : Int × Int × List S50 × Bool × Int} (hb : q.length < 8796093022000) (h : Rt m f q) (hm : Mays m ⟨w, n⟩) (g : Tl (fun k => sema_Take.j0 k w n false m f q w n) v) : Tl (fun k => sema_Take.f k m f q w n) v := by
  unfold sema_Take.f
  refine Tl.bind (right m f q (by omega)) (Tl.pos (decide_eq_true h) ?_)
  refine Tl.bindO (may m f q ⟨w, n⟩) ?_
  simp only [hm, decide_true, Bool.not_true]
  exact g
theorem take_wait {m f : Int} {q : List S50} {w n : Int} (hb : q.length < 8796093022000) (h : Rt m f q) (hm : Mays m ⟨w, n⟩) (hw : ∃ x ∈ q, x.f0 = w) : Tl (fun k => sema_Take.f k m f q w n) (m, f, q, false, 9) := by
  refine take_go hb h hm (Tl.succ ?_)
  simp only [sema_Take.j0]
  exact Tl.neg (by simp) (Tl.bindO (any_is q w) (Tl.pos (any_yes hw) Tl.const))
theorem take_got {m f : Int} {w n : Int} (h : Rt m f []) (hm : Mays m ⟨w, n⟩) (hn : n ≤ f) : Tl (fun k => sema_Take.f k m f [] w n) (m, f - n, [], true, 0) := by
  refine take_go (by simp) h hm (Tl.succ ?_)
  simp only [sema_Take.j0]
  have h1 := h.1
  have h2 := h.2.1
  have h3 : 1 ≤ n := hm.2.1
  rw [w64 (n := f - n) (by omega) (by omega)]
  exact Tl.neg (by simp) (Tl.bindO (any_is [] w) (Tl.neg (by simp) (Tl.pos (by simp) (Tl.pos hn Tl.const))))
theorem take_queue {m f : Int} {q : List S50} {w n : Int} (hb : q.length < 8796093022000) (h : Rt m f q) (hm : Mays m ⟨w, n⟩) (hw : ∀ x ∈ q, x.f0 ≠ w) (hn : q = [] → f < n) : Tl (fun k => sema_Take.f k m f q w n) (m, f, q ++ [⟨w, n⟩], false, 0) := by
  refine take_go hb h hm (Tl.succ ?_)
  simp only [sema_Take.j0]
  refine Tl.neg (by simp) (Tl.bindO (any_is q w) (Tl.neg (by simp [any_no hw]) ?_))
  refine Tl.ite (fun e => ?_) (fun e => ?_)
  · have : q = [] := List.length_eq_zero_iff.1 (by omega)
    exact Tl.neg (by have := hn this; omega) (Tl.bindO (clone q (by omega)) (Tl.bind0 (Tl.pos (by simp; omega) Tl.const)))
  · exact Tl.bindO (clone q (by omega)) (Tl.bind0 (Tl.pos (by simp; omega) Tl.const))
theorem take_rt {m f : Int} {q : List S50} {w n : Int} (h : Rt m f q) (hm : Mays m ⟨w, n⟩) (hw : ∀ x ∈ q, x.f0 ≠ w) (hn : q = [] → f < n) : Rt m f (q ++ [⟨w, n⟩]) := by
  refine ⟨h.1, h.2.1, h.2.2.1.add hm hw, ?_⟩
  cases q with
  | nil => exact hn rfl
  | cons a q => exact h.2.2.2
theorem take_cases (m f : Int) (q : List S50) (w n : Int) : (¬ (Rt m f q ∧ Mays m ⟨w, n⟩)) ∨ (Rt m f q ∧ Mays m ⟨w, n⟩ ∧ ((∃ x ∈ q, x.f0 = w) ∨ (q = [] ∧ n ≤ f) ∨ ((∀ x ∈ q, x.f0 ≠ w) ∧ (q = [] → f < n)))) := by
  by_cases h : Rt m f q ∧ Mays m ⟨w, n⟩
  · refine .inr ⟨h.1, h.2, ?_⟩
    rcases is_cases q w with h1 | h1
    · exact .inl h1
    · by_cases h2 : q = [] ∧ n ≤ f
      · exact .inr (.inl h2)
      · exact .inr (.inr ⟨h1, fun e => by
          have : ¬ n ≤ f := fun x => h2 ⟨e, x⟩
          omega⟩)
  · exact .inl h

/-- Who gives. -/
theorem give_bad {m f : Int} {q : List S50} {n : Int} (hb : q.length < 8796093022000) (h : ¬ (Rt m f q ∧ 1 ≤ n)) : Tl (fun k => sema_Give.f k m f q n) (m, f, q, [], 1) := by
  have bad : Tl (fun k => sema_Give.j0 k n true m f q) (m, f, q, [], 1) := by
    refine Tl.succ ?_
    simp only [sema_Give.j0]
    exact Tl.pos trivial Tl.const
  unfold sema_Give.f
  refine Tl.bind (right m f q (by omega)) ?_
  refine Tl.ite (fun e => ?_) (fun e => bad)
  have : n < 1 := by
    have : ¬ 1 ≤ n := fun x => h ⟨of_decide_eq_true e, x⟩
    omega
  rw [decide_eq_true this]
  exact bad
theorem give_full {m f : Int} {q : List S50} {n : Int} (hb : q.length < 8796093022000) (h : Rt m f q) (hn : 1 ≤ n) (hm : m - f < n) : Tl (fun k => sema_Give.f k m f q n) (m, f, q, [], 4) := by
  unfold sema_Give.f
  refine Tl.bind (right m f q (by omega)) (Tl.pos (decide_eq_true h) ?_)
  rw [decide_eq_false (by omega : ¬ n < 1)]
  have h1 := h.1
  have h2 := h.2.1
  refine Tl.succ ?_
  simp only [sema_Give.j0]
  rw [w64 (n := m - f) (by omega) (by omega)]
  exact Tl.neg (by simp) (Tl.pos (by omega) Tl.const)
theorem give_ok {m f : Int} {q : List S50} {n : Int} (hb : q.length < 8796093022000) (h : Rt m f q) (hn : 1 ≤ n) (hm : n ≤ m - f) : Tl (fun k => sema_Give.f k m f q n) (m, (srv (f + n) q).1, (srv (f + n) q).2.1, (srv (f + n) q).2.2, 0) := by
  unfold sema_Give.f
  refine Tl.bind (right m f q (by omega)) (Tl.pos (decide_eq_true h) ?_)
  rw [decide_eq_false (by omega : ¬ n < 1)]
  have h1 := h.1
  have h2 := h.2.1
  refine Tl.succ ?_
  simp only [sema_Give.j0]
  rw [w64 (n := m - f) (by omega) (by omega), w64 (n := f + n) (by omega) (by omega)]
  refine Tl.neg (by simp) (Tl.neg (by omega) (Tl.bindO (clone q (by omega)) ?_))
  exact Tl.bind (served m (f + n) q (fun a ha => (h.2.2.1.1 a ha).2.1) (by omega) (by omega) (by omega)) Tl.const
theorem give_rt {m f : Int} {q : List S50} {n : Int} (h : Rt m f q) (hn : 1 ≤ n) (hm : n ≤ m - f) : Rt m (srv (f + n) q).1 (srv (f + n) q).2.1 := by
  have h1 := h.1
  have h2 := h.2.1
  exact srv_rt h.1 (by omega) h.2.2.1

/-- Who leaves. -/
theorem leave_bad {m f : Int} {q : List S50} {w : Int} (hb : q.length < 8796093022000) (h : ¬ Rt m f q) : Tl (fun k => sema_Leave.f k m f q w) (m, f, q, [], 1) := by
  unfold sema_Leave.f
  exact Tl.bind (right m f q (by omega)) (Tl.neg (by simp [h]) Tl.const)
theorem leave_none {m f : Int} {q : List S50} {w : Int} (hb : q.length < 8796093022000) (h : Rt m f q) (hw : ∀ x ∈ q, x.f0 ≠ w) : Tl (fun k => sema_Leave.f k m f q w) (m, f, q, [], 3) := by
  unfold sema_Leave.f
  exact Tl.bind (right m f q (by omega)) (Tl.pos (decide_eq_true h) (Tl.bindO (any_is q w) (Tl.neg (by simp [any_no hw]) Tl.const)))
theorem leave_ok {m f : Int} {q : List S50} {w : Int} (hb : q.length < 8796093022000) (h : Rt m f q) (hw : ∃ x ∈ q, x.f0 = w) : Tl (fun k => sema_Leave.f k m f q w) (m, (srv f (q.filter fun x => !(x.f0 == w))).1, (srv f (q.filter fun x => !(x.f0 == w))).2.1, (srv f (q.filter fun x => !(x.f0 == w))).2.2, 0) := by
  unfold sema_Leave.f
  refine Tl.bind (right m f q (by omega)) (Tl.pos (decide_eq_true h) (Tl.bindO (any_is q w) (Tl.pos (any_yes hw) (Tl.bindO (clone q (by omega)) ?_))))
  refine Tl.bindO (v := q.filter fun x => !(x.f0 == w)) rfl ?_
  have h1 := h.1
  have h2 := h.2.1
  have hl := List.length_filter_le (fun x : S50 => !(x.f0 == w)) q
  exact Tl.bind (served m f _ (fun a ha => (h.2.2.1.1 a (List.mem_filter.1 ha).1).2.1) (by omega) (by omega) (by omega)) Tl.const
theorem leave_rt {m f : Int} {q : List S50} {w : Int} (h : Rt m f q) : Rt m (srv f (q.filter fun x => !(x.f0 == w))).1 (srv f (q.filter fun x => !(x.f0 == w))).2.1 := srv_rt h.1 h.2.1 (h.2.2.1.sub List.filter_sublist)

theorem new_ok {m f : Int} (h : Rt m f []) : Tl (fun k => sema_New.f k m f) (m, f, [], 0) := by
  unfold sema_New.f
  exact Tl.bind (right m f [] (by simp)) (Tl.pos (decide_eq_true h) Tl.const)
theorem awake : Tl (fun k => handshakerlaw18_awake.f k) true := Tl.of_mono handshakerlaw18_awake.mono 40 (by decide +kernel)
theorem awake' : Tl (fun k => (handshakerlaw18_awake.f k).bind fun t => some t) true := Tl.bind awake Tl.const
end core
section list
open Go.RowKit Go.Proofs.Ythbcajkphkdnmaa.PSemaTells Go.Proofs.YthbcajkphkdnmaaW.PrintWords Go.Proofs.YthbcajkphkdnmaaW.PrintLast Go.Proofs.YthbcajkphkdnmaaW.PrintMore Go.Proofs.Ythbcajkphkdnmaa.Ev
set_option linter.unusedVariables false
set_option linter.unusedSimpArgs false
def toRef (o : S50) : S61 := ⟨o.f0, o.f1⟩
theorem refs_loop (p : List S50) (hb : p.length < 8796093022000) : ∀ n i : Nat, p.length - i = n → i ≤ p.length → ∀ out, out = (p.take i).map toRef →
    Tl (fun k => handshakerlaw18_Refs.l0 k out p (p.length : Int) (i : Int)) (p.map toRef) := by
  intro n
  induction n with
  | zero =>
    intro i hn hi out h1
    have : i = p.length := by omega
    subst this
    rw [List.take_length] at h1
    refine Tl.succ ?_
    simp only [handshakerlaw18_Refs.l0]
    refine Tl.neg (by omega) ?_
    rw [h1]
    exact Tl.const
  | succ n ih =>
    intro i hn hi out h1
    have hlt : i < p.length := by omega
    refine Tl.succ ?_
    simp only [handshakerlaw18_Refs.l0]
    refine Tl.pos (by omega) (Tl.pos (by omega) (Tl.pos (by omega) (Tl.pos (by rw [h1]; simp; omega) ?_)))
    rw [rdT p i hlt, w64 (by omega) (by omega)]
    refine ih (i + 1) (by omega) (by omega) _ ?_
    rw [List.take_succ_eq_append_getElem hlt, List.map_append, h1]; rfl
theorem refs (p : List S50) (hb : p.length < 8796093022000) : Tl (fun k => handshakerlaw18_Refs.f k p) (p.map toRef) := by
  unfold handshakerlaw18_Refs.f
  exact refs_loop p hb _ 0 rfl (Nat.zero_le _) _ (by simp)
theorem ref (m f : Int) (q : List S50) (hb : q.length < 8796093022000) : Tl (fun k => handshakerlaw18_Ref.f k m f q) (m, f, q.map toRef) := by
  unfold handshakerlaw18_Ref.f
  exact Tl.bind (refs q hb) Tl.const
theorem list_loop (a : List S61) (hb : a.length < 9223372036854775807) : ∀ n i : Nat, a.length - i = n → i ≤ a.length →
    Tl (fun k => handshakerref18_List.l0 k a a (i : Int)) true := by
  intro n
  induction n with
  | zero =>
    intro i hn hi
    refine Tl.succ ?_
    simp only [handshakerref18_List.l0]
    exact Tl.neg (by omega) Tl.const
  | succ n ih =>
    intro i hn hi
    refine Tl.succ ?_
    simp only [handshakerref18_List.l0]
    refine Tl.pos (by omega) (Tl.pos (by omega) (Tl.pos (by omega) (Tl.neg (by simp) ?_)))
    rw [w64 (by omega) (by omega)]
    exact ih (i + 1) (by omega) (by omega)
theorem list_same (a : List S61) (hb : a.length < 9223372036854775807) : Tl (fun k => handshakerref18_List.f k a a) true := by
  unfold handshakerref18_List.f
  exact Tl.pos rfl (list_loop a hb _ 0 rfl (Nat.zero_le _))
end list
section same
open Go.RowKit Go.Proofs.Ythbcajkphkdnmaa.PSemaTells Go.Proofs.YthbcajkphkdnmaaW.PrintWords Go.Proofs.YthbcajkphkdnmaaW.PrintLast Go.Proofs.YthbcajkphkdnmaaW.PrintMore Go.Proofs.Ythbcajkphkdnmaa.Ev
set_option linter.unusedVariables false
set_option linter.unusedSimpArgs false
theorem same_ref (m f : Int) (q : List S61) (hb : q.length < 9223372036854775807) : Tl (fun k => handshakerref18_Same.f k m f q m f q) true := by
  unfold handshakerref18_Same.f
  refine Tl.bind (list_same q hb) (Tl.pos rfl (Tl.pos rfl (Tl.const.cast ?_)))
  simp
/-- Two equal semaphores, as the law compares them, and what it ends with. -/
theorem same_awake (m f : Int) (q : List S50) (hb : q.length < 8796093022000) : Tl (fun k => (handshakerlaw18_Ref.f k m f q).bind fun a => (handshakerlaw18_Ref.f k m f q).bind fun b => (handshakerref18_Same.f k a.1 a.2.1 a.2.2 b.1 b.2.1 b.2.2).bind fun t => if t = true then ((handshakerlaw18_awake.f k).bind fun s => (some s)) else none) true :=
  Tl.bind (ref m f q hb) (Tl.bind (ref m f q hb) (Tl.bind (same_ref m f (q.map toRef) (by simp; omega)) (Tl.pos rfl awake')))
end same
section tells
open Go.RowKit Go.Proofs.Ythbcajkphkdnmaa.PSemaTells Go.Proofs.YthbcajkphkdnmaaW.PrintWords Go.Proofs.YthbcajkphkdnmaaW.PrintLast Go.Proofs.YthbcajkphkdnmaaW.PrintMore Go.Proofs.Ythbcajkphkdnmaa.Ev
set_option linter.unusedVariables false
set_option linter.unusedSimpArgs false
theorem rdR (q : List S50) (i : Nat) (hi : i < q.length) : rd_T61 (q.map toRef) (i : Int) = toRef q[i] := by unfold rd_T61; simp [hi]
theorem r_who (w : Int) : handshakerref03_Who.f w = some (decide (1 ≤ w ∧ w ≤ 8)) := by
  unfold handshakerref03_Who.f
  by_cases h : w > 0
  · rw [if_pos h]; congr 1; apply decide_eq_decide.mpr; exact ⟨fun x => ⟨by omega, by omega⟩, fun x => by omega⟩
  · rw [if_neg h]; congr 1; symm; apply decide_eq_false; intro x; exact h (by omega)
/-- Where somebody's is; -1: nowhere. -/
def fnd (q : List S50) (w : Int) : Int := Go.Proofs.YthbcajkphkdnmaaG.idxBy (fun x => x.f0 == w) q
theorem fnd_none {q : List S50} {w : Int} (h : ∀ x ∈ q, x.f0 ≠ w) : fnd q w = -1 :=
  Go.Proofs.YthbcajkphkdnmaaG.idxBy_none (fun j x hj => by simpa using h x (List.mem_of_getElem? hj))
theorem fnd_at {q : List S50} {w : Int} (i : Nat) (hi : i < q.length) (hw : q[i].f0 = w) (h : ∀ x ∈ q.take i, x.f0 ≠ w) : fnd q w = (i : Int) := by
  have := (idx_first hi).2 (fun x hx => by rw [hw]; exact h x hx)
  unfold fnd
  rw [hw] at this
  exact this
theorem take_more {q : List S50} {w : Int} {i : Nat} (hi : i < q.length) (h : ∀ x ∈ q.take i, x.f0 ≠ w) (hw : q[i].f0 ≠ w) : ∀ x ∈ q.take (i + 1), x.f0 ≠ w := by
  intro x hx
  rw [List.take_succ_eq_append_getElem hi] at hx
  rcases List.mem_append.1 hx with hx | hx
  · exact h x hx
  · rw [List.mem_singleton.1 hx]; exact hw
theorem r_find_loop (q : List S50) (w : Int) (hb : q.length < 8796093022000) : ∀ n i : Nat, q.length - i = n → i ≤ q.length → (∀ x ∈ q.take i, x.f0 ≠ w) →
    Tl (fun k => handshakerref18_find.l0 k (q.map toRef) w (i : Int)) (fnd q w) := by
  intro n
  induction n with
  | zero =>
    intro i hn hi hm
    have : i = q.length := by omega
    subst this
    rw [List.take_length] at hm
    refine Tl.succ ?_
    simp only [handshakerref18_find.l0, List.length_map]
    refine Tl.neg (by omega) ?_
    rw [fnd_none hm]
    exact Tl.const
  | succ n ih =>
    intro i hn hi hm
    have hlt : i < q.length := by omega
    refine Tl.succ ?_
    simp only [handshakerref18_find.l0, List.length_map]
    refine Tl.pos (by omega) (Tl.pos (by omega) ?_)
    rw [rdR q i hlt]
    refine Tl.ite (fun e => ?_) (fun e => ?_)
    · rw [fnd_at i hlt e hm]
      exact Tl.const
    · rw [w64 (by omega) (by omega)]
      exact ih (i + 1) (by omega) (by omega) (take_more hlt hm e)
theorem r_find (q : List S50) (w : Int) (hb : q.length < 8796093022000) : Tl (fun k => handshakerref18_find.f k (q.map toRef) w) (fnd q w) := by
  unfold handshakerref18_find.f
  exact r_find_loop q w hb _ 0 rfl (Nat.zero_le _) (by simp)
theorem fnd_le {q : List S50} {i : Nat} (hi : i < q.length) : fnd q q[i].f0 ≤ (i : Int) ∧ (fnd q q[i].f0 < (i : Int) → ∃ x ∈ q.take i, x.f0 = q[i].f0) ∧ ((∃ x ∈ q.take i, x.f0 = q[i].f0) → fnd q q[i].f0 < (i : Int)) := by
  have h1 : fnd q q[i].f0 ≠ -1 := by
    intro e
    have := Go.Proofs.YthbcajkphkdnmaaG.filter_none (p := fun x : S50 => x.f0 == q[i].f0) e
    rw [List.filter_eq_self] at this
    have := this q[i] (List.getElem_mem hi)
    simp at this
  obtain ⟨k, y, hk, hy, hp, hl⟩ := Go.Proofs.YthbcajkphkdnmaaG.idxBy_found (p := fun x : S50 => x.f0 == q[i].f0) h1
  have hk2 : fnd q q[i].f0 = (k : Int) := hk
  have hyl := (List.getElem?_eq_some_iff.1 hy).1
  have hki : k ≤ i := by
    refine Nat.le_of_not_lt (fun h => ?_)
    have := hl i q[i] h (List.getElem?_eq_getElem hi)
    simp at this
  refine ⟨by omega, fun h => ⟨y, ?_, by simpa using hp⟩, fun ⟨x, hx, e⟩ => ?_⟩
  · exact List.mem_iff_getElem.2 ⟨k, by simp; omega, by simpa using (List.getElem?_eq_some_iff.1 hy).2⟩
  · obtain ⟨j, hj, ej⟩ := List.getElem_of_mem hx
    have hj2 : j < i := by simp at hj; omega
    rw [hk2]
    refine Int.ofNat_lt.2 (Nat.lt_of_le_of_lt ?_ hj2)
    refine Nat.le_of_not_lt (fun h => ?_)
    have hxj : q[j] = x := by rw [← ej]; simp
    have := hl j q[j] h (List.getElem?_eq_getElem (by omega))
    rw [hxj] at this
    simp [e] at this
theorem r_right_loop (m f : Int) (q : List S50) (hm : 1 ≤ m ∧ m ≤ 100) (hf : 0 ≤ f ∧ f ≤ m) (hb : q.length < 8796093022000) : ∀ n i : Nat, q.length - i = n → i ≤ q.length → Qu m (q.take i) →
    Tl (fun k => handshakerref18_Right.l0 k (i : Int) m f (q.map toRef)) (decide (Rt m f q)) := by
  intro n
  induction n with
  | zero =>
    intro i hn hi hq
    have : i = q.length := by omega
    subst this
    rw [List.take_length] at hq
    refine Tl.succ ?_
    simp only [handshakerref18_Right.l0, List.length_map]
    refine Tl.neg (by omega) ?_
    cases q with
    | nil =>
      refine Tl.neg (by simp) (Tl.const.cast ?_)
      symm; exact decide_eq_true ⟨hm, hf, hq, trivial⟩
    | cons a q =>
      refine Tl.pos (by simp only [List.length_cons]; omega) (Tl.pos (by simp only [List.length_cons]; omega) (Tl.const.cast ?_))
      have e : rd_T61 ((a :: q).map toRef) 0 = toRef a := rfl
      rw [e]
      exact decide_eq_decide.2 ⟨fun h => ⟨hm, hf, hq, h⟩, fun h => h.2.2.2⟩
  | succ n ih =>
    intro i hn hi hq
    have hlt : i < q.length := by omega
    have no : ∀ {F : Nat → Option Bool}, ¬ Mays m q[i] ∨ (∃ x ∈ q.take i, x.f0 = q[i].f0) → Tl (fun _ => some false) (decide (Rt m f q)) := by
      intro _ h
      refine Tl.const.cast ?_
      symm; apply decide_eq_false
      intro hr
      rcases h with h | ⟨x, hx, e⟩
      · exact h (hr.2.2.1.1 _ (List.getElem_mem hlt))
      · have e3 : q = q.take i ++ q[i] :: q.drop (i + 1) := by simp
        have hp := hr.2.2.1.2
        rw [e3, List.pairwise_append] at hp
        exact hp.2.2 x hx q[i] (List.mem_cons_self ..) e
    refine Tl.succ ?_
    simp only [handshakerref18_Right.l0, List.length_map]
    refine Tl.pos (by omega) (Tl.pos (by omega) ?_)
    rw [rdR q i hlt]
    refine Tl.bindO (r_who _) (Tl.ite (fun e1 => Tl.ite (fun e2 => ?_) (fun e2 => Tl.ite (fun e3 => ?_) (fun e3 => ?_))) (fun e1 => ?_))
    · exact no (F := fun _ => none) (.inl (fun h => by have := h.2.1; have e2 : q[i].f1 < 1 := e2; omega))
    · exact no (F := fun _ => none) (.inl (fun h => by have := h.2.2; have e3 : q[i].f1 > m := e3; omega))
    · have hmay : Mays m q[i] := ⟨of_decide_eq_true e1, by have e2 : ¬ q[i].f1 < 1 := e2; have e3 : ¬ q[i].f1 > m := e3; omega⟩
      have hi1 : wrap64 ((i : Int) + 1) = (i : Int) + 1 := w64 (by omega) (by omega)
      have hlq : q.length - (i + 1) = n := by omega
      have hfl := fnd_le hlt
      refine Tl.bind (r_find q q[i].f0 hb) (Tl.ite (fun e4 => ?_) (fun e4 => ?_))
      · exact no (F := fun _ => none) (.inr (hfl.2.1 e4))
      · rw [hi1]
        refine ih (i + 1) hlq hlt ?_
        rw [List.take_succ_eq_append_getElem hlt]
        exact hq.add hmay (fun x hx e => e4 (hfl.2.2 ⟨x, hx, e⟩))
    · exact no (F := fun _ => none) (.inl (fun h => e1 (decide_eq_true h.1)))
theorem r_right (m f : Int) (q : List S50) (hb : q.length < 8796093022000) : Tl (fun k => handshakerref18_Right.f k m f (q.map toRef)) (decide (Rt m f q)) := by
  have bad : ¬ ((1 ≤ m ∧ m ≤ 100) ∧ (0 ≤ f ∧ f ≤ m)) → Tl (fun k => handshakerref18_Right.j0 k true m f (q.map toRef)) (decide (Rt m f q)) := by
    intro h
    rw [decide_eq_false (fun x => h ⟨x.1, x.2.1⟩)]
    refine Tl.succ ?_
    simp only [handshakerref18_Right.j0]
    exact Tl.pos trivial Tl.const
  unfold handshakerref18_Right.f
  refine Tl.ite (fun e => bad (by omega)) (fun e => Tl.ite (fun e2 => bad (by omega)) (fun e2 => Tl.ite (fun e3 => bad (by omega)) (fun e3 => ?_)))
  by_cases e4 : f > m
  · rw [decide_eq_true e4]
    exact bad (by omega)
  · rw [decide_eq_false e4]
    refine Tl.succ ?_
    simp only [handshakerref18_Right.j0]
    exact Tl.neg (by simp) (r_right_loop m f q (by omega) (by omega) hb _ 0 rfl (Nat.zero_le _) ⟨by simp, by simp⟩)

theorem take_eq (m f : Int) (q : List S50) (w n : Int) (hb : q.length ≤ 30) : ∃ f' q' g e, Tl (fun k => sema_Take.f k m f q w n) (m, f', q', g, e) ∧ Tl (fun k => handshakerref18_Take.f k m f (q.map toRef) w n) (m, f', q'.map toRef, g, e) ∧ q'.length ≤ 100 := by
  have bad : Tl (fun k => handshakerref18_Take.j0 k w n true m f (q.map toRef)) ((m, f, q.map toRef, false, 1) : Int × Int × List S61 × Bool × Int) := by
    refine Tl.succ ?_
    simp only [handshakerref18_Take.j0]
    exact Tl.pos trivial Tl.const
  have go : Rt m f q → Mays m ⟨w, n⟩ → ∀ v, Tl (fun k => handshakerref18_Take.j0 k w n false m f (q.map toRef)) v → Tl (fun k => handshakerref18_Take.f k m f (q.map toRef) w n) v := by
    intro h hm v hv
    unfold handshakerref18_Take.f
    have h2 := hm.2
    simp only at h2
    refine Tl.bind (r_right m f q (by omega)) (Tl.bindO (r_who w) (Tl.pos (decide_eq_true h) (Tl.pos (decide_eq_true hm.1) (Tl.neg (by omega) ?_))))
    rw [decide_eq_false (by omega)]
    exact hv
  rcases take_cases m f q w n with h | ⟨h, hm, hw⟩
  · refine ⟨_, _, _, _, take_bad (by omega) h, ?_, by omega⟩
    unfold handshakerref18_Take.f
    refine Tl.bind (r_right m f q (by omega)) (Tl.bindO (r_who w) (Tl.ite (fun e => Tl.ite (fun e2 => Tl.ite (fun e3 => bad) (fun e3 => ?_)) (fun e2 => bad)) (fun e => bad)))
    have : n > m := by
      refine Int.lt_of_not_ge (fun h4 => h ⟨of_decide_eq_true e, of_decide_eq_true e2, by simp only; omega⟩)
    rw [decide_eq_true this]
    exact bad
  · have h2 := hm.2
    simp only at h2
    have hm1 := h.1
    have hf1 := h.2.1
    rcases hw with hw | ⟨rfl, hn⟩ | ⟨hw, hn⟩
    · refine ⟨_, _, _, _, take_wait (by omega) h hm hw, go h hm _ (Tl.succ ?_), by omega⟩
      simp only [handshakerref18_Take.j0]
      have hp : fnd q w ≥ 0 := by
        obtain ⟨x, hx, e⟩ := hw
        have h1 : fnd q w ≠ -1 := by
          intro e2
          have := Go.Proofs.YthbcajkphkdnmaaG.filter_none (p := fun x : S50 => x.f0 == w) e2
          rw [List.filter_eq_self] at this
          have := this x hx
          simp [e] at this
        obtain ⟨k, _, hk, _⟩ := Go.Proofs.YthbcajkphkdnmaaG.idxBy_found (p := fun x : S50 => x.f0 == w) h1
        have hk2 : fnd q w = (k : Int) := hk
        omega
      exact Tl.neg (by simp) (Tl.bind (r_find q w (by omega)) (Tl.pos hp Tl.const))
    · refine ⟨_, _, _, _, take_got h hm hn, go h hm _ (Tl.succ ?_), by simp⟩
      simp only [handshakerref18_Take.j0]
      refine Tl.neg (by simp) (Tl.bind (r_find [] w (by simp)) (Tl.neg (by rw [fnd_none (by simp)]; decide) (Tl.pos (by simp) ?_)))
      rw [w64 (n := f - n) (by omega) (by omega)]
      exact Tl.pos (by omega) Tl.const
    · refine ⟨_, _, _, _, take_queue (by omega) h hm hw hn, go h hm _ (Tl.succ ?_), by simp; omega⟩
      simp only [handshakerref18_Take.j0]
      have hnone : ¬ fnd q w ≥ 0 := by rw [fnd_none hw]; decide
      have more : Tl (fun k => if ([] : List S61).length + (q.map toRef).length < 8796093022208 then ((some (([] : List S61) ++ q.map toRef : List S61)).bind fun y => (if y.length < 8796093022208 then (some (m, f, (y ++ [(⟨w, n⟩ : S61)]), false, 0)) else (none))) else (none)) ((m, f, (q ++ [(⟨w, n⟩ : S50)]).map toRef, false, 0) : Int × Int × List S61 × Bool × Int) := by
        refine Tl.pos (by simp; omega) (Tl.bind0 (Tl.pos (by simp; omega) (Tl.const.cast ?_)))
        simp [toRef]
      refine Tl.neg (by simp) (Tl.bind (r_find q w (by omega)) (Tl.neg hnone (Tl.ite (fun e => ?_) (fun e => more))))
      have hq : q = [] := by
        cases q with
        | nil => rfl
        | cons a q => simp only [List.map_cons, List.length_cons] at e; omega
      have := hn hq
      rw [w64 (n := f - n) (by omega) (by omega)]
      exact Tl.neg (by omega) more

theorem r_serve (m : Int) (q : List S50) : ∀ (f : Int) (acc : List S61), (∀ a ∈ q, 1 ≤ a.f1) → 0 ≤ f → f ≤ 1000 → acc.length + q.length ≤ 1000 →
    Tl (fun k => handshakerref18_serve.f k m f (q.map toRef) acc) (m, (srv f q).1, (srv f q).2.1.map toRef, acc ++ (srv f q).2.2.map toRef) := by
  induction q with
  | nil =>
    intro f acc _ _ _ _
    refine Tl.succ ?_
    simp only [handshakerref18_serve.f]
    refine Tl.pos (by simp) (Tl.const.cast ?_)
    simp [srv]
  | cons a q ih =>
    intro f acc hq h0 h1 hb
    have ha := hq a (by simp)
    simp only [List.length_cons] at hb
    have e : rd_T61 ((a :: q).map toRef) 0 = toRef a := rfl
    refine Tl.succ ?_
    simp only [handshakerref18_serve.f]
    rw [e]
    refine Tl.neg (by simp only [List.map_cons, List.length_cons]; omega) (Tl.pos (by simp only [List.map_cons, List.length_cons]; omega) (Tl.ite (fun h => ?_) (fun h => ?_)))
    · have h : a.f1 > f := h
      refine Tl.const.cast ?_
      conv => rhs; unfold srv
      rw [if_neg (by omega)]
      simp
    · have h : ¬ a.f1 > f := h
      refine Tl.pos (by simp only [List.map_cons, List.length_cons]; omega) (Tl.pos (by omega) ?_)
      have hw : wrap64 (f - (toRef a).f1) = f - a.f1 := w64 (by have : (toRef a).f1 = a.f1 := rfl; omega) (by have : (toRef a).f1 = a.f1 := rfl; omega)
      rw [hw]
      refine (Tl.bind (ih (f - a.f1) (acc ++ [toRef a]) (fun x hx => hq x (by simp [hx])) (by omega) (by omega) (by simp; omega)) Tl.const).cast ?_
      conv => rhs; unfold srv
      rw [if_pos (by omega)]
      simp
theorem give_eq (m f : Int) (q : List S50) (n : Int) (hb : q.length ≤ 30) : ∃ f' q' l e, Tl (fun k => sema_Give.f k m f q n) (m, f', q', l, e) ∧ Tl (fun k => handshakerref18_Give.f k m f (q.map toRef) n) (m, f', q'.map toRef, l.map toRef, e) ∧ q'.length ≤ 100 ∧ l.length ≤ 100 := by
  have bad : Tl (fun k => handshakerref18_Give.j0 k n true m f (q.map toRef)) ((m, f, q.map toRef, [], 1) : Int × Int × List S61 × List S61 × Int) := by
    refine Tl.succ ?_
    simp only [handshakerref18_Give.j0]
    exact Tl.pos trivial Tl.const
  by_cases h : Rt m f q ∧ 1 ≤ n
  · obtain ⟨h, hn⟩ := h
    have hm1 := h.1
    have hf1 := h.2.1
    have go : ∀ v, Tl (fun k => handshakerref18_Give.j0 k n false m f (q.map toRef)) v → Tl (fun k => handshakerref18_Give.f k m f (q.map toRef) n) v := by
      intro v hv
      unfold handshakerref18_Give.f
      refine Tl.bind (r_right m f q (by omega)) (Tl.pos (decide_eq_true h) ?_)
      rw [decide_eq_false (by omega)]
      exact hv
    by_cases hf : n ≤ m - f
    · have hl := srv_len q (f + n)
      refine ⟨_, _, _, _, give_ok (by omega) h hn hf, go _ (Tl.succ ?_), by omega, by omega⟩
      simp only [handshakerref18_Give.j0]
      rw [w64 (n := f + n) (by omega) (by omega)]
      refine Tl.neg (by simp) (Tl.neg (by omega) (Tl.neg (by omega) ?_))
      exact Tl.bind (r_serve m q (f + n) [] (fun a ha => (h.2.2.1.1 a ha).2.1) (by omega) (by omega) (by simp; omega)) (Tl.const.cast (by simp))
    · refine ⟨_, _, _, _, give_full (by omega) h hn (by omega), go _ (Tl.succ ?_), by omega, by simp⟩
      simp only [handshakerref18_Give.j0]
      refine Tl.neg (by simp) (Tl.ite (fun e => Tl.const) (fun e => ?_))
      rw [w64 (n := f + n) (by omega) (by omega)]
      exact Tl.pos (by omega) Tl.const
  · refine ⟨_, _, _, _, give_bad (by omega) h, ?_, by omega, by simp⟩
    unfold handshakerref18_Give.f
    refine Tl.bind (r_right m f q (by omega)) (Tl.ite (fun e => ?_) (fun e => bad))
    have : n < 1 := Int.lt_of_not_ge (fun x => h ⟨of_decide_eq_true e, x⟩)
    rw [decide_eq_true this]
    exact bad
theorem cut_out {m : Int} {q : List S50} (h : Qu m q) {k : Nat} (hk : k < q.length) : (q.filter fun x => !(x.f0 == q[k].f0)) = q.take k ++ q.drop (k + 1) := by
  have e : q = q.take k ++ q[k] :: q.drop (k + 1) := by simp
  have hp := h.2
  rw [e, List.pairwise_append] at hp
  have h2 := List.pairwise_cons.1 hp.2.1
  conv => lhs; rhs; rw [e]
  rw [List.filter_append, List.filter_cons]
  have f1 : (q.take k).filter (fun x => !(x.f0 == q[k].f0)) = q.take k := by
    rw [List.filter_eq_self]
    intro x hx
    simpa using hp.2.2 x hx q[k] (List.mem_cons_self ..)
  have f2 : (q.drop (k + 1)).filter (fun x => !(x.f0 == q[k].f0)) = q.drop (k + 1) := by
    rw [List.filter_eq_self]
    intro x hx
    have := h2.1 x hx
    simpa using fun e => this e.symm
  rw [f1, f2]
  simp
theorem leave_eq (m f : Int) (q : List S50) (w : Int) (hb : q.length ≤ 30) : ∃ f' q' l e, Tl (fun k => sema_Leave.f k m f q w) (m, f', q', l, e) ∧ Tl (fun k => handshakerref18_Leave.f k m f (q.map toRef) w) (m, f', q'.map toRef, l.map toRef, e) ∧ q'.length ≤ 100 ∧ l.length ≤ 100 := by
  by_cases h : Rt m f q
  · have hm1 := h.1
    have hf1 := h.2.1
    rcases is_cases q w with hw | hw
    · have h1 : fnd q w ≠ -1 := by
        intro e2
        obtain ⟨x, hx, e⟩ := hw
        have := Go.Proofs.YthbcajkphkdnmaaG.filter_none (p := fun x : S50 => x.f0 == w) e2
        rw [List.filter_eq_self] at this
        have := this x hx
        simp [e] at this
      obtain ⟨k, y, hk, hy, hp, _⟩ := Go.Proofs.YthbcajkphkdnmaaG.idxBy_found (p := fun x : S50 => x.f0 == w) h1
      have hk2 : fnd q w = (k : Int) := hk
      obtain ⟨hkl, rfl⟩ := List.getElem?_eq_some_iff.1 hy
      have hwk : q[k].f0 = w := by simpa using hp
      have hl := srv_len (q.filter fun x => !(x.f0 == w)) f
      have hle := List.length_filter_le (fun x : S50 => !(x.f0 == w)) q
      have hc := cut_out h.2.2.1 hkl
      rw [hwk] at hc
      refine ⟨_, _, _, _, leave_ok (by omega) h hw, ?_, by omega, by omega⟩
      unfold handshakerref18_Leave.f
      refine Tl.bind (r_right m f q (by omega)) (Tl.pos (decide_eq_true h) (Tl.bind (r_find q w (by omega)) ?_))
      rw [hk2, w64 (n := (k : Int) + 1) (by omega) (by omega)]
      simp only [List.length_map, Int.toNat_natCast]
      refine Tl.neg (by omega) (Tl.pos (by omega) (Tl.pos (by omega) (Tl.bind0 (Tl.pos (by simp; omega) (Tl.bind0 (Tl.pos (by omega) (Tl.pos (by omega) (Tl.bind0 (Tl.pos (by simp; omega) ?_)))))))))
      have e1 : ((k : Int) + 1).toNat = k + 1 := by omega
      have e2 : ([] ++ (q.map toRef).take k ++ (q.map toRef).drop (k + 1)) = (q.filter fun x => !(x.f0 == w)).map toRef := by rw [hc]; simp
      rw [e1, e2]
      exact Tl.bind (r_serve m _ f [] (fun a ha => (h.2.2.1.1 a (List.mem_filter.1 ha).1).2.1) (by omega) (by omega) (by simp; omega)) (Tl.const.cast (by simp))
    · refine ⟨_, _, _, _, leave_none (by omega) h hw, ?_, by omega, by simp⟩
      unfold handshakerref18_Leave.f
      refine Tl.bind (r_right m f q (by omega)) (Tl.pos (decide_eq_true h) (Tl.bind (r_find q w (by omega)) (Tl.pos ?_ Tl.const)))
      rw [fnd_none hw]; decide
  · refine ⟨_, _, _, _, leave_bad (by omega) h, ?_, by omega, by simp⟩
    unfold handshakerref18_Leave.f
    exact Tl.bind (r_right m f q (by omega)) (Tl.neg (by simp [h]) Tl.const)
theorem new_bad {m f : Int} (h : ¬ Rt m f []) : Tl (fun k => sema_New.f k m f) (0, 0, [], 1) := by
  unfold sema_New.f
  exact Tl.bind (right m f [] (by simp)) (Tl.neg (by simp [h]) Tl.const)
theorem SemaTells (z0_0 : Int) (z0_1 : Int) (z0_2 : List (S50)) (z1 : Int) (z2 : Int) (q0_0 : (Lit.int .i64 z0_0).wf = true) (q0_1 : (Lit.int .i64 z0_1).wf = true) (q0_2 : z0_2.length ≤ maxLen ∧ ∀ x_ ∈ z0_2, ((Lit.int .i64 x_.f0).wf = true) ∧ ((Lit.int .i64 x_.f1).wf = true)) (q1 : (Lit.int .i64 z1).wf = true) (q2 : (Lit.int .i64 z2).wf = true) : ∃ k, handshakerlaw18_SemaTells.f k z0_0 z0_1 z0_2 z1 z2 = some true := by
  refine Tl.some ?_
  unfold handshakerlaw18_SemaTells.f
  refine Tl.ite (fun e => awake') (fun e => ?_)
  have hb : z0_2.length ≤ 30 := by omega
  obtain ⟨a1, a2, a3, a4, a5, a6, a7⟩ := take_eq z0_0 z0_1 z0_2 z1 z2 hb
  obtain ⟨b1, b2, b3, b4, b5, b6, b7, b8⟩ := give_eq z0_0 z0_1 z0_2 z2 hb
  obtain ⟨c1, c2, c3, c4, c5, c6, c7, c8⟩ := leave_eq z0_0 z0_1 z0_2 z1 hb
  have last : Tl (fun k => handshakerlaw18_SemaTells.j0 k a3 a4 a3 a4 b3 b4 (b3.map toRef) b4 c3 c4 (c3.map toRef) c4 false z0_0 z0_1 z0_2 z0_0 z0_1 (z0_2.map toRef) z0_0 a1 a2 z0_0 a1 (a2.map toRef) z0_0 b1 b2 z0_0 b1 (b2.map toRef) z0_0 c1 c2 z0_0 c1 (c2.map toRef)) true := by
    refine Tl.succ ?_
    simp only [handshakerlaw18_SemaTells.j0]
    refine Tl.neg (by simp) (Tl.bind (right z0_0 z0_1 z0_2 (by omega)) (Tl.bind (r_right z0_0 z0_1 z0_2 (by omega)) (Tl.pos (by simp) ?_)))
    refine Tl.bind (ref z0_0 a1 a2 (by omega)) (Tl.bind (same_ref z0_0 a1 (a2.map toRef) (by simp; omega)) (Tl.pos rfl (Tl.pos (by simp) (Tl.pos trivial ?_))))
    refine Tl.bind (ref z0_0 b1 b2 (by omega)) (Tl.bind (same_ref z0_0 b1 (b2.map toRef) (by simp; omega)) (Tl.pos rfl (Tl.bind (refs b3 (by omega)) (Tl.bind (list_same (b3.map toRef) (by simp; omega)) (Tl.pos rfl (Tl.pos trivial ?_))))))
    exact Tl.bind (ref z0_0 c1 c2 (by omega)) (Tl.bind (same_ref z0_0 c1 (c2.map toRef) (by simp; omega)) (Tl.pos rfl (Tl.bind (refs c3 (by omega)) (Tl.bind (list_same (c3.map toRef) (by simp; omega)) (Tl.pos rfl (Tl.pos trivial awake'))))))
  refine Tl.bind (ref z0_0 z0_1 z0_2 (by omega)) (Tl.bind a5 (Tl.bind a6 (Tl.bind b5 (Tl.bind b6 (Tl.bind c5 (Tl.bind c6 ?_))))))
  by_cases h : Rt z1 z2 []
  · exact Tl.bind (new_ok h) (Tl.bind (r_right z1 z2 [] (by simp)) (Tl.pos rfl (Tl.pos (decide_eq_true h) (Tl.pos rfl (Tl.pos rfl (Tl.pos rfl last))))))
  · exact Tl.bind (new_bad h) (Tl.bind (r_right z1 z2 [] (by simp)) (Tl.neg (by simp) (Tl.neg (by simp [h]) last)))
end tells
end Go.Proofs.Ythbcajkphkdnmaa.Pure
