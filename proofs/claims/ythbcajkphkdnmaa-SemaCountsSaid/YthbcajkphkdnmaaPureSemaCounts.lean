/- What the law SemaCounts computes is true: a plain law over what the printed functions tell; for every input. -/
import Derived.Test.YthbcajkphkdnmaaPSemaCountsx9
import Derived.Test.YthbcajkphkdnmaaEv
namespace Go.Proofs.Ythbcajkphkdnmaa.Pure
section core
open Go.RowKit Go.Proofs.Ythbcajkphkdnmaa.PSemaCounts Go.Proofs.YthbcajkphkdnmaaW.PrintWords Go.Proofs.YthbcajkphkdnmaaW.PrintLast Go.Proofs.YthbcajkphkdnmaaW.PrintMore Go.Proofs.Ythbcajkphkdnmaa.Ev
set_option linter.unusedVariables false
set_option linter.unusedSimpArgs false

theorem rdT (h : List S50) (i : Nat) (hi : i < h.length) : rd_T50 h (i : Int) = h[i] := by unfold rd_T50; simp [hi]
/-- May it be asked? -/
def Mays (m : Int) (a : S50) : Prop := (1 ≤ a.f0 ∧ a.f0 ≤ 8) ∧ (1 ≤ a.f1 ∧ a.f1 ≤ m)
instance (m : Int) (a : S50) : Decidable (Mays m a) := by unfold Mays; infer_instance
theorem may (m f : Int) (q : List S50) (a : S50) : sema_Sema_may.f m f q a.f0 a.f1 = some (decide (Mays m a)) := by
  unfold sema_Sema_may.f
  have no : ¬ Mays m a → some false = some (decide (Mays m a)) := fun h => by rw [decide_eq_false h]
  split
  · split
    · split
      · rename_i h1 h2 h3
        congr 1
        exact decide_eq_decide.mpr ⟨fun x => ⟨⟨h1, h2⟩, h3, x⟩, fun x => x.2.2⟩
      · rename_i h; exact no (fun x => h x.2.1)
    · rename_i h; exact no (fun x => h x.1.2)
  · rename_i h; exact no (fun x => h x.1.1)

/-- Asks, each of somebody else, which may be asked. -/
def Qu (m : Int) (q : List S50) : Prop := (∀ a ∈ q, Mays m a) ∧ q.Pairwise (fun a b => a.f0 ≠ b.f0)
/-- The first one can't be served. -/
def Hd (f : Int) : List S50 → Prop
  | [] => True
  | a :: _ => f < a.f1
/-- Is it a semaphore? -/
def Rt (m f : Int) (q : List S50) : Prop := (1 ≤ m ∧ m ≤ 100) ∧ (0 ≤ f ∧ f ≤ m) ∧ Qu m q ∧ Hd f q
instance (m : Int) (q : List S50) : Decidable (Qu m q) := by unfold Qu; infer_instance
instance (f : Int) (q : List S50) : Decidable (Hd f q) := by cases q <;> unfold Hd <;> infer_instance
instance (m f : Int) (q : List S50) : Decidable (Rt m f q) := by unfold Rt; infer_instance
theorem Qu.sub {m : Int} {p q : List S50} (h : Qu m p) (hs : q.Sublist p) : Qu m q := ⟨fun o ho => h.1 o (hs.subset ho), h.2.sublist hs⟩
theorem Qu.add {m : Int} {q : List S50} {a : S50} (h : Qu m q) (hm : Mays m a) (hn : ∀ x ∈ q, x.f0 ≠ a.f0) : Qu m (q ++ [a]) := by
  refine ⟨fun x hx => ?_, ?_⟩
  · rcases List.mem_append.1 hx with hx | hx
    · exact h.1 x hx
    · rw [List.mem_singleton.1 hx]; exact hm
  · rw [List.pairwise_append]
    refine ⟨h.2, by simp, ?_⟩
    intro x hx b hb
    rw [List.mem_singleton.1 hb]
    exact hn x hx
theorem Qu.last {m : Int} {q : List S50} {a : S50} (h : Qu m (q ++ [a])) : Mays m a ∧ ∀ x ∈ q, x.f0 ≠ a.f0 := by
  refine ⟨h.1 a (by simp), fun x hx => ?_⟩
  have := h.2
  rw [List.pairwise_append] at this
  exact this.2.2 x hx a (by simp)

theorem idx_is (q : List S50) (w : Int) : idx_sema_is_1.f q w = some (Go.Proofs.YthbcajkphkdnmaaG.idxBy (fun x => x.f0 == w) q) := rfl
theorem any_is (q : List S50) (w : Int) : any_sema_is_1.f q w = some (q.any fun x => x.f0 == w) := rfl
theorem idx_first {q : List S50} {i : Nat} (hi : i < q.length) : Go.Proofs.YthbcajkphkdnmaaG.idxBy (fun x => x.f0 == q[i].f0) q = (i : Int) ↔ ∀ x ∈ q.take i, x.f0 ≠ q[i].f0 := by
  constructor
  · intro h x hx e
    obtain ⟨j, hj, hx'⟩ := List.getElem_of_mem hx
    have hj2 : j < i := by simp at hj; omega
    obtain ⟨k, y, hk, hy, hp, hl⟩ := Go.Proofs.YthbcajkphkdnmaaG.idxBy_found (p := fun x : S50 => x.f0 == q[i].f0) (l := q) (by rw [h]; omega)
    have hki : k = i := by omega
    have := hl j q[j] (by omega) (List.getElem?_eq_getElem (by omega))
    have hxj : q[j] = x := by rw [← hx']; simp
    rw [hxj] at this
    simp at this
    exact this e
  · intro h
    refine Go.Proofs.YthbcajkphkdnmaaG.idxBy_some (x := q[i]) (List.getElem?_eq_getElem hi) (by simp) (fun j y hj hy => ?_)
    obtain ⟨hjl, e⟩ := List.getElem?_eq_some_iff.1 hy
    have : y ∈ q.take i := by
      rw [← e]
      exact List.mem_iff_getElem.2 ⟨j, by simp; omega, by simp⟩
    simpa using h y this
theorem right_loop (m f : Int) (q : List S50) (hm : 1 ≤ m ∧ m ≤ 100) (hf : 0 ≤ f ∧ f ≤ m) (hb : q.length < 9223372036854775807) : ∀ n i : Nat, q.length - i = n → i ≤ q.length → Qu m (q.take i) →
    Tl (fun k => sema_Right.l0 k q (q.length : Int) (i : Int) m f q) (decide (Rt m f q)) := by
  intro n
  induction n with
  | zero =>
    intro i hn hi h
    have : i = q.length := by omega
    subst this
    rw [List.take_length] at h
    refine Tl.succ ?_
    simp only [sema_Right.l0]
    refine Tl.neg (by omega) ?_
    cases q with
    | nil =>
      refine Tl.pos (by simp) (Tl.const.cast ?_)
      symm; exact decide_eq_true ⟨hm, hf, h, trivial⟩
    | cons a r =>
      refine Tl.neg (by simp; omega) (Tl.pos (by simp) (Tl.const.cast ?_))
      exact decide_eq_decide.mpr ⟨fun x => ⟨hm, hf, h, x⟩, fun x => x.2.2.2⟩
  | succ n ih =>
    intro i hn hi h
    have hlt : i < q.length := by omega
    have hnot : ¬ Qu m (q.take i ++ [q[i]]) → Tl (fun _ => some false) (decide (Rt m f q)) := by
      intro hx
      rw [decide_eq_false (fun hp : Rt m f q => hx (by rw [← List.take_succ_eq_append_getElem hlt]; exact hp.2.2.1.sub (List.take_sublist _ _)))]
      exact Tl.const
    refine Tl.succ ?_
    simp only [sema_Right.l0]
    refine Tl.pos (by omega) (Tl.pos (by omega) (Tl.pos (by omega) ?_))
    rw [rdT q i hlt]
    refine Tl.bindO (may m f q _) ?_
    refine Tl.ite (fun e => ?_) (fun e => hnot (fun x => e (decide_eq_true x.last.1)))
    refine Tl.bindO (idx_is q _) ?_
    refine Tl.ite (fun e2 => ?_) (fun e2 => hnot (fun x => e2 ((idx_first hlt).2 x.last.2)))
    rw [w64 (by omega) (by omega)]
    refine ih (i + 1) (by omega) (by omega) ?_
    rw [List.take_succ_eq_append_getElem hlt]
    exact h.add (of_decide_eq_true e) ((idx_first hlt).1 e2)
theorem right (m f : Int) (q : List S50) (hb : q.length < 9223372036854775807) : Tl (fun k => sema_Right.f k m f q) (decide (Rt m f q)) := by
  have bad : ¬ ((1 ≤ m ∧ m ≤ 100) ∧ (0 ≤ f ∧ f ≤ m)) → Tl (fun k => sema_Right.j0 k true m f q) (decide (Rt m f q)) := by
    intro h
    rw [decide_eq_false (fun x : Rt m f q => h ⟨x.1, x.2.1⟩)]
    refine Tl.succ ?_
    simp only [sema_Right.j0]
    exact Tl.pos trivial Tl.const
  unfold sema_Right.f
  refine Tl.ite (fun e => bad (fun x => by omega)) (fun e1 => Tl.ite (fun e => bad (fun x => by omega)) (fun e2 => Tl.ite (fun e => bad (fun x => by omega)) (fun e3 => ?_)))
  by_cases h : f > m
  · rw [decide_eq_true h]
    exact bad (fun x => by omega)
  · rw [decide_eq_false h]
    refine Tl.succ ?_
    simp only [sema_Right.j0]
    exact Tl.neg (by simp) (right_loop m f q (by omega) (by omega) hb _ 0 rfl (Nat.zero_le _) ⟨by simp, by simp⟩)

theorem clone (q : List S50) (hb : q.length < 8796093022208) : sema_Ask_26.f q = some q := by unfold sema_Ask_26.f; rw [if_pos hb]
theorem any_yes {q : List S50} {w : Int} (h : ∃ x ∈ q, x.f0 = w) : (q.any fun x => x.f0 == w) = true := by
  obtain ⟨x, hx, e⟩ := h
  exact List.any_eq_true.2 ⟨x, hx, by simpa using e⟩
theorem any_no {q : List S50} {w : Int} (h : ∀ x ∈ q, x.f0 ≠ w) : (q.any fun x => x.f0 == w) = false := by
  rw [List.any_eq_false]
  exact fun x hx => by simpa using h x hx
theorem is_cases (q : List S50) (w : Int) : (∃ x ∈ q, x.f0 = w) ∨ ∀ x ∈ q, x.f0 ≠ w := by
  by_cases h : ∃ x ∈ q, x.f0 = w
  · exact .inl h
  · exact .inr (fun x hx e => h ⟨x, hx, e⟩)

/-- As many as can be, in order: what is free then, who still waits, who is served. -/
def srv : Int → List S50 → Int × List S50 × List S50
  | f, [] => (f, [], [])
  | f, a :: q => if a.f1 ≤ f then ((srv (f - a.f1) q).1, (srv (f - a.f1) q).2.1, a :: (srv (f - a.f1) q).2.2) else (f, a :: q, [])
theorem srv_split (q : List S50) : ∀ f, (srv f q).2.2 ++ (srv f q).2.1 = q := by
  induction q with
  | nil => intro f; rfl
  | cons a q ih => intro f; unfold srv; split <;> simp [ih]
theorem srv_head (q : List S50) : ∀ f, Hd (srv f q).1 (srv f q).2.1 := by
  induction q with
  | nil => intro f; trivial
  | cons a q ih =>
    intro f
    unfold srv
    split
    · exact ih _
    · rename_i h
      show f < a.f1
      omega
def sum (q : List S50) : Int := (q.map (·.f1)).sum
theorem srv_free (q : List S50) : ∀ f, (srv f q).1 = f - sum (srv f q).2.2 := by
  induction q with
  | nil => intro f; simp [srv, sum]
  | cons a q ih =>
    intro f
    unfold srv
    split
    · show (srv (f - a.f1) q).1 = f - sum (a :: (srv (f - a.f1) q).2.2)
      rw [ih]; simp [sum]; omega
    · simp [sum]
theorem srv_bounds (q : List S50) : ∀ f, (∀ a ∈ q, 1 ≤ a.f1) → 0 ≤ f → 0 ≤ (srv f q).1 ∧ (srv f q).1 ≤ f := by
  induction q with
  | nil => intro f _ h; exact ⟨h, Int.le_refl _⟩
  | cons a q ih =>
    intro f hq hf
    unfold srv
    split
    · rename_i h
      have h1 := hq a (by simp)
      have := ih (f - a.f1) (fun x hx => hq x (by simp [hx])) (by omega)
      exact ⟨this.1, by show (srv (f - a.f1) q).1 ≤ f; omega⟩
    · exact ⟨hf, Int.le_refl _⟩
theorem srv_none {f : Int} {q : List S50} (h : Hd f q) : srv f q = (f, q, []) := by
  cases q with
  | nil => rfl
  | cons a q =>
    unfold srv
    have h : f < a.f1 := h
    rw [if_neg (by omega)]
theorem srv_rt {m f : Int} {q : List S50} (hm : 1 ≤ m ∧ m ≤ 100) (hf : 0 ≤ f ∧ f ≤ m) (hq : Qu m q) : Rt m (srv f q).1 (srv f q).2.1 := by
  have h := srv_bounds q f (fun a ha => (hq.1 a ha).2.1) hf.1
  refine ⟨hm, by omega, hq.sub ?_, srv_head q f⟩
  conv => rhs; rw [← srv_split q f]
  exact List.sublist_append_right _ _
theorem srv_len (q : List S50) (f : Int) : (srv f q).2.2.length + (srv f q).2.1.length = q.length := by
  rw [← List.length_append, srv_split]
theorem served_loop (m : Int) (q : List S50) : ∀ (f : Int) (acc : List S50), (∀ a ∈ q, 1 ≤ a.f1) → 0 ≤ f → f ≤ 1000 → acc.length + q.length < 8796093022208 →
    Tl (fun k => sema_served.l0 k acc m f q) (m, (srv f q).1, (srv f q).2.1, acc ++ (srv f q).2.2) := by
  induction q with
  | nil =>
    intro f acc _ _ _ _
    refine Tl.succ ?_
    simp only [sema_served.l0]
    refine Tl.neg (by simp) (Tl.const.cast ?_)
    simp [srv]
  | cons a q ih =>
    intro f acc hq h0 h1 hb
    have ha := hq a (by simp)
    simp only [List.length_cons] at hb
    refine Tl.succ ?_
    simp only [sema_served.l0]
    refine Tl.pos (by simp) (Tl.pos (by simp) ?_)
    have e : rd_T50 (a :: q) 0 = a := rfl
    rw [e]
    refine Tl.ite (fun h => ?_) (fun h => ?_)
    · refine Tl.pos (by omega) (Tl.pos (by simp; omega) ?_)
      rw [w64 (by omega) (by omega)]
      have := ih (f - a.f1) (acc ++ [a]) (fun x hx => hq x (by simp [hx])) (by omega) (by omega) (by simp; omega)
      refine this.cast ?_
      conv => rhs; unfold srv
      rw [if_pos h]
      simp
    · refine Tl.const.cast ?_
      conv => rhs; unfold srv
      rw [if_neg h]
      simp
theorem served (m f : Int) (q : List S50) (hq : ∀ a ∈ q, 1 ≤ a.f1) (h0 : 0 ≤ f) (h1 : f ≤ 1000) (hb : q.length < 8796093022208) : Tl (fun k => sema_served.f k m f q) (m, (srv f q).1, (srv f q).2.1, (srv f q).2.2) := by
  unfold sema_served.f
  exact (served_loop m q f [] hq h0 h1 (by simpa using hb)).cast (by simp)

/-- Who takes. -/
theorem take_bad {m f : Int} {q : List S50} {w n : Int} (hb : q.length < 8796093022000) (h : ¬ (Rt m f q ∧ Mays m ⟨w, n⟩)) : Tl (fun k => sema_Take.f k m f q w n) (m, f, q, false, 1) := by
  have bad : Tl (fun k => sema_Take.j0 k w n true m f q w n) (m, f, q, false, 1) := by
    refine Tl.succ ?_
    simp only [sema_Take.j0]
    exact Tl.pos trivial Tl.const
  unfold sema_Take.f
  refine Tl.bind (right m f q (by omega)) ?_
  refine Tl.ite (fun e => ?_) (fun e => bad)
  refine Tl.bindO (may m f q ⟨w, n⟩) ?_
  have : ¬ Mays m ⟨w, n⟩ := fun x => h ⟨of_decide_eq_true e, x⟩
  simp only [this, decide_false, Bool.not_false]
  exact bad
theorem take_go {m f : Int} {q : List S50} {w n : Int} {v : Int × Int × List S50 × Bool × Int} (hb : q.length < 8796093022000) (h : Rt m f q) (hm : Mays m ⟨w, n⟩) (g : Tl (fun k => sema_Take.j0 k w n false m f q w n) v) : Tl (fun k => sema_Take.f k m f q w n) v := by
  unfold sema_Take.f
  refine Tl.bind (right m f q (by omega)) (Tl.pos (decide_eq_true h) ?_)
  refine Tl.bindO (may m f q ⟨w, n⟩) ?_
  simp only [hm, decide_true, Bool.not_true]
  exact g
theorem take_wait {m f : Int} {q : List S50} {w n : Int} (hb : q.length < 8796093022000) (h : Rt m f q) (hm : Mays m ⟨w, n⟩) (hw : ∃ x ∈ q, x.f0 = w) : Tl (fun k => sema_Take.f k m f q w n) (m, f, q, false, 9) := by
  refine take_go hb h hm (Tl.succ ?_)
  simp only [sema_Take.j0]
  exact Tl.neg (by simp) (Tl.bindO (any_is q w) (Tl.pos (any_yes hw) Tl.const))
theorem take_got {m f : Int} {w n : Int} (h : Rt m f []) (hm : Mays m ⟨w, n⟩) (hn : n ≤ f) : Tl (fun k => sema_Take.f k m f [] w n) (m, f - n, [], true, 0) := by
  refine take_go (by simp) h hm (Tl.succ ?_)
  simp only [sema_Take.j0]
  have h1 := h.1
  have h2 := h.2.1
  have h3 : 1 ≤ n := hm.2.1
  rw [w64 (n := f - n) (by omega) (by omega)]
  exact Tl.neg (by simp) (Tl.bindO (any_is [] w) (Tl.neg (by simp) (Tl.pos (by simp) (Tl.pos hn Tl.const))))
theorem take_queue {m f : Int} {q : List S50} {w n : Int} (hb : q.length < 8796093022000) (h : Rt m f q) (hm : Mays m ⟨w, n⟩) (hw : ∀ x ∈ q, x.f0 ≠ w) (hn : q = [] → f < n) : Tl (fun k => sema_Take.f k m f q w n) (m, f, q ++ [⟨w, n⟩], false, 0) := by
  refine take_go hb h hm (Tl.succ ?_)
  simp only [sema_Take.j0]
  refine Tl.neg (by simp) (Tl.bindO (any_is q w) (Tl.neg (by simp [any_no hw]) ?_))
  refine Tl.ite (fun e => ?_) (fun e => ?_)
  · have : q = [] := List.length_eq_zero_iff.1 (by omega)
    exact Tl.neg (by have := hn this; omega) (Tl.bindO (clone q (by omega)) (Tl.bind0 (Tl.pos (by simp; omega) Tl.const)))
  · exact Tl.bindO (clone q (by omega)) (Tl.bind0 (Tl.pos (by simp; omega) Tl.const))
theorem take_rt {m f : Int} {q : List S50} {w n : Int} (h : Rt m f q) (hm : Mays m ⟨w, n⟩) (hw : ∀ x ∈ q, x.f0 ≠ w) (hn : q = [] → f < n) : Rt m f (q ++ [⟨w, n⟩]) := by
  refine ⟨h.1, h.2.1, h.2.2.1.add hm hw, ?_⟩
  cases q with
  | nil => exact hn rfl
  | cons a q => exact h.2.2.2
theorem take_cases (m f : Int) (q : List S50) (w n : Int) : (¬ (Rt m f q ∧ Mays m ⟨w, n⟩)) ∨ (Rt m f q ∧ Mays m ⟨w, n⟩ ∧ ((∃ x ∈ q, x.f0 = w) ∨ (q = [] ∧ n ≤ f) ∨ ((∀ x ∈ q, x.f0 ≠ w) ∧ (q = [] → f < n)))) := by
  by_cases h : Rt m f q ∧ Mays m ⟨w, n⟩
  · refine .inr ⟨h.1, h.2, ?_⟩
    rcases is_cases q w with h1 | h1
    · exact .inl h1
    · by_cases h2 : q = [] ∧ n ≤ f
      · exact .inr (.inl h2)
      · exact .inr (.inr ⟨h1, fun e => by
          have : ¬ n ≤ f := fun x => h2 ⟨e, x⟩
          omega⟩)
  · exact .inl h

/-- Who gives. -/
theorem give_bad {m f : Int} {q : List S50} {n : Int} (hb : q.length < 8796093022000) (h : ¬ (Rt m f q ∧ 1 ≤ n)) : Tl (fun k => sema_Give.f k m f q n) (m, f, q, [], 1) := by
  have bad : Tl (fun k => sema_Give.j0 k n true m f q) (m, f, q, [], 1) := by
    refine Tl.succ ?_
    simp only [sema_Give.j0]
    exact Tl.pos trivial Tl.const
  unfold sema_Give.f
  refine Tl.bind (right m f q (by omega)) ?_
  refine Tl.ite (fun e => ?_) (fun e => bad)
  have : n < 1 := by
    have : ¬ 1 ≤ n := fun x => h ⟨of_decide_eq_true e, x⟩
    omega
  rw [decide_eq_true this]
  exact bad
theorem give_full {m f : Int} {q : List S50} {n : Int} (hb : q.length < 8796093022000) (h : Rt m f q) (hn : 1 ≤ n) (hm : m - f < n) : Tl (fun k => sema_Give.f k m f q n) (m, f, q, [], 4) := by
  unfold sema_Give.f
  refine Tl.bind (right m f q (by omega)) (Tl.pos (decide_eq_true h) ?_)
  rw [decide_eq_false (by omega : ¬ n < 1)]
  have h1 := h.1
  have h2 := h.2.1
  refine Tl.succ ?_
  simp only [sema_Give.j0]
  rw [w64 (n := m - f) (by omega) (by omega)]
  exact Tl.neg (by simp) (Tl.pos (by omega) Tl.const)
theorem give_ok {m f : Int} {q : List S50} {n : Int} (hb : q.length < 8796093022000) (h : Rt m f q) (hn : 1 ≤ n) (hm : n ≤ m - f) : Tl (fun k => sema_Give.f k m f q n) (m, (srv (f + n) q).1, (srv (f + n) q).2.1, (srv (f + n) q).2.2, 0) := by
  unfold sema_Give.f
  refine Tl.bind (right m f q (by omega)) (Tl.pos (decide_eq_true h) ?_)
  rw [decide_eq_false (by omega : ¬ n < 1)]
  have h1 := h.1
  have h2 := h.2.1
  refine Tl.succ ?_
  simp only [sema_Give.j0]
  rw [w64 (n := m - f) (by omega) (by omega), w64 (n := f + n) (by omega) (by omega)]
  refine Tl.neg (by simp) (Tl.neg (by omega) (Tl.bindO (clone q (by omega)) ?_))
  exact Tl.bind (served m (f + n) q (fun a ha => (h.2.2.1.1 a ha).2.1) (by omega) (by omega) (by omega)) Tl.const
theorem give_rt {m f : Int} {q : List S50} {n : Int} (h : Rt m f q) (hn : 1 ≤ n) (hm : n ≤ m - f) : Rt m (srv (f + n) q).1 (srv (f + n) q).2.1 := by
  have h1 := h.1
  have h2 := h.2.1
  exact srv_rt h.1 (by omega) h.2.2.1

/-- Who leaves. -/
theorem leave_bad {m f : Int} {q : List S50} {w : Int} (hb : q.length < 8796093022000) (h : ¬ Rt m f q) : Tl (fun k => sema_Leave.f k m f q w) (m, f, q, [], 1) := by
  unfold sema_Leave.f
  exact Tl.bind (right m f q (by omega)) (Tl.neg (by simp [h]) Tl.const)
theorem leave_none {m f : Int} {q : List S50} {w : Int} (hb : q.length < 8796093022000) (h : Rt m f q) (hw : ∀ x ∈ q, x.f0 ≠ w) : Tl (fun k => sema_Leave.f k m f q w) (m, f, q, [], 3) := by
  unfold sema_Leave.f
  exact Tl.bind (right m f q (by omega)) (Tl.pos (decide_eq_true h) (Tl.bindO (any_is q w) (Tl.neg (by simp [any_no hw]) Tl.const)))
theorem leave_ok {m f : Int} {q : List S50} {w : Int} (hb : q.length < 8796093022000) (h : Rt m f q) (hw : ∃ x ∈ q, x.f0 = w) : Tl (fun k => sema_Leave.f k m f q w) (m, (srv f (q.filter fun x => !(x.f0 == w))).1, (srv f (q.filter fun x => !(x.f0 == w))).2.1, (srv f (q.filter fun x => !(x.f0 == w))).2.2, 0) := by
  unfold sema_Leave.f
  refine Tl.bind (right m f q (by omega)) (Tl.pos (decide_eq_true h) (Tl.bindO (any_is q w) (Tl.pos (any_yes hw) (Tl.bindO (clone q (by omega)) ?_))))
  refine Tl.bindO (v := q.filter fun x => !(x.f0 == w)) rfl ?_
  have h1 := h.1
  have h2 := h.2.1
  have hl := List.length_filter_le (fun x : S50 => !(x.f0 == w)) q
  exact Tl.bind (served m f _ (fun a ha => (h.2.2.1.1 a (List.mem_filter.1 ha).1).2.1) (by omega) (by omega) (by omega)) Tl.const
theorem leave_rt {m f : Int} {q : List S50} {w : Int} (h : Rt m f q) : Rt m (srv f (q.filter fun x => !(x.f0 == w))).1 (srv f (q.filter fun x => !(x.f0 == w))).2.1 := srv_rt h.1 h.2.1 (h.2.2.1.sub List.filter_sublist)

theorem new_ok {m f : Int} (h : Rt m f []) : Tl (fun k => sema_New.f k m f) (m, f, [], 0) := by
  unfold sema_New.f
  exact Tl.bind (right m f [] (by simp)) (Tl.pos (decide_eq_true h) Tl.const)
theorem awake : Tl (fun k => handshakerlaw18_awake.f k) true := Tl.of_mono handshakerlaw18_awake.mono 40 (by decide +kernel)
theorem awake' : Tl (fun k => (handshakerlaw18_awake.f k).bind fun t => some t) true := Tl.bind awake Tl.const
end core
section counts
open Go.RowKit Go.Proofs.Ythbcajkphkdnmaa.PSemaCounts Go.Proofs.YthbcajkphkdnmaaW.PrintWords Go.Proofs.YthbcajkphkdnmaaW.PrintLast Go.Proofs.YthbcajkphkdnmaaW.PrintMore Go.Proofs.Ythbcajkphkdnmaa.Ev
set_option linter.unusedVariables false
set_option linter.unusedSimpArgs false
theorem rdA (h : List S49) (i : Nat) (hi : i < h.length) : rd_T49 h (i : Int) = h[i] := by unfold rd_T49; simp [hi]
theorem sum_bounds (b : Int) (l : List S50) (h : ∀ a ∈ l, 0 ≤ a.f1 ∧ a.f1 ≤ b) : 0 ≤ sum l ∧ sum l ≤ b * l.length := by
  induction l with
  | nil => simp [sum]
  | cons a l ih =>
    have h1 := h a (by simp)
    have h2 := ih (fun x hx => h x (by simp [hx]))
    have e : sum (a :: l) = a.f1 + sum l := by simp [sum]
    rw [e, List.length_cons, Int.natCast_add, Int.mul_add]
    omega
theorem sum_take {l : List S50} {i : Nat} (hi : i < l.length) : sum (l.take (i + 1)) = sum (l.take i) + l[i].f1 := by
  unfold sum
  rw [List.take_succ_eq_append_getElem hi, List.map_append, List.sum_append]
  simp only [List.map_cons, List.map_nil, List.sum_cons, List.sum_nil]
  omega
theorem counts_inner (n e : Int) (acts : List S49) (i : Nat) (hi : i < acts.length) (ha : acts.length ≤ 60) (out f : Int) (q l : List S50) (hr : Rt n f q) (ho : -200 ≤ out ∧ out ≤ 200) (hl : l.length ≤ 60) (hp : ∀ a ∈ l, 0 ≤ a.f1 ∧ a.f1 ≤ 100) (hb : q.length ≤ 61)
    (hf : f + (out + sum l) = n) (go : Tl (fun k => handshakerlaw18_SemaCounts.l0 k n e (out + sum l) acts (acts.length : Int) ((i + 1 : Nat) : Int) n f q) true) :
    ∀ d j : Nat, l.length - j = d → j ≤ l.length → ∀ c, c = out + sum (l.take j) →
    Tl (fun k => handshakerlaw18_SemaCounts.l1 k n e c acts (acts.length : Int) (i : Int) l (l.length : Int) (j : Int) n f q) true := by
  intro d
  induction d with
  | zero =>
    intro j hd hj c hc
    have : j = l.length := by omega
    subst this
    rw [List.take_length] at hc
    subst hc
    refine Tl.succ ?_
    simp only [handshakerlaw18_SemaCounts.l1]
    have h1 := hr.1
    refine Tl.neg (by omega) (Tl.bind (right n f q (by omega)) (Tl.pos (decide_eq_true hr) ?_))
    rw [hf, w64 (n := n) (by omega) (by omega), w64 (n := (i : Int) + 1) (by omega) (by omega)]
    exact Tl.pos rfl (Tl.pos trivial go)
  | succ d ih =>
    intro j hd hj c hc
    have hlt : j < l.length := by omega
    refine Tl.succ ?_
    simp only [handshakerlaw18_SemaCounts.l1]
    refine Tl.pos (by omega) (Tl.pos (by omega) (Tl.pos (by omega) ?_))
    rw [rdT l j hlt]
    have hs := sum_bounds 100 (l.take j) (fun a h => hp a (List.mem_of_mem_take h))
    have h2 := hp l[j] (List.getElem_mem hlt)
    have h3 : (l.take j).length ≤ 60 := by simp; omega
    rw [w64 (n := c + l[j].f1) (by omega) (by omega), w64 (n := (j : Int) + 1) (by omega) (by omega)]
    exact ih (j + 1) (by omega) (by omega) _ (by rw [sum_take hlt]; omega)
theorem srv_mem {m f : Int} {q : List S50} (h : Qu m q) (hm : m ≤ 100) : ∀ a ∈ (srv f q).2.2, 0 ≤ a.f1 ∧ a.f1 ≤ 100 := by
  intro a ha
  have : a ∈ q := by rw [← srv_split q f]; exact List.mem_append_left _ ha
  have := (h.1 a this).2
  omega
theorem counts_loop (n : Int) (acts : List S49) (ha : acts.length ≤ 60) : ∀ d i : Nat, acts.length - i = d → i ≤ acts.length → ∀ out f q, Rt n f q → q.length ≤ i → f + out = n →
    Tl (fun k => handshakerlaw18_SemaCounts.l0 k n 0 out acts (acts.length : Int) (i : Int) n f q) true := by
  intro d
  induction d with
  | zero =>
    intro i hd hi out f q hr hb hf
    refine Tl.succ ?_
    simp only [handshakerlaw18_SemaCounts.l0]
    exact Tl.neg (by omega) (Tl.pos trivial awake')
  | succ d ih =>
    intro i hd hi out f q hr hb hf
    have hlt : i < acts.length := by omega
    have h1 := hr.1
    have h2 := hr.2.1
    have next : ∀ out' f' q' l, Rt n f' q' → -200 ≤ out' → out' ≤ 200 → l.length ≤ 60 → (∀ a ∈ l, 0 ≤ a.f1 ∧ a.f1 ≤ 100) → q'.length ≤ i + 1 → f' + (out' + sum l) = n →
        Tl (fun k => handshakerlaw18_SemaCounts.j1 k n 0 out' l acts (acts.length : Int) (i : Int) n f' q') true := by
      intro out' f' q' l hr' ho1 ho2 hl hp hb' hf'
      refine Tl.succ ?_
      simp only [handshakerlaw18_SemaCounts.j1]
      exact counts_inner n 0 acts i hlt ha out' f' q' l hr' ⟨ho1, ho2⟩ hl hp (by omega) hf' (ih (i + 1) (by omega) (by omega) _ _ _ hr' hb' hf') _ 0 rfl (Nat.zero_le _) _ (by simp [sum])
    have same : Tl (fun k => handshakerlaw18_SemaCounts.j1 k n 0 out [] acts (acts.length : Int) (i : Int) n f q) true :=
      next out f q [] hr (by omega) (by omega) (by simp) (by simp) (by omega) (by simp [sum]; omega)
    refine Tl.succ ?_
    simp only [handshakerlaw18_SemaCounts.l0]
    refine Tl.pos (by omega) (Tl.pos (by omega) (Tl.pos (by omega) ?_))
    rw [rdA acts i hlt]
    refine Tl.ite (fun e => ?_) (fun e => Tl.ite (fun e2 => ?_) (fun e2 => ?_))
    · by_cases hn : 1 ≤ acts[i].f1
      · by_cases hm : acts[i].f1 ≤ n - f
        · refine Tl.bind (give_ok (by omega) hr hn hm) (Tl.pos rfl ?_)
          have hl := srv_len q (f + acts[i].f1)
          have hs := srv_free q (f + acts[i].f1)
          show Tl (fun k => handshakerlaw18_SemaCounts.j1 k n 0 (wrap64 (out - acts[i].f1)) (srv (f + acts[i].f1) q).2.2 acts (acts.length : Int) (i : Int) n (srv (f + acts[i].f1) q).1 (srv (f + acts[i].f1) q).2.1) true
          rw [w64 (n := out - acts[i].f1) (by omega) (by omega)]
          exact next _ _ _ _ (give_rt hr hn hm) (by omega) (by omega) (by omega) (srv_mem hr.2.2.1 h1.2) (by omega) (by omega)
        · exact Tl.bind (give_full (by omega) hr hn (by omega)) (Tl.neg (by simp) same)
      · exact Tl.bind (give_bad (by omega) (fun x => hn x.2)) (Tl.neg (by simp) same)
    · rcases is_cases q acts[i].f0 with hw | hw
      · refine Tl.bind (leave_ok (by omega) hr hw) ?_
        have hl := srv_len (q.filter fun x => !(x.f0 == acts[i].f0)) f
        have hs := srv_free (q.filter fun x => !(x.f0 == acts[i].f0)) f
        have hle := List.length_filter_le (fun x : S50 => !(x.f0 == acts[i].f0)) q
        show Tl (fun k => handshakerlaw18_SemaCounts.j1 k n 0 out (srv f (q.filter fun x => !(x.f0 == acts[i].f0))).2.2 acts (acts.length : Int) (i : Int) n (srv f (q.filter fun x => !(x.f0 == acts[i].f0))).1 (srv f (q.filter fun x => !(x.f0 == acts[i].f0))).2.1) true
        exact next _ _ _ _ (leave_rt hr) (by omega) (by omega) (by omega) (srv_mem (hr.2.2.1.sub List.filter_sublist) h1.2) (by omega) (by omega)
      · exact Tl.bind (leave_none (by omega) hr hw) same
    · rcases take_cases n f q acts[i].f0 acts[i].f1 with h | ⟨_, hm, h | ⟨rfl, h⟩ | ⟨h, h3⟩⟩
      · exact Tl.bind (take_bad (by omega) h) (Tl.neg (by simp) same)
      · exact Tl.bind (take_wait (by omega) hr hm h) (Tl.neg (by simp) same)
      · have hm2 := hm.2
        simp only at hm2
        refine Tl.bind (take_got hr hm h) (Tl.pos rfl ?_)
        show Tl (fun k => handshakerlaw18_SemaCounts.j1 k n 0 (wrap64 (out + acts[i].f1)) [] acts (acts.length : Int) (i : Int) n (f - acts[i].f1) []) true
        rw [w64 (n := out + acts[i].f1) (by omega) (by omega)]
        exact next _ _ _ _ ⟨h1, ⟨by omega, by omega⟩, ⟨by simp, by simp⟩, trivial⟩ (by omega) (by omega) (by simp) (by simp) (by simp) (by simp [sum]; omega)
      · refine Tl.bind (take_queue (by omega) hr hm h h3) (Tl.neg (by simp) ?_)
        exact next _ _ _ _ (take_rt hr hm h h3) (by omega) (by omega) (by simp) (by simp) (by simp; omega) (by simp [sum]; omega)
theorem SemaCounts (z0 : Int) (z1 : List (S49)) (q0 : (Lit.int .u8 z0).wf = true) (q1 : z1.length ≤ maxLen ∧ ∀ x_ ∈ z1, ((Lit.int .i64 x_.f0).wf = true) ∧ ((Lit.int .i64 x_.f1).wf = true)) : ∃ k, handshakerlaw18_SemaCounts.f k z0 z1 = some true := by
  refine Tl.some ?_
  have ha : 0 ≤ z0 ∧ z0 ≤ 255 := by simpa [Lit.wf, IntKind.min, IntKind.max, IntKind.signed, IntKind.bits] using q0
  unfold handshakerlaw18_SemaCounts.f
  refine Tl.ite (fun e => awake') (fun e => ?_)
  have e1 : Int.tmod z0 100 = z0 % 100 := Int.tmod_eq_emod_of_nonneg ha.1
  rw [e1, w64 (n := z0 % 100) (by omega) (by omega), w64 (n := 1 + z0 % 100) (by omega) (by omega)]
  have hr : Rt (1 + z0 % 100) (1 + z0 % 100) [] := ⟨⟨by omega, by omega⟩, ⟨by omega, by omega⟩, ⟨by simp, by simp⟩, trivial⟩
  refine Tl.bind (new_ok hr) ?_
  show Tl (fun k => handshakerlaw18_SemaCounts.l0 k (1 + z0 % 100) 0 0 z1 (z1.length : Int) ((0 : Nat) : Int) (1 + z0 % 100) (1 + z0 % 100) []) true
  exact counts_loop (1 + z0 % 100) z1 (by omega) _ 0 rfl (Nat.zero_le _) 0 _ [] hr (by simp) (by omega)
end counts
end Go.Proofs.Ythbcajkphkdnmaa.Pure
