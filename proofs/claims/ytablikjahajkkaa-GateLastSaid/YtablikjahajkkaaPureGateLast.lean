/- What the law GateLast computes is true: a plain law over what the printed functions tell; for every input. -/
import Derived.Test.YtablikjahajkkaaPGateLastx3
import Derived.Test.YtablikjahajkkaaEv
namespace Go.Proofs.Ytablikjahajkkaa.Pure
section core
open Go.RowKit Go.Proofs.Ytablikjahajkkaa.PGateLast Go.Proofs.YtablikjahajkkaaW.PrintWords Go.Proofs.YtablikjahajkkaaW.PrintLast Go.Proofs.Ytablikjahajkkaa.Ev
set_option linter.unusedVariables false
set_option linter.unusedSimpArgs false

theorem somebody (w : Int) : gate_somebody.f w = some (decide (1 ≤ w ∧ w ≤ 8)) := by
  unfold gate_somebody.f
  by_cases h : w ≥ 1
  · rw [if_pos h]; congr 1; apply decide_eq_decide.mpr; exact ⟨fun x => ⟨h, x⟩, fun x => x.2⟩
  · rw [if_neg h]; congr 1; symm; apply decide_eq_false; intro x; exact h x.1
theorem tickRight (r : Int) : tick_Right.f r = some (decide (0 ≤ r ∧ r ≤ 2147483647)) := by
  unfold tick_Right.f
  by_cases h : r ≥ 0
  · rw [if_pos h]; congr 1; apply decide_eq_decide.mpr; exact ⟨fun x => ⟨h, x⟩, fun x => x.2⟩
  · rw [if_neg h]; congr 1; symm; apply decide_eq_false; intro x; exact h x.1

theorem index_loop (h : List Int) (w : Int) (hb : h.length < 9223372036854775807) : ∀ n i : Nat, h.length - i = n → i ≤ h.length → w ∉ h.take i →
    Tl (fun k => slices_Index_int_int.l0 k h w (h.length : Int) (i : Int)) (fnd h w) := by
  intro n
  induction n with
  | zero =>
    intro i hn hi hm
    have : i = h.length := by omega
    subst this
    rw [List.take_length] at hm
    refine Tl.succ ?_
    simp only [slices_Index_int_int.l0]
    refine Tl.neg (by omega) ?_
    rw [fnd_none h w hm]
    exact Tl.const
  | succ n ih =>
    intro i hn hi hm
    have hlt : i < h.length := by omega
    refine Tl.succ ?_
    simp only [slices_Index_int_int.l0]
    refine Tl.pos (by omega) (Tl.pos (by omega) (Tl.pos (by omega) ?_))
    rw [rd_nat h i hlt]
    refine Tl.ite (fun e => ?_) (fun e => ?_)
    · rw [fnd_at h w i hlt e.symm hm]
      exact Tl.const
    · rw [w64 (by omega) (by omega)]
      exact ih (i + 1) (by omega) (by omega) (take_notMem_succ hlt hm (fun x => e x.symm))
theorem index (h : List Int) (w : Int) (hb : h.length < 9223372036854775807) : Tl (fun k => slices_Index_int_int.f k h w) (fnd h w) := by
  unfold slices_Index_int_int.f
  exact index_loop h w hb _ 0 rfl (Nat.zero_le _) (by simp)
theorem contains (h : List Int) (w : Int) (hb : h.length < 9223372036854775807) : Tl (fun k => slices_Contains_int_int.f k h w) (decide (w ∈ h)) := by
  unfold slices_Contains_int_int.f
  refine Tl.bind (index h w hb) ?_
  refine Tl.const.cast ?_
  exact decide_eq_decide.mpr (fnd_nonneg h w)

/-- Is it a gate? -/
def Rt (p r : Int) (h : List Int) : Prop := (∀ x ∈ h, 1 ≤ x ∧ x ≤ 8) ∧ h.Nodup ∧ (1 ≤ p ∧ p ≤ 8) ∧ (0 ≤ r ∧ r ≤ 2147483647) ∧ (h.length : Int) < p
instance (p r : Int) (h : List Int) : Decidable (Rt p r h) := by unfold Rt; infer_instance

theorem fnd_first {h : List Int} (i : Nat) (hi : i < h.length) : fnd h h[i] = (i : Int) ↔ h[i] ∉ h.take i := by
  refine ⟨fun e hm => ?_, fun hn => fnd_at h _ i hi rfl hn⟩
  have hm' : h[i] ∈ h := List.getElem_mem hi
  unfold fnd at e
  rw [if_pos hm'] at e
  have e2 : h.idxOf h[i] = i := by omega
  have : h.idxOf h[i] < i := by
    have g : ∀ w, w ∈ h.take i → h.idxOf w < i := by
      intro w hw
      have : (h.take i ++ h.drop i).idxOf w = (h.take i).idxOf w := by rw [List.idxOf_append, if_pos hw]
      rw [List.take_append_drop] at this
      have := List.idxOf_lt_length_of_mem hw
      simp at this
      omega
    exact g _ hm
  omega

theorem right_loop (p r : Int) (h : List Int) (hb : h.length < 9223372036854775807) : ∀ n i : Nat, h.length - i = n → i ≤ h.length → (∀ x ∈ h.take i, 1 ≤ x ∧ x ≤ 8) → (h.take i).Nodup →
    Tl (fun k => gate_Right.l0 k h (h.length : Int) (i : Int) p r h) (decide (Rt p r h)) := by
  intro n
  induction n with
  | zero =>
    intro i hn hi h1 h2
    have : i = h.length := by omega
    subst this
    rw [List.take_length] at h1 h2
    refine Tl.succ ?_
    simp only [gate_Right.l0]
    refine Tl.neg (by omega) ?_
    refine Tl.bindO (somebody p) ?_
    refine Tl.ite (fun e => ?_) (fun e => ?_)
    · refine Tl.bindO (tickRight r) ?_
      refine Tl.ite (fun e2 => ?_) (fun e2 => ?_)
      · refine Tl.const.cast ?_
        apply decide_eq_decide.mpr
        unfold Rt
        exact ⟨fun x => ⟨h1, h2, of_decide_eq_true e, of_decide_eq_true e2, x⟩, fun x => x.2.2.2.2⟩
      · refine Tl.const.cast ?_
        symm; apply decide_eq_false
        exact fun x => e2 (decide_eq_true x.2.2.2.1)
    · refine Tl.const.cast ?_
      symm; apply decide_eq_false
      exact fun x => e (decide_eq_true x.2.2.1)
  | succ n ih =>
    intro i hn hi h1 h2
    have hlt : i < h.length := by omega
    refine Tl.succ ?_
    simp only [gate_Right.l0]
    refine Tl.pos (by omega) (Tl.pos (by omega) (Tl.pos (by omega) ?_))
    rw [rd_nat h i hlt]
    refine Tl.bindO (somebody _) ?_
    refine Tl.ite (fun e => ?_) (fun e => ?_)
    · refine Tl.bind (index h _ hb) ?_
      refine Tl.ite (fun e2 => ?_) (fun e2 => ?_)
      · rw [w64 (by omega) (by omega)]
        rw [fnd_first i hlt] at e2
        refine ih (i + 1) (by omega) (by omega) ?_ ?_
        · rw [List.take_succ_eq_append_getElem hlt]
          intro x hx
          rcases List.mem_append.1 hx with hx | hx
          · exact h1 x hx
          · rw [List.mem_singleton.1 hx]; exact of_decide_eq_true e
        · rw [List.take_succ_eq_append_getElem hlt]
          rw [List.nodup_append]
          refine ⟨h2, by simp, ?_⟩
          intro a ha b hb' e3
          rw [List.mem_singleton.1 hb'] at e3
          exact e2 (e3 ▸ ha)
      · refine Tl.const.cast ?_
        symm; apply decide_eq_false
        intro x
        rw [fnd_first i hlt] at e2
        apply e2
        intro hm
        have e3 : h = h.take i ++ h[i] :: h.drop (i + 1) := by simp
        have := x.2.1
        rw [e3, List.nodup_append] at this
        exact this.2.2 _ hm _ (List.mem_cons_self ..) rfl
    · refine Tl.const.cast ?_
      symm; apply decide_eq_false
      exact fun x => e (decide_eq_true (x.1 _ (List.getElem_mem hlt)))
theorem right (p r : Int) (h : List Int) (hb : h.length < 9223372036854775807) : Tl (fun k => gate_Right.f k p r h) (decide (Rt p r h)) := by
  unfold gate_Right.f
  exact right_loop p r h hb _ 0 rfl (Nat.zero_le _) (by simp) (by simp)

theorem clone (h : List Int) (hb : h.length < 17592186044416) : slices_Clone_int_int.f h = some h := by unfold slices_Clone_int_int.f; rw [if_pos hb]
theorem tickNext (r : Int) (h0 : 0 ≤ r) (h1 : r ≤ 2147483647) : tick_Next.f r = some (if r = 2147483647 then (0, 6) else (r + 1, 0)) := by
  unfold tick_Next.f
  rw [tickRight]
  simp only [Option.bind_some]
  rw [if_pos (decide_eq_true ⟨h0, h1⟩)]
  split
  · rfl
  · rw [w64 (by omega) (by omega)]

/-- One more comes. -/
def comeV (p r : Int) (h : List Int) (w : Int) : Int × Int × List Int × List Int × Int :=
  if Rt p r h ∧ 1 ≤ w ∧ w ≤ 8 then
    if w ∈ h then (p, r, h, [], 9)
    else if (h.length : Int) + 1 < p then (p, r, h ++ [w], [], 0)
    else if r = 2147483647 then (p, r, h, [], 6) else (p, r + 1, [], h ++ [w], 0)
  else (p, r, h, [], 1)
theorem come (p r : Int) (h : List Int) (w : Int) (hb : h.length < 17592186044416) : Tl (fun k => gate_Come.f k p r h w) (comeV p r h w) := by
  unfold gate_Come.f comeV
  have hbad : ¬ (Rt p r h ∧ 1 ≤ w ∧ w ≤ 8) → Tl (fun k => gate_Come.j0 k w true p r h) ((p, r, h, [], 1) : Int × Int × List Int × List Int × Int) := by
    intro _
    refine Tl.succ ?_
    simp only [gate_Come.j0]
    exact Tl.pos trivial Tl.const
  refine Tl.bind (right p r h (by omega)) ?_
  refine Tl.ite (fun e => ?_) (fun e => ?_)
  · have e := of_decide_eq_true e
    refine Tl.bindO (somebody w) ?_
    by_cases hw : 1 ≤ w ∧ w ≤ 8
    · simp only [hw, decide_true, Bool.not_true, e, and_self, if_true]
      refine Tl.succ ?_
      simp only [gate_Come.j0]
      refine Tl.neg (by simp) ?_
      refine Tl.bind (contains h w (by omega)) ?_
      by_cases hm : w ∈ h
      · simp only [hm, decide_true, if_true]
        exact Tl.const
      · simp only [hm, decide_false, if_false, Bool.false_eq_true]
        refine Tl.bindO (clone h hb) ?_
        refine Tl.pos (by omega) ?_
        refine Tl.bind0 ?_
        simp only [List.length_append, List.length_singleton]
        by_cases hl : (h.length : Int) + 1 < p
        · simp only [hl, if_true]
          exact Tl.pos (by omega) Tl.const
        · simp only [hl, if_false]
          refine Tl.neg (by omega) ?_
          refine Tl.bindO (tickNext r e.2.2.2.1.1 e.2.2.2.1.2) ?_
          by_cases hr : r = 2147483647
          · simp only [hr, if_true]
            exact Tl.neg (by omega) Tl.const
          · simp only [hr, if_false, if_true]
            exact Tl.const
    · simp only [hw, decide_false, Bool.not_false, and_false, if_false]
      exact hbad (fun x => hw x.2)
  · have e : ¬ Rt p r h := fun x => e (decide_eq_true x)
    rw [if_neg (fun x => e x.1)]
    exact hbad (fun x => e x.1)

theorem place (p r : Int) (h : List Int) (w : Int) (hb : h.length < 9223372036854775807) : Tl (fun k => gate_Place.f k p r h w) (if Rt p r h then fnd h w else -1) := by
  unfold gate_Place.f
  refine Tl.bind (right p r h hb) ?_
  refine Tl.ite (fun e => ?_) (fun e => ?_)
  · rw [if_pos (of_decide_eq_true e)]
    refine Tl.bind (index h w hb) ?_
    exact Tl.const
  · rw [if_neg (fun x => e (decide_eq_true x))]
    exact Tl.const

/-- One who was there leaves. -/
def leaveV (p r : Int) (h : List Int) (w : Int) : Int × Int × List Int × Int :=
  if Rt p r h then if w ∈ h then (p, r, h.eraseIdx (h.idxOf w), 0) else (p, r, h, 3) else (p, r, h, 1)
theorem leave (p r : Int) (h : List Int) (w : Int) (hb : h.length < 17592186044416) : Tl (fun k => gate_Leave.f k p r h w) (leaveV p r h w) := by
  unfold gate_Leave.f leaveV
  refine Tl.bind (place p r h w (by omega)) ?_
  refine Tl.bind (right p r h (by omega)) ?_
  refine Tl.ite (fun e => ?_) (fun e => ?_)
  · have e := of_decide_eq_true e
    simp only [e, if_true]
    by_cases hm : w ∈ h
    · simp only [hm, if_true]
      have hf : fnd h w = (h.idxOf w : Int) := if_pos hm
      have hi := List.idxOf_lt_length_of_mem hm
      refine Tl.neg (by omega) ?_
      refine Tl.bindO (clone h hb) ?_
      refine Tl.bindO (v := h.eraseIdx (h.idxOf w)) ?_ Tl.const
      unfold slices_Delete_int_int.f
      rw [hf, if_pos (by omega), if_pos (by omega), if_pos rfl]
      simp
    · simp only [hm, if_false]
      exact Tl.pos ((fnd_neg h w).2 hm) Tl.const
  · have e : ¬ Rt p r h := fun x => e (decide_eq_true x)
    simp only [e, if_false]
    exact Tl.const

/-- A new gate. -/
def newV (p : Int) : Int × Int × List Int × Int := if 1 ≤ p ∧ p ≤ 8 then (p, 0, [], 0) else (0, 0, [], 1)
theorem new (p : Int) : Tl (fun k => gate_New.f k p) (newV p) := by
  unfold gate_New.f newV
  refine Tl.bind (right p 0 [] (by simp)) ?_
  have : Rt p 0 [] ↔ 1 ≤ p ∧ p ≤ 8 := by
    unfold Rt
    simp
    intro h1 h2; exact h1
  by_cases h : 1 ≤ p ∧ p ≤ 8
  · have hr := this.2 h
    simp only [hr, h, decide_true, if_true, and_self]
    exact Tl.const
  · have hr : ¬ Rt p 0 [] := fun x => h (this.1 x)
    simp only [hr, h, decide_false, if_false, Bool.false_eq_true]
    exact Tl.const

theorem numbers_loop (a b : List Int) (hb : a.length < 9223372036854775807) (hl : a.length = b.length) : ∀ n i : Nat, a.length - i = n → i ≤ a.length → a.take i = b.take i →
    Tl (fun k => handshakerref03_Numbers.l0 k a b (i : Int)) (decide (a = b)) := by
  intro n
  induction n with
  | zero =>
    intro i hn hi hm
    have : i = a.length := by omega
    subst this
    have e : a = b := by rw [List.take_length] at hm; rw [hm]; apply List.take_of_length_le; omega
    refine Tl.succ ?_
    simp only [handshakerref03_Numbers.l0]
    refine Tl.neg (by omega) ?_
    simp only [e, decide_true]
    exact Tl.const
  | succ n ih =>
    intro i hn hi hm
    have hlt : i < a.length := by omega
    refine Tl.succ ?_
    simp only [handshakerref03_Numbers.l0]
    refine Tl.pos (by omega) (Tl.pos (by omega) (Tl.pos (by omega) ?_))
    rw [rd_nat a i hlt, rd_nat b i (by omega)]
    refine Tl.ite (fun e => ?_) (fun e => ?_)
    · rw [w64 (by omega) (by omega)]
      refine ih (i + 1) (by omega) (by omega) ?_
      rw [List.take_succ_eq_append_getElem hlt, List.take_succ_eq_append_getElem (by omega), hm, e]
    · refine Tl.const.cast ?_
      symm; apply decide_eq_false
      intro x; subst x; exact e rfl
theorem numbers (a b : List Int) (hb : a.length < 9223372036854775807) : Tl (fun k => handshakerref03_Numbers.f k a b) (decide (a = b)) := by
  unfold handshakerref03_Numbers.f
  refine Tl.ite (fun e => ?_) (fun e => ?_)
  · exact numbers_loop a b hb (by omega) _ 0 rfl (Nat.zero_le _) (by simp)
  · refine Tl.const.cast ?_
    symm; apply decide_eq_false
    intro x; subst x; exact e rfl

theorem awake : Tl (fun k => handshakerlaw19_awake.f k) true := Tl.of_mono handshakerlaw19_awake.mono 40 (by decide +kernel)
end core
section more
open Go.RowKit Go.Proofs.Ytablikjahajkkaa.PGateLast Go.Proofs.YtablikjahajkkaaW.PrintWords Go.Proofs.YtablikjahajkkaaW.PrintLast Go.Proofs.Ytablikjahajkkaa.Ev
set_option linter.unusedVariables false
set_option linter.unusedSimpArgs false

theorem come_cases (p r : Int) (h : List Int) (w : Int) : (∃ c, c ≠ 0 ∧ comeV p r h w = (p, r, h, [], c)) ∨
    (Rt p r h ∧ (1 ≤ w ∧ w ≤ 8) ∧ w ∉ h ∧ (h.length : Int) + 1 < p ∧ comeV p r h w = (p, r, h ++ [w], [], 0)) ∨
    (Rt p r h ∧ (1 ≤ w ∧ w ≤ 8) ∧ w ∉ h ∧ (h.length : Int) + 1 = p ∧ r < 2147483647 ∧ comeV p r h w = (p, r + 1, [], h ++ [w], 0)) := by
  unfold comeV
  by_cases h1 : Rt p r h ∧ 1 ≤ w ∧ w ≤ 8
  · rw [if_pos h1]
    by_cases h2 : w ∈ h
    · rw [if_pos h2]; exact .inl ⟨9, by omega, rfl⟩
    · rw [if_neg h2]
      by_cases h3 : (h.length : Int) + 1 < p
      · rw [if_pos h3]; exact .inr (.inl ⟨h1.1, h1.2, h2, h3, rfl⟩)
      · rw [if_neg h3]
        by_cases h4 : r = 2147483647
        · rw [if_pos h4]; exact .inl ⟨6, by omega, rfl⟩
        · rw [if_neg h4]
          have := h1.1.2.2.2.2
          have := h1.1.2.2.2.1
          exact .inr (.inr ⟨h1.1, h1.2, h2, by omega, by omega, rfl⟩)
  · rw [if_neg h1]; exact .inl ⟨1, by omega, rfl⟩
theorem Rt.more {p r : Int} {h : List Int} {w : Int} (hr : Rt p r h) (hw : 1 ≤ w ∧ w ≤ 8) (hn : w ∉ h) (hl : (h.length : Int) + 1 < p) : Rt p r (h ++ [w]) := by
  refine ⟨?_, ?_, hr.2.2.1, hr.2.2.2.1, by simp; omega⟩
  · intro x hx
    rcases List.mem_append.1 hx with hx | hx
    · exact hr.1 x hx
    · rw [List.mem_singleton.1 hx]; exact hw
  · rw [List.nodup_append]
    refine ⟨hr.2.1, by simp, ?_⟩
    intro a ha b hb' e3
    rw [List.mem_singleton.1 hb'] at e3
    exact hn (e3 ▸ ha)
theorem idxOf_last {h : List Int} {w : Int} (hn : w ∉ h) : (h ++ [w]).idxOf w = h.length := by
  rw [List.idxOf_append, if_neg hn]; simp
theorem fnd_last {h : List Int} {w : Int} (hn : w ∉ h) : fnd (h ++ [w]) w = (h.length : Int) := by
  unfold fnd; rw [if_pos (by simp), idxOf_last hn]
theorem leave_last {p r : Int} {h : List Int} {w : Int} (hr : Rt p r (h ++ [w])) (hn : w ∉ h) : leaveV p r (h ++ [w]) w = (p, r, h, 0) := by
  unfold leaveV
  rw [if_pos hr, if_pos (by simp), idxOf_last hn, List.eraseIdx_append_of_length_le (Nat.le_refl _)]
  simp
theorem nodup_at {h : List Int} (hn : h.Nodup) (i : Nat) (hi : i < h.length) : h[i] ∉ h.take i := by
  intro hx
  have e3 : h = h.take i ++ h[i] :: h.drop (i + 1) := by simp
  rw [e3, List.nodup_append] at hn
  exact hn.2.2 _ hx _ (List.mem_cons_self ..) rfl
theorem awake' : Tl (fun k => (handshakerlaw19_awake.f k).bind fun t => some t) true := Tl.bind awake Tl.const
end more
section last
open Go.RowKit Go.Proofs.Ytablikjahajkkaa.PGateLast Go.Proofs.YtablikjahajkkaaW.PrintWords Go.Proofs.YtablikjahajkkaaW.PrintLast Go.Proofs.Ytablikjahajkkaa.Ev
set_option linter.unusedVariables false
theorem nodup_le : ∀ (l m : List Int), l.Nodup → (∀ x ∈ l, x ∈ m) → l.length ≤ m.length := by
  intro l
  induction l with
  | nil => intro m _ _; simp
  | cons x l ih =>
    intro m hn hs
    have hx : x ∈ m := hs x (by simp)
    have h1 := ih (m.erase x) (List.nodup_cons.1 hn).2 (fun y hy => by
      refine (List.mem_erase_of_ne ?_).2 (hs y (by simp [hy]))
      intro e; subst e
      exact (List.nodup_cons.1 hn).1 hy)
    have h2 := List.length_erase_of_mem hx
    have h3 : 0 < m.length := List.length_pos_of_mem hx
    simp only [List.length_cons]
    omega

theorem last_end (p r : Int) (h : List Int) (x y : Int) (z : List Int) (who : Int) : Tl (fun k => handshakerlaw19_GateLast.l0 k 0 who p r h x y z) true := by
  have j : Tl (fun k => handshakerlaw19_GateLast.j2 k 0 who false p r h x y z) true := by
    refine Tl.succ ?_
    simp only [handshakerlaw19_GateLast.j2]
    exact Tl.neg (by simp) (Tl.pos trivial awake')
  refine Tl.succ ?_
  simp only [handshakerlaw19_GateLast.l0]
  exact Tl.ite (fun _ => by simpa using j) (fun _ => j)

theorem last_loop (p r : Int) (h : List Int) (hr4 : r < 2147483647) : ∀ m i : Nat, 9 - i = m → 1 ≤ i → i ≤ 9 → ∀ h' : List Int, Rt p r h' → (∀ v : Int, 1 ≤ v → v < (i : Int) → v ∈ h') →
    Tl (fun k => handshakerlaw19_GateLast.l0 k (p - (h'.length : Int)) (i : Int) p r h p r h') true := by
  intro m
  induction m with
  | zero =>
    intro i hm h1 h9 h' hr hall
    exfalso
    have : i = 9 := by omega
    subst this
    have := nodup_le [1, 2, 3, 4, 5, 6, 7, 8] h' (by decide) (by
      intro x hx
      simp only [List.mem_cons, List.not_mem_nil, or_false] at hx
      refine hall x ?_ ?_ <;> omega)
    have h2 := hr.2.2.2.2
    have h3 := hr.2.2.1
    simp only [List.length_cons, List.length_nil] at this
    omega
  | succ m ih =>
    intro i hm h1 h9 h' hr hall
    have h2 := hr.2.2.2.2
    have h3 := hr.2.2.1
    have h4 := hr.2.2.2.1
    have hlen : ((h' ++ [(i : Int)]).length : Int) = (h'.length : Int) + 1 := by simp
    refine Tl.succ ?_
    simp only [handshakerlaw19_GateLast.l0]
    refine Tl.pos (by omega) ?_
    refine Tl.succ ?_
    simp only [handshakerlaw19_GateLast.j2]
    refine Tl.pos (by simp; omega) ?_
    refine Tl.bind ((place p r h' (i : Int) (by omega)).cast (if_pos hr)) ?_
    rw [w64 (n := (i : Int) + 1) (by omega) (by omega)]
    refine Tl.ite (fun e => ?_) (fun e => ?_)
    · refine ih (i + 1) (by omega) (by omega) (by omega) h' hr (fun v hv1 hv2 => ?_)
      rcases Int.lt_or_eq_of_le (show v ≤ (i : Int) by omega) with h | h
      · exact hall v hv1 h
      · rw [h]; exact (fnd_nonneg h' _).1 e
    · have hn : (i : Int) ∉ h' := fun x => e ((fnd_nonneg h' _).2 x)
      have hw : 1 ≤ (i : Int) ∧ (i : Int) ≤ 8 := by omega
      rw [w64 (n := p - (h'.length : Int) - 1) (by omega) (by omega)]
      by_cases hl : (h'.length : Int) + 1 < p
      · have hv : comeV p r h' (i : Int) = (p, r, h' ++ [(i : Int)], [], 0) := by unfold comeV; rw [if_pos ⟨hr, hw⟩, if_neg hn, if_pos hl]
        refine Tl.bind ((come p r h' (i : Int) (by omega)).cast hv) ?_
        refine Tl.pos rfl (Tl.neg (by simp) (Tl.neg (by omega) ?_))
        have := ih (i + 1) (by omega) (by omega) (by omega) (h' ++ [(i : Int)]) (hr.more hw hn hl) (fun v hv1 hv2 => by
          rcases Int.lt_or_eq_of_le (show v ≤ (i : Int) by omega) with h | h
          · exact List.mem_append.2 (.inl (hall v hv1 h))
          · rw [h]; simp)
        rw [hlen, show p - ((h'.length : Int) + 1) = p - (h'.length : Int) - 1 by omega] at this
        exact this
      · have hv : comeV p r h' (i : Int) = (p, r + 1, [], h' ++ [(i : Int)], 0) := by unfold comeV; rw [if_pos ⟨hr, hw⟩, if_neg hn, if_neg hl, if_neg (by omega)]
        refine Tl.bind ((come p r h' (i : Int) (by omega)).cast hv) ?_
        have e0 : p - (h'.length : Int) - 1 = 0 := by omega
        refine Tl.pos rfl (Tl.pos (by show ((h' ++ [(i : Int)]).length : Int) > 0; omega) (Tl.pos e0 (Tl.pos (by show ((h' ++ [(i : Int)]).length : Int) = p; omega) (Tl.pos ?_ (Tl.pos rfl ?_)))))
        · rw [w64 (by omega) (by omega)]
        · rw [e0]
          exact last_end ..

theorem GateLast (z0_0 : Int) (z0_1 : Int) (z0_2 : List (Int)) (q0_0 : (Lit.int .i64 z0_0).wf = true) (q0_1 : (Lit.int .i64 z0_1).wf = true) (q0_2 : z0_2.length ≤ maxLen ∧ ∀ x_ ∈ z0_2, (Lit.int .i64 x_).wf = true) : ∃ k, handshakerlaw19_GateLast.f k z0_0 z0_1 z0_2 = some true := by
  refine Tl.some ?_
  unfold handshakerlaw19_GateLast.f
  have out : Tl (fun k => handshakerlaw19_GateLast.j0 k true z0_0 z0_1 z0_2) true := by
    refine Tl.succ ?_
    simp only [handshakerlaw19_GateLast.j0]
    exact Tl.pos trivial awake'
  refine Tl.ite (fun e => out) (fun e => ?_)
  refine Tl.bind (right z0_0 z0_1 z0_2 (by omega)) ?_
  refine Tl.ite (fun e2 => ?_) (fun e2 => out)
  have hr := of_decide_eq_true e2
  have h2 := hr.2.2.2.2
  have h3 := hr.2.2.1
  have h4 := hr.2.2.2.1
  by_cases h5 : z0_1 = 2147483647
  · subst h5
    exact out
  · have : (z0_1 == 2147483647) = false := by simpa using h5
    rw [this]
    refine Tl.succ ?_
    simp only [handshakerlaw19_GateLast.j0]
    refine Tl.neg (by simp) ?_
    rw [w64 (n := z0_0 - (z0_2.length : Int)) (by omega) (by omega)]
    exact last_loop z0_0 z0_1 z0_2 (by omega) _ 1 rfl (by omega) (by omega) z0_2 hr (fun v h1 h2 => by omega)
end last
end Go.Proofs.Ytablikjahajkkaa.Pure
