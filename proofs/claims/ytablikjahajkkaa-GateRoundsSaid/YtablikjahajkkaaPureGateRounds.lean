/- What the law GateRounds computes is true: a plain law over what the printed functions tell; for every input. -/
import Derived.Test.YtablikjahajkkaaPGateRoundsx3
import Derived.Test.YtablikjahajkkaaEv
namespace Go.Proofs.Ytablikjahajkkaa.Pure
section core
open Go.RowKit Go.Proofs.Ytablikjahajkkaa.PGateRounds Go.Proofs.YtablikjahajkkaaW.PrintWords Go.Proofs.YtablikjahajkkaaW.PrintLast Go.Proofs.Ytablikjahajkkaa.Ev
set_option linter.unusedVariables false
set_option linter.unusedSimpArgs false

theorem somebody (w : Int) : gate_somebody.f w = some (decide (1 ≤ w ∧ w ≤ 8)) := by
  unfold gate_somebody.f
  by_cases h : w ≥ 1
  · rw [if_pos h]; congr 1; apply decide_eq_decide.mpr; exact ⟨fun x => ⟨h, x⟩, fun x => x.2⟩
  · rw [if_neg h]; congr 1; symm; apply decide_eq_false; intro x; exact h x.1
theorem tickRight (r : Int) : tick_Right.f r = some (decide (0 ≤ r ∧ r ≤ 2147483647)) := by
  unfold tick_Right.f
  by_cases h : r ≥ 0
  · rw [if_pos h]; congr 1; apply decide_eq_decide.mpr; exact ⟨fun x => ⟨h, x⟩, fun x => x.2⟩
  · rw [if_neg h]; congr 1; symm; apply decide_eq_false; intro x; exact h x.1

theorem index_loop (h : List Int) (w : Int) (hb : h.length < 9223372036854775807) : ∀ n i : Nat, h.length - i = n → i ≤ h.length → w ∉ h.take i →
    Tl (fun k => slices_Index_int_int.l0 k h w (h.length : Int) (i : Int)) (fnd h w) := by
  intro n
  induction n with
  | zero =>
    intro i hn hi hm
    have : i = h.length := by omega
    subst this
    rw [List.take_length] at hm
    refine Tl.succ ?_
    simp only [slices_Index_int_int.l0]
    refine Tl.neg (by omega) ?_
    rw [fnd_none h w hm]
    exact Tl.const
  | succ n ih =>
    intro i hn hi hm
    have hlt : i < h.length := by omega
    refine Tl.succ ?_
    simp only [slices_Index_int_int.l0]
    refine Tl.pos (by omega) (Tl.pos (by omega) (Tl.pos (by omega) ?_))
    rw [rd_nat h i hlt]
    refine Tl.ite (fun e => ?_) (fun e => ?_)
    · rw [fnd_at h w i hlt e.symm hm]
      exact Tl.const
    · rw [w64 (by omega) (by omega)]
      exact ih (i + 1) (by omega) (by omega) (take_notMem_succ hlt hm (fun x => e x.symm))
theorem index (h : List Int) (w : Int) (hb : h.length < 9223372036854775807) : Tl (fun k => slices_Index_int_int.f k h w) (fnd h w) := by
  unfold slices_Index_int_int.f
  exact index_loop h w hb _ 0 rfl (Nat.zero_le _) (by simp)
theorem contains (h : List Int) (w : Int) (hb : h.length < 9223372036854775807) : Tl (fun k => slices_Contains_int_int.f k h w) (decide (w ∈ h)) := by
  unfold slices_Contains_int_int.f
  refine Tl.bind (index h w hb) ?_
  refine Tl.const.cast ?_
  exact decide_eq_decide.mpr (fnd_nonneg h w)

/-- Is it a gate? -/
def Rt (p r : Int) (h : List Int) : Prop := (∀ x ∈ h, 1 ≤ x ∧ x ≤ 8) ∧ h.Nodup ∧ (1 ≤ p ∧ p ≤ 8) ∧ (0 ≤ r ∧ r ≤ 2147483647) ∧ (h.length : Int) < p
instance (p r : Int) (h : List Int) : Decidable (Rt p r h) := by unfold Rt; infer_instance

theorem fnd_first {h : List Int} (i : Nat) (hi : i < h.length) : fnd h h[i] = (i : Int) ↔ h[i] ∉ h.take i := by
  refine ⟨fun e hm => ?_, fun hn => fnd_at h _ i hi rfl hn⟩
  have hm' : h[i] ∈ h := List.getElem_mem hi
  unfold fnd at e
  rw [if_pos hm'] at e
  have e2 : h.idxOf h[i] = i := by omega
  have : h.idxOf h[i] < i := by
    have g : ∀ w, w ∈ h.take i → h.idxOf w < i := by
      intro w hw
      have : (h.take i ++ h.drop i).idxOf w = (h.take i).idxOf w := by rw [List.idxOf_append, if_pos hw]
      rw [List.take_append_drop] at this
      have := List.idxOf_lt_length_of_mem hw
      simp at this
      omega
    exact g _ hm
  omega

theorem right_loop (p r : Int) (h : List Int) (hb : h.length < 9223372036854775807) : ∀ n i : Nat, h.length - i = n → i ≤ h.length → (∀ x ∈ h.take i, 1 ≤ x ∧ x ≤ 8) → (h.take i).Nodup →
    Tl (fun k => gate_Right.l0 k h (h.length : Int) (i : Int) p r h) (decide (Rt p r h)) := by
  intro n
  induction n with
  | zero =>
    intro i hn hi h1 h2
    have : i = h.length := by omega
    subst this
    rw [List.take_length] at h1 h2
    refine Tl.succ ?_
    simp only [gate_Right.l0]
    refine Tl.neg (by omega) ?_
    refine Tl.bindO (somebody p) ?_
    refine Tl.ite (fun e => ?_) (fun e => ?_)
    · refine Tl.bindO (tickRight r) ?_
      refine Tl.ite (fun e2 => ?_) (fun e2 => ?_)
      · refine Tl.const.cast ?_
        apply decide_eq_decide.mpr
        unfold Rt
        exact ⟨fun x => ⟨h1, h2, of_decide_eq_true e, of_decide_eq_true e2, x⟩, fun x => x.2.2.2.2⟩
      · refine Tl.const.cast ?_
        symm; apply decide_eq_false
        exact fun x => e2 (decide_eq_true x.2.2.2.1)
    · refine Tl.const.cast ?_
      symm; apply decide_eq_false
      exact fun x => e (decide_eq_true x.2.2.1)
  | succ n ih =>
    intro i hn hi h1 h2
    have hlt : i < h.length := by omega
    refine Tl.succ ?_
    simp only [gate_Right.l0]
    refine Tl.pos (by omega) (Tl.pos (by omega) (Tl.pos (by omega) ?_))
    rw [rd_nat h i hlt]
    refine Tl.bindO (somebody _) ?_
    refine Tl.ite (fun e => ?_) (fun e => ?_)
    · refine Tl.bind (index h _ hb) ?_
      refine Tl.ite (fun e2 => ?_) (fun e2 => ?_)
      · rw [w64 (by omega) (by omega)]
        rw [fnd_first i hlt] at e2
        refine ih (i + 1) (by omega) (by omega) ?_ ?_
        · rw [List.take_succ_eq_append_getElem hlt]
          intro x hx
          rcases List.mem_append.1 hx with hx | hx
          · exact h1 x hx
          · rw [List.mem_singleton.1 hx]; exact of_decide_eq_true e
        · rw [List.take_succ_eq_append_getElem hlt]
          rw [List.nodup_append]
          refine ⟨h2, by simp, ?_⟩
          intro a ha b hb' e3
          rw [List.mem_singleton.1 hb'] at e3
          exact e2 (e3 ▸ ha)
      · refine Tl.const.cast ?_
        symm; apply decide_eq_false
        intro x
        rw [fnd_first i hlt] at e2
        apply e2
        intro hm
        have e3 : h = h.take i ++ h[i] :: h.drop (i + 1) := by simp
        have := x.2.1
        rw [e3, List.nodup_append] at this
        exact this.2.2 _ hm _ (List.mem_cons_self ..) rfl
    · refine Tl.const.cast ?_
      symm; apply decide_eq_false
      exact fun x => e (decide_eq_true (x.1 _ (List.getElem_mem hlt)))
theorem right (p r : Int) (h : List Int) (hb : h.length < 9223372036854775807) : Tl (fun k => gate_Right.f k p r h) (decide (Rt p r h)) := by
  unfold gate_Right.f
  exact right_loop p r h hb _ 0 rfl (Nat.zero_le _) (by simp) (by simp)

theorem clone (h : List Int) (hb : h.length < 17592186044416) : slices_Clone_int_int.f h = some h := by unfold slices_Clone_int_int.f; rw [if_pos hb]
theorem tickNext (r : Int) (h0 : 0 ≤ r) (h1 : r ≤ 2147483647) : tick_Next.f r = some (if r = 2147483647 then (0, 6) else (r + 1, 0)) := by
  unfold tick_Next.f
  rw [tickRight]
  simp only [Option.bind_some]
  rw [if_pos (decide_eq_true ⟨h0, h1⟩)]
  split
  · rfl
  · rw [w64 (by omega) (by omega)]

/-- One more comes. -/
def comeV (p r : Int) (h : List Int) (w : Int) : Int × Int × List Int × List Int × Int :=
  if Rt p r h ∧ 1 ≤ w ∧ w ≤ 8 then
    if w ∈ h then (p, r, h, [], 9)
    else if (h.length : Int) + 1 < p then (p, r, h ++ [w], [], 0)
    else if r = 2147483647 then (p, r, h, [], 6) else (p, r + 1, [], h ++ [w], 0)
  else (p, r, h, [], 1)
theorem come (p r : Int) (h : List Int) (w : Int) (hb : h.length < 17592186044416) : Tl (fun k => gate_Come.f k p r h w) (comeV p r h w) := by
  unfold gate_Come.f comeV
  have hbad : ¬ (Rt p r h ∧ 1 ≤ w ∧ w ≤ 8) → Tl (fun k => gate_Come.j0 k w true p r h) ((p, r, h, [], 1) : Int × Int × List Int × List Int × Int) := by
    intro _
    refine Tl.succ ?_
    simp only [gate_Come.j0]
    exact Tl.pos trivial Tl.const
  refine Tl.bind (right p r h (by omega)) ?_
  refine Tl.ite (fun e => ?_) (fun e => ?_)
  · have e := of_decide_eq_true e
    refine Tl.bindO (somebody w) ?_
    by_cases hw : 1 ≤ w ∧ w ≤ 8
    · simp only [hw, decide_true, Bool.not_true, e, and_self, if_true]
      refine Tl.succ ?_
      simp only [gate_Come.j0]
      refine Tl.neg (by simp) ?_
      refine Tl.bind (contains h w (by omega)) ?_
      by_cases hm : w ∈ h
      · simp only [hm, decide_true, if_true]
        exact Tl.const
      · simp only [hm, decide_false, if_false, Bool.false_eq_true]
        refine Tl.bindO (clone h hb) ?_
        refine Tl.pos (by omega) ?_
        refine Tl.bind0 ?_
        simp only [List.length_append, List.length_singleton]
        by_cases hl : (h.length : Int) + 1 < p
        · simp only [hl, if_true]
          exact Tl.pos (by omega) Tl.const
        · simp only [hl, if_false]
          refine Tl.neg (by omega) ?_
          refine Tl.bindO (tickNext r e.2.2.2.1.1 e.2.2.2.1.2) ?_
          by_cases hr : r = 2147483647
          · simp only [hr, if_true]
            exact Tl.neg (by omega) Tl.const
          · simp only [hr, if_false, if_true]
            exact Tl.const
    · simp only [hw, decide_false, Bool.not_false, and_false, if_false]
      exact hbad (fun x => hw x.2)
  · have e : ¬ Rt p r h := fun x => e (decide_eq_true x)
    rw [if_neg (fun x => e x.1)]
    exact hbad (fun x => e x.1)

theorem place (p r : Int) (h : List Int) (w : Int) (hb : h.length < 9223372036854775807) : Tl (fun k => gate_Place.f k p r h w) (if Rt p r h then fnd h w else -1) := by
  unfold gate_Place.f
  refine Tl.bind (right p r h hb) ?_
  refine Tl.ite (fun e => ?_) (fun e => ?_)
  · rw [if_pos (of_decide_eq_true e)]
    refine Tl.bind (index h w hb) ?_
    exact Tl.const
  · rw [if_neg (fun x => e (decide_eq_true x))]
    exact Tl.const

/-- One who was there leaves. -/
def leaveV (p r : Int) (h : List Int) (w : Int) : Int × Int × List Int × Int :=
  if Rt p r h then if w ∈ h then (p, r, h.eraseIdx (h.idxOf w), 0) else (p, r, h, 3) else (p, r, h, 1)
theorem leave (p r : Int) (h : List Int) (w : Int) (hb : h.length < 17592186044416) : Tl (fun k => gate_Leave.f k p r h w) (leaveV p r h w) := by
  unfold gate_Leave.f leaveV
  refine Tl.bind (place p r h w (by omega)) ?_
  refine Tl.bind (right p r h (by omega)) ?_
  refine Tl.ite (fun e => ?_) (fun e => ?_)
  · have e := of_decide_eq_true e
    simp only [e, if_true]
    by_cases hm : w ∈ h
    · simp only [hm, if_true]
      have hf : fnd h w = (h.idxOf w : Int) := if_pos hm
      have hi := List.idxOf_lt_length_of_mem hm
      refine Tl.neg (by omega) ?_
      refine Tl.bindO (clone h hb) ?_
      refine Tl.bindO (v := h.eraseIdx (h.idxOf w)) ?_ Tl.const
      unfold slices_Delete_int_int.f
      rw [hf, if_pos (by omega), if_pos (by omega), if_pos rfl]
      simp
    · simp only [hm, if_false]
      exact Tl.pos ((fnd_neg h w).2 hm) Tl.const
  · have e : ¬ Rt p r h := fun x => e (decide_eq_true x)
    simp only [e, if_false]
    exact Tl.const

/-- A new gate. -/
def newV (p : Int) : Int × Int × List Int × Int := if 1 ≤ p ∧ p ≤ 8 then (p, 0, [], 0) else (0, 0, [], 1)
theorem new (p : Int) : Tl (fun k => gate_New.f k p) (newV p) := by
  unfold gate_New.f newV
  refine Tl.bind (right p 0 [] (by simp)) ?_
  have : Rt p 0 [] ↔ 1 ≤ p ∧ p ≤ 8 := by
    unfold Rt
    simp
    intro h1 h2; exact h1
  by_cases h : 1 ≤ p ∧ p ≤ 8
  · have hr := this.2 h
    simp only [hr, h, decide_true, if_true, and_self]
    exact Tl.const
  · have hr : ¬ Rt p 0 [] := fun x => h (this.1 x)
    simp only [hr, h, decide_false, if_false, Bool.false_eq_true]
    exact Tl.const

theorem numbers_loop (a b : List Int) (hb : a.length < 9223372036854775807) (hl : a.length = b.length) : ∀ n i : Nat, a.length - i = n → i ≤ a.length → a.take i = b.take i →
    Tl (fun k => handshakerref03_Numbers.l0 k a b (i : Int)) (decide (a = b)) := by
  intro n
  induction n with
  | zero =>
    intro i hn hi hm
    have : i = a.length := by omega
    subst this
    have e : a = b := by rw [List.take_length] at hm; rw [hm]; apply List.take_of_length_le; omega
    refine Tl.succ ?_
    simp only [handshakerref03_Numbers.l0]
    refine Tl.neg (by omega) ?_
    simp only [e, decide_true]
    exact Tl.const
  | succ n ih =>
    intro i hn hi hm
    have hlt : i < a.length := by omega
    refine Tl.succ ?_
    simp only [handshakerref03_Numbers.l0]
    refine Tl.pos (by omega) (Tl.pos (by omega) (Tl.pos (by omega) ?_))
    rw [rd_nat a i hlt, rd_nat b i (by omega)]
    refine Tl.ite (fun e => ?_) (fun e => ?_)
    · rw [w64 (by omega) (by omega)]
      refine ih (i + 1) (by omega) (by omega) ?_
      rw [List.take_succ_eq_append_getElem hlt, List.take_succ_eq_append_getElem (by omega), hm, e]
    · refine Tl.const.cast ?_
      symm; apply decide_eq_false
      intro x; subst x; exact e rfl
theorem numbers (a b : List Int) (hb : a.length < 9223372036854775807) : Tl (fun k => handshakerref03_Numbers.f k a b) (decide (a = b)) := by
  unfold handshakerref03_Numbers.f
  refine Tl.ite (fun e => ?_) (fun e => ?_)
  · exact numbers_loop a b hb (by omega) _ 0 rfl (Nat.zero_le _) (by simp)
  · refine Tl.const.cast ?_
    symm; apply decide_eq_false
    intro x; subst x; exact e rfl

theorem awake : Tl (fun k => handshakerlaw19_awake.f k) true := Tl.of_mono handshakerlaw19_awake.mono 40 (by decide +kernel)
end core
section rounds
open Go.RowKit Go.Proofs.Ytablikjahajkkaa.PGateRounds Go.Proofs.YtablikjahajkkaaW.PrintWords Go.Proofs.YtablikjahajkkaaW.PrintLast Go.Proofs.Ytablikjahajkkaa.Ev
set_option linter.unusedVariables false
set_option linter.unusedSimpArgs false

theorem Rt.eraseIdx {p r : Int} {h : List Int} (hr : Rt p r h) (i : Nat) : Rt p r (h.eraseIdx i) := by
  refine ⟨fun x hx => hr.1 x (List.mem_of_mem_eraseIdx hx), hr.2.1.sublist (List.eraseIdx_sublist h i), hr.2.2.1, hr.2.2.2.1, ?_⟩
  have := List.length_eraseIdx_le h i
  have := hr.2.2.2.2
  omega

/-- What the rest of a round leaves to be shown. -/
def Go1 (n : Int) (l : List Int) (i : Nat) : Prop := ∀ (rounds : Int) (here : List Int), Rt n rounds here → rounds ≤ (i : Int) → Tl (fun k => handshakerlaw19_GateRounds.l0 k n 0 here rounds l (l.length : Int) (i : Int) n rounds here) true

theorem rounds_j4 {n : Int} {l : List Int} {i : Nat} (hl : l.length ≤ 60) (hi : i < l.length) (next : Go1 n l (i + 1)) (rounds : Int) (here : List Int) (hr : Rt n rounds here) (hle : rounds ≤ (i : Int) + 1) :
    Tl (fun k => handshakerlaw19_GateRounds.j4 k n 0 here rounds l (l.length : Int) (i : Int) n rounds here) true := by
  have hb : (here.length : Int) < 8 := by have := hr.2.2.2.2; have := hr.2.2.1.2; omega
  refine Tl.succ ?_
  simp only [handshakerlaw19_GateRounds.j4]
  refine Tl.pos trivial ?_
  refine Tl.bind (numbers here here (by omega)) ?_
  refine Tl.pos (by simp) ?_
  refine Tl.bind (right n rounds here (by omega)) ?_
  refine Tl.pos (decide_eq_true hr) ?_
  rw [w64 (by omega) (by omega)]
  exact next rounds here hr (by omega)

theorem rounds_end {n : Int} {l : List Int} {i : Nat} (hl : l.length ≤ 60) (hi : i < l.length) (next : Go1 n l (i + 1)) (rounds : Int) (here : List Int) (hr : Rt n rounds here) (hle : rounds ≤ (i : Int))
    (who v : Int) (hw : -128 ≤ who ∧ who ≤ 127) (hv : v = if who < 0 then -who else who) :
    Tl (fun k => handshakerlaw19_GateRounds.l1 k n 0 here rounds who (fnd here v) l (l.length : Int) (i : Int) here (here.length : Int) (here.length : Int) n rounds here) true := by
  have hb : (here.length : Int) < 8 := by have := hr.2.2.2.2; have := hr.2.2.1.2; omega
  have hle0 := hr.2.2.2.1.1
  refine Tl.succ ?_
  simp only [handshakerlaw19_GateRounds.l1]
  refine Tl.neg (by omega) ?_
  refine Tl.ite (fun e => ?_) (fun e => ?_)
  · rw [w64 (n := -who) (by omega) (by omega)]
    have ev : -who = v := by rw [hv, if_pos e]
    rw [ev]
    refine Tl.bind (leave n rounds here v (by omega)) ?_
    unfold leaveV
    simp only [hr, if_true]
    by_cases hm : v ∈ here
    · have hf : fnd here v = (here.idxOf v : Int) := if_pos hm
      have hx := List.idxOf_lt_length_of_mem hm
      simp only [hm, if_true]
      rw [hf]
      refine Tl.pos (by omega) ?_
      refine Tl.bind0 ?_
      refine Tl.pos (by omega) (Tl.pos (by omega) ?_)
      refine Tl.bind0 ?_
      refine Tl.pos (by simp; omega) ?_
      refine Tl.bind0 ?_
      rw [w64 (n := (here.idxOf v : Int) + 1) (by omega) (by omega)]
      refine Tl.pos (by omega) (Tl.pos (by omega) ?_)
      refine Tl.bind0 ?_
      refine Tl.pos (by simp; omega) ?_
      have he : ([] ++ here.take (here.idxOf v : Int).toNat ++ here.drop ((here.idxOf v : Int) + 1).toNat) = here.eraseIdx (here.idxOf v) := by
        rw [List.eraseIdx_eq_take_drop_succ]
        have : ((here.idxOf v : Int) + 1).toNat = here.idxOf v + 1 := by omega
        rw [this]; simp
      rw [he]
      exact rounds_j4 hl hi next rounds _ (hr.eraseIdx _) (by omega)
    · have hf : fnd here v = -1 := if_neg hm
      simp only [hm, if_false]
      rw [hf]
      refine Tl.neg (by omega) (Tl.neg (by omega) ?_)
      exact rounds_j4 hl hi next rounds _ hr (by omega)
  · have ev : v = who := by rw [hv, if_neg e]
    subst ev
    have bad : ∀ c : Int, c ≠ 0 → Tl (fun k => handshakerlaw19_GateRounds.j2 k n 0 here rounds v [] c l (l.length : Int) (i : Int) false n rounds here) true := by
      intro c hc
      refine Tl.succ ?_
      simp only [handshakerlaw19_GateRounds.j2]
      refine Tl.neg (by simp) (Tl.neg hc ?_)
      refine Tl.succ ?_
      simp only [handshakerlaw19_GateRounds.j3]
      refine Tl.neg (by have := hr.2.2.2.2; omega) ?_
      refine Tl.neg (by simp) ?_
      exact rounds_j4 hl hi next rounds _ hr (by omega)
    by_cases hw8 : 1 ≤ v ∧ v ≤ 8
    · by_cases hm : v ∈ here
      · refine Tl.bind ((come n rounds here v (by omega)).cast (w := (n, rounds, here, [], 9)) (by unfold comeV; rw [if_pos ⟨hr, hw8⟩, if_pos hm])) ?_
        refine Tl.pos (by omega) (Tl.pos (by omega) ?_)
        have hf : fnd here v = (here.idxOf v : Int) := if_pos hm
        refine Tl.neg (by simp) (Tl.neg (by omega) ?_)
        exact bad 9 (by omega)
      · have hf : fnd here v = -1 := if_neg hm
        have hr1 : (here ++ [v]).Nodup := by
          rw [List.nodup_append]
          refine ⟨hr.2.1, by simp, ?_⟩
          intro a ha b hb' e3
          rw [List.mem_singleton.1 hb'] at e3
          exact hm (e3 ▸ ha)
        have hr0 : ∀ x ∈ here ++ [v], 1 ≤ x ∧ x ≤ 8 := by
          intro x hx
          rcases List.mem_append.1 hx with hx | hx
          · exact hr.1 x hx
          · rw [List.mem_singleton.1 hx]; exact hw8
        by_cases hlen : (here.length : Int) + 1 < n
        · refine Tl.bind ((come n rounds here v (by omega)).cast (w := (n, rounds, here ++ [v], [], 0)) (by unfold comeV; rw [if_pos ⟨hr, hw8⟩, if_neg hm, if_pos hlen])) ?_
          refine Tl.pos (by omega) (Tl.pos (by omega) (Tl.pos rfl (Tl.pos (by omega) ?_)))
          refine Tl.succ ?_
          simp only [handshakerlaw19_GateRounds.j2]
          refine Tl.neg (by simp) (Tl.pos trivial ?_)
          refine Tl.bind0 ?_
          refine Tl.pos (by simp; omega) ?_
          refine Tl.bind0 ?_
          refine Tl.pos (by simp; omega) ?_
          simp only [List.nil_append]
          refine Tl.succ ?_
          simp only [handshakerlaw19_GateRounds.j3]
          refine Tl.neg (by simp; omega) ?_
          refine Tl.neg (by simp) ?_
          exact rounds_j4 hl hi next rounds _ ⟨hr0, hr1, hr.2.2.1, hr.2.2.2.1, by simp; omega⟩ (by omega)
        · have hn : ¬ rounds = 2147483647 := by omega
          refine Tl.bind ((come n rounds here v (by omega)).cast (w := (n, rounds + 1, [], here ++ [v], 0)) (by unfold comeV; rw [if_pos ⟨hr, hw8⟩, if_neg hm, if_neg hlen, if_neg hn])) ?_
          refine Tl.pos (by omega) (Tl.pos (by omega) (Tl.pos rfl (Tl.pos (by omega) ?_)))
          refine Tl.succ ?_
          simp only [handshakerlaw19_GateRounds.j2]
          refine Tl.neg (by simp) (Tl.pos trivial ?_)
          refine Tl.bind0 ?_
          refine Tl.pos (by simp; omega) ?_
          refine Tl.bind0 ?_
          refine Tl.pos (by simp; omega) ?_
          simp only [List.nil_append]
          refine Tl.succ ?_
          simp only [handshakerlaw19_GateRounds.j3]
          refine Tl.pos (by have := hr.2.2.2.2; simp; omega) ?_
          refine Tl.bind (numbers _ _ (by simp; omega)) ?_
          refine Tl.pos (by simp) (Tl.neg (by simp) ?_)
          rw [w64 (n := rounds + 1) (by omega) (by omega)]
          exact rounds_j4 hl hi next (rounds + 1) [] ⟨by simp, by simp, hr.2.2.1, ⟨by omega, by omega⟩, by have := hr.2.2.1; simp; omega⟩ (by omega)
    · have hw8' : ¬ (1 ≤ v ∧ v ≤ 8) := hw8
      refine Tl.bind ((come n rounds here v (by omega)).cast (w := (n, rounds, here, [], 1)) (by unfold comeV; rw [if_neg (fun x => hw8' x.2)])) ?_
      refine Tl.ite (fun h1 => ?_) (fun h1 => ?_)
      · refine Tl.neg (fun h8 => hw8' ⟨h1, h8⟩) (Tl.neg (by simp) ?_)
        exact bad 1 (by omega)
      · refine Tl.neg (by simp) ?_
        exact bad 1 (by omega)

theorem rounds_at {n : Int} {l : List Int} {i : Nat} (hl : l.length ≤ 60) (hi : i < l.length) (next : Go1 n l (i + 1)) (rounds : Int) (here : List Int) (hr : Rt n rounds here) (hle : rounds ≤ (i : Int))
    (who v : Int) (hw : -128 ≤ who ∧ who ≤ 127) (hv : v = if who < 0 then -who else who) : ∀ m j : Nat, here.length - j = m → j ≤ here.length → ∀ at0, at0 = (if v ∈ here.take j then fnd here v else -1) →
    Tl (fun k => handshakerlaw19_GateRounds.l1 k n 0 here rounds who at0 l (l.length : Int) (i : Int) here (here.length : Int) (j : Int) n rounds here) true := by
  have hb : (here.length : Int) < 8 := by have := hr.2.2.2.2; have := hr.2.2.1.2; omega
  intro m
  induction m with
  | zero =>
    intro j hm hj at0 h0
    have : j = here.length := by omega
    subst this
    rw [List.take_length] at h0
    have : at0 = fnd here v := by
      rw [h0]; split
      · rfl
      · rename_i h; exact (if_neg h).symm
    rw [this]
    exact rounds_end hl hi next rounds here hr hle who v hw hv
  | succ m ih =>
    intro j hm hj at0 h0
    have hlt : j < here.length := by omega
    refine Tl.succ ?_
    simp only [handshakerlaw19_GateRounds.l1]
    refine Tl.pos (by omega) (Tl.pos (by omega) (Tl.pos (by omega) ?_))
    rw [rd_nat here j hlt, w64 (n := -who) (by omega) (by omega), w64 (n := (j : Int) + 1) (by omega) (by omega)]
    have h18 := hr.1 _ (List.getElem_mem hlt)
    have hnd : here[j] ∉ here.take j := by
      intro hx
      have e3 : here = here.take j ++ here[j] :: here.drop (j + 1) := by simp
      have := hr.2.1
      rw [e3, List.nodup_append] at this
      exact this.2.2 _ hx _ (List.mem_cons_self ..) rfl
    have yes : here[j] = v → Tl (fun k => handshakerlaw19_GateRounds.l1 k n 0 here rounds who (j : Int) l (l.length : Int) (i : Int) here (here.length : Int) ((j : Int) + 1) n rounds here) true := by
      intro e
      refine ih (j + 1) (by omega) (by omega) _ ?_
      rw [List.take_succ_eq_append_getElem hlt, if_pos (by simp [e])]
      exact (fnd_at here v j hlt e (e ▸ hnd)).symm
    refine Tl.ite (fun e => ?_) (fun e => ?_)
    · refine yes ?_
      rw [hv, if_neg (by omega)]; exact e
    · refine Tl.ite (fun e2 => ?_) (fun e2 => ?_)
      · refine yes ?_
        rw [hv, if_pos (by omega)]; exact e2
      · refine ih (j + 1) (by omega) (by omega) _ ?_
        rw [h0, List.take_succ_eq_append_getElem hlt]
        have : v ≠ here[j] := by
          rw [hv]; split
          · exact fun x => e2 x.symm
          · exact fun x => e x.symm
        simp only [List.mem_append, List.mem_singleton, this, or_false]

theorem rounds_all {n : Int} {l : List Int} (hl : l.length ≤ 60) (hw : ∀ x ∈ l, -128 ≤ x ∧ x ≤ 127) : ∀ m i : Nat, l.length - i = m → i ≤ l.length → Go1 n l i := by
  intro m
  induction m with
  | zero =>
    intro i hm hi rounds here hr hle
    have : i = l.length := by omega
    subst this
    refine Tl.succ ?_
    simp only [handshakerlaw19_GateRounds.l0]
    refine Tl.neg (by omega) (Tl.pos trivial ?_)
    exact Tl.bind awake Tl.const
  | succ m ih =>
    intro i hm hi rounds here hr hle
    have hlt : i < l.length := by omega
    refine Tl.succ ?_
    simp only [handshakerlaw19_GateRounds.l0]
    refine Tl.pos (by omega) (Tl.pos (by omega) (Tl.pos (by omega) ?_))
    rw [rd_nat l i hlt]
    have := hw _ (List.getElem_mem hlt)
    rw [w64 (n := l[i]) (by omega) (by omega)]
    exact rounds_at hl hlt (ih (i + 1) (by omega) (by omega)) rounds here hr hle l[i] _ this rfl _ 0 rfl (Nat.zero_le _) (-1) (by simp)

theorem GateRounds : handshakerlaw19_GateRounds.Pure := by
  intro a l ha _ _ hl
  refine Tl.some ?_
  have ha : 0 ≤ a ∧ a ≤ 255 := by simpa [Lit.wf, IntKind.min, IntKind.max, IntKind.signed, IntKind.bits] using ha
  unfold handshakerlaw19_GateRounds.f
  refine Tl.ite (fun e => ?_) (fun e => ?_)
  · exact Tl.bind awake Tl.const
  · have e1 : Int.tmod a 8 = a % 8 := Int.tmod_eq_emod_of_nonneg ha.1
    rw [e1, w64 (n := a % 8) (by omega) (by omega), w64 (n := 1 + a % 8) (by omega) (by omega)]
    have h8 : 1 ≤ 1 + a % 8 ∧ 1 + a % 8 ≤ 8 := by omega
    refine Tl.bind ((new (1 + a % 8)).cast (w := (1 + a % 8, 0, [], 0)) (if_pos h8)) ?_
    refine rounds_all (by omega) ?_ _ 0 rfl (Nat.zero_le _) 0 [] ⟨by simp, by simp, h8, by omega, by simp; omega⟩ (by omega)
    intro x hx
    simpa [Lit.wf, IntKind.min, IntKind.max, IntKind.signed, IntKind.bits] using hl x hx
end rounds
end Go.Proofs.Ytablikjahajkkaa.Pure
