/- What a law is handed is read: numbers, truth values, records of one-cell fields and rows of any of these, out of the reading of the statement's arguments; no condition but those that each statement names. -/
import Derived.Test.YtllmfahkiabkcaaWWords
import Derived.Deep.Slices
import Derived.ChangeShapes
import Derived.WideShapes
import Derived.ChangeSame
namespace Go.Proofs.Ytllmfahkiabkcaa.Open
open Go.RowKit Go.Proofs.YtllmfahkiabkcaaW.PrintWords Go.ChangeShapes Go.WideShapes
set_option linter.unusedVariables false
variable {H : Type} {enc : TypeId × Value → H} {P : Program} {w : World} {held : Bool}

/-- What reads as of type `t` is a `d` with `Q`. -/
def Rd (enc : TypeId × Value → H) (P : Program) (w : World) (held : Bool) (t : TypeId) {α : Type} (d : Kd α) (Q : α → Prop) : Prop :=
  ∀ fuel cs x, DataW.trod enc P w 0 (fun _ => true) held fuel t cs = some x → ∃ a, d.K w a cs ∧ Q a

theorem Rd.int {t : TypeId} {k : IntKind} (ht : P.underlying t = some (.int k)) : Rd enc P w held t (Kd.int k) (fun n => (Lit.int k n).wf = true) := by
  intro fuel cs x h
  obtain ⟨n, hc, _, hw⟩ := DataW.trod_int ht h
  exact ⟨n, hc, hw⟩
theorem Rd.bool {t : TypeId} (ht : P.underlying t = some .bool) : Rd enc P w held t Kd.bool (fun _ => True) := by
  intro fuel cs x h
  obtain ⟨b, hc, _⟩ := DataW.trod_bool ht h
  exact ⟨b, hc, trivial⟩

/-- A record, by its fields; `os`: where each begins, and how many cells it has. -/
theorem cells {t : TypeId} {fs : Array Field} {os : List (Nat × Nat)} (ht : P.underlying t = some (.struct fs)) (ho : fs.toList.map (fun f => (f.offset, P.cellsOf f.type)) = os)
    {fuel : Nat} {cs : List Value} {x : DataW H × List MemPlace} (h : DataW.trod enc P w 0 (fun _ => true) held fuel t cs = some x) :
    cs.length = P.cellsOf t ∧ ∃ n, ∀ (i : Nat) (f : Field) (o : Nat × Nat), fs[i]? = some f → os[i]? = some o → ∃ y, DataW.trod enc P w 0 (fun _ => true) held n f.type ((cs.drop o.1).take o.2) = some y := by
  obtain ⟨xs, n, _, rfl, hlen, hx, hf⟩ := DataW.trod_struct ht h
  refine ⟨hlen, n, fun i f o hi hoi => ?_⟩
  have := hf i f hi
  have e : o = (f.offset, P.cellsOf f.type) := by
    rw [← ho, List.getElem?_map, Array.getElem?_toList, hi] at hoi
    simpa using hoi.symm
  have hlt : i < xs.length := by
    have := (Array.getElem?_eq_some_iff.1 hi).1
    omega
  rw [List.getElem?_eq_getElem hlt] at this
  rw [e]
  exact ⟨_, this⟩
theorem len1 {cs : List Value} (h : cs.length = 1) : ∃ a0, cs = [a0] := by
  match cs, h with
  | [a0], _ => exact ⟨a0, rfl⟩
theorem len2 {cs : List Value} (h : cs.length = 2) : ∃ a0 a1, cs = [a0, a1] := by
  match cs, h with
  | [a0, a1], _ => exact ⟨a0, a1, rfl⟩
theorem len3 {cs : List Value} (h : cs.length = 3) : ∃ a0 a1 a2, cs = [a0, a1, a2] := by
  match cs, h with
  | [a0, a1, a2], _ => exact ⟨a0, a1, a2, rfl⟩
theorem len4 {cs : List Value} (h : cs.length = 4) : ∃ a0 a1 a2 a3, cs = [a0, a1, a2, a3] := by
  match cs, h with
  | [a0, a1, a2, a3], _ => exact ⟨a0, a1, a2, a3, rfl⟩
theorem len5 {cs : List Value} (h : cs.length = 5) : ∃ a0 a1 a2 a3 a4, cs = [a0, a1, a2, a3, a4] := by
  match cs, h with
  | [a0, a1, a2, a3, a4], _ => exact ⟨a0, a1, a2, a3, a4, rfl⟩
theorem len6 {cs : List Value} (h : cs.length = 6) : ∃ a0 a1 a2 a3 a4 a5, cs = [a0, a1, a2, a3, a4, a5] := by
  match cs, h with
  | [a0, a1, a2, a3, a4, a5], _ => exact ⟨a0, a1, a2, a3, a4, a5, rfl⟩
theorem len7 {cs : List Value} (h : cs.length = 7) : ∃ a0 a1 a2 a3 a4 a5 a6, cs = [a0, a1, a2, a3, a4, a5, a6] := by
  match cs, h with
  | [a0, a1, a2, a3, a4, a5, a6], _ => exact ⟨a0, a1, a2, a3, a4, a5, a6, rfl⟩
theorem len8 {cs : List Value} (h : cs.length = 8) : ∃ a0 a1 a2 a3 a4 a5 a6 a7, cs = [a0, a1, a2, a3, a4, a5, a6, a7] := by
  match cs, h with
  | [a0, a1, a2, a3, a4, a5, a6, a7], _ => exact ⟨a0, a1, a2, a3, a4, a5, a6, a7, rfl⟩
theorem len9 {cs : List Value} (h : cs.length = 9) : ∃ a0 a1 a2 a3 a4 a5 a6 a7 a8, cs = [a0, a1, a2, a3, a4, a5, a6, a7, a8] := by
  match cs, h with
  | [a0, a1, a2, a3, a4, a5, a6, a7, a8], _ => exact ⟨a0, a1, a2, a3, a4, a5, a6, a7, a8, rfl⟩
theorem len10 {cs : List Value} (h : cs.length = 10) : ∃ a0 a1 a2 a3 a4 a5 a6 a7 a8 a9, cs = [a0, a1, a2, a3, a4, a5, a6, a7, a8, a9] := by
  match cs, h with
  | [a0, a1, a2, a3, a4, a5, a6, a7, a8, a9], _ => exact ⟨a0, a1, a2, a3, a4, a5, a6, a7, a8, a9, rfl⟩

theorem cells_of {a : Addr} {n : Nat} {cs : List Value} (h : w.cells? 0 a n = some cs) : cs.length = n ∧ ∀ i u, cs[i]? = some u → w.cell? (a.add i) = some u := by
  obtain ⟨_, h1, h2⟩ := World.cells?_some h
  refine ⟨h1, fun i u hi => ?_⟩
  rw [h2 i (by rw [← h1]; exact (List.getElem?_eq_some_iff.1 hi).1)]
  exact hi

/-- A row. -/
theorem Rd.slice {t e : TypeId} {α : Type} {d : Kd α} {Q : α → Prop} (q : Nat) (ht : P.underlying t = some (.slice e)) (hc : P.cellsOf e = d.sz) (he : Rd enc P w held e d Q) :
    Rd enc P w held t (Kd.slice q d) (fun xs => xs.length ≤ maxLen ∧ ∀ x ∈ xs, Q x) := by
  intro fuel cs x h
  rcases Go.Deep.open_slice ht h with ⟨rfl, _⟩ | ⟨a, len, cap, m, n, D, Pl, rfl, _, hl, hm, hmm, x0, hel⟩
  · exact ⟨[], ⟨none, 0, rfl, Nat.le_refl _, rfl, by simp, fun h => absurd h (by simp)⟩, by simp, by simp⟩
  · have hm2 : m = cap := by simpa using hmm
    clear hmm
    subst hm2
    have hx : ∀ i, i < len → ∃ y : α × List Value, d.K w y.1 y.2 ∧ Q y.1 ∧ y.2.length = d.sz ∧ ∀ j u, y.2[j]? = some u → w.cell? (a.add (i * d.sz + j)) = some u := by
      intro i hi
      obtain ⟨cs', h1, h2⟩ := hel i (by omega)
      obtain ⟨y, hk, hq⟩ := he _ _ _ h2
      rw [hc] at h1
      obtain ⟨h3, h4⟩ := cells_of h1
      refine ⟨(y, cs'), hk, hq, h3, fun j u hj => ?_⟩
      rw [← Go.Deep.add_add]
      exact h4 j u hj
    have : ∃ ys : List (α × List Value), ys.length = len ∧ ∀ i y, ys[i]? = some y → d.K w y.1 y.2 ∧ Q y.1 ∧ y.2.length = d.sz ∧ ∀ j u, y.2[j]? = some u → w.cell? (a.add (i * d.sz + j)) = some u := by
      clear hl hm hel h x0
      induction len with
      | zero => exact ⟨[], rfl, fun i y hy => by simp at hy⟩
      | succ len ih =>
        obtain ⟨ys, h1, h2⟩ := ih (fun i hi => hx i (by omega))
        obtain ⟨y, hy⟩ := hx len (by omega)
        refine ⟨ys ++ [y], by simp [h1], fun i z hz => ?_⟩
        by_cases hi : i < ys.length
        · rw [List.getElem?_append_left hi] at hz
          exact h2 i z hz
        · rw [List.getElem?_append_right (by omega)] at hz
          have : i = ys.length := by
            rcases Nat.lt_or_ge (i - ys.length) 1 with h | h
            · omega
            · rw [List.getElem?_eq_none (by simpa using h)] at hz; cases hz
          subst this
          simp at hz
          subst hz
          rw [h1]
          exact hy
    obtain ⟨ys, h1, h2⟩ := this
    refine ⟨ys.map (·.1), ⟨some a, m, by simp [h1], by simp [h1]; exact hl, by simp, by simp [h1]; unfold maxLen at hm; omega, fun _ => ⟨a, rfl, fun j p hj => ?_⟩⟩, by simp [h1]; omega, ?_⟩
    · simp at hj
      obtain ⟨c, hj⟩ := hj
      obtain ⟨k1, k2, k3, k4⟩ := h2 j (p, c) hj
      exact ⟨c, k3, k1, k4⟩
    · intro z hz
      simp at hz
      obtain ⟨c, hz⟩ := hz
      obtain ⟨i, hi, e⟩ := List.getElem_of_mem hz
      have := h2 i (z, c) (by rw [List.getElem?_eq_getElem hi, e])
      exact this.2.1

/-- What a row's value is. -/
theorem row {α : Type} {d : Kd α} {q : Nat} {xs : List α} {c : Value} (h : (Kd.slice q d).K w xs [c]) : ∃ A n, c = .slice A xs.length n ∧ xs.length ≤ n ∧ Kd.C d w A xs.length xs := by
  obtain ⟨A, n, h1, h2, h3⟩ := h
  exact ⟨A, n, by simpa using h1, h2, h3⟩
theorem num {k : IntKind} {n : Int} {c : Value} (h : (Kd.int k).K w n [c]) : c = .int k n := by
  have : [c] = [Value.int k n] := h
  simpa using this
theorem truth {b : Bool} {c : Value} (h : Kd.bool.K w b [c]) : c = .bool b := by
  have : [c] = [Value.bool b] := h
  simpa using this
end Go.Proofs.Ytllmfahkiabkcaa.Open
