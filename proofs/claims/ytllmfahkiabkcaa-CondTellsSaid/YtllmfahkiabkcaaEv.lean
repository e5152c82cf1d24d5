/- A function of rounds tells a value from some round on; the places of a number in a row. -/
import Derived.Test.YtllmfahkiabkcaaWWords

namespace Go.Proofs.Ytllmfahkiabkcaa.Ev
open Go.RowKit Go.Proofs.YtllmfahkiabkcaaW.PrintWords
set_option linter.unusedVariables false
set_option linter.unusedSimpArgs false

/-- From some round on, `F` tells `v`. -/
def Tl {α : Type} (F : Nat → Option α) (v : α) : Prop := ∃ k0, ∀ k, k0 ≤ k → F k = some v

theorem Tl.const {α : Type} {v : α} : Tl (fun _ => some v) v := ⟨0, fun _ _ => rfl⟩
theorem Tl.of_eq {α : Type} {o : Option α} {v : α} (h : o = some v) : Tl (fun _ => o) v := ⟨0, fun _ _ => h⟩
theorem Tl.bind {α β : Type} {F : Nat → Option α} {G : Nat → α → Option β} {v : α} {w : β} (h : Tl F v) (g : Tl (fun k => G k v) w) : Tl (fun k => (F k).bind (G k)) w := by
  obtain ⟨k0, h⟩ := h
  obtain ⟨k1, g⟩ := g
  exact ⟨k0 + k1, fun k hk => by simp only [h k (by omega), Option.bind_some]; exact g k (by omega)⟩
theorem Tl.bind0 {α β : Type} {v : α} {G : Nat → α → Option β} {w : β} (g : Tl (fun k => G k v) w) : Tl (fun k => (some v : Option α).bind (G k)) w := Tl.bind Tl.const g
theorem Tl.bindO {α β : Type} {o : Option α} {v : α} {G : Nat → α → Option β} {w : β} (h : o = some v) (g : Tl (fun k => G k v) w) : Tl (fun k => o.bind (G k)) w := Tl.bind (Tl.of_eq h) g
theorem Tl.ite {α : Type} {c : Prop} [Decidable c] {A B : Nat → Option α} {v : α} (h1 : c → Tl A v) (h2 : ¬ c → Tl B v) : Tl (fun k => if c then A k else B k) v := by
  by_cases h : c
  · simp only [h, if_true]; exact h1 h
  · simp only [h, if_false]; exact h2 h
theorem Tl.pos {α : Type} {c : Prop} [Decidable c] {A B : Nat → Option α} {v : α} (h : c) (h1 : Tl A v) : Tl (fun k => if c then A k else B k) v := Tl.ite (fun _ => h1) (fun n => absurd h n)
theorem Tl.neg {α : Type} {c : Prop} [Decidable c] {A B : Nat → Option α} {v : α} (h : ¬ c) (h1 : Tl B v) : Tl (fun k => if c then A k else B k) v := Tl.ite (fun n => absurd n h) (fun _ => h1)
theorem Tl.succ {α : Type} {F : Nat → Option α} {v : α} (h : Tl (fun k => F (k + 1)) v) : Tl F v := by
  obtain ⟨k0, h⟩ := h
  refine ⟨k0 + 1, fun k hk => ?_⟩
  obtain ⟨j, rfl⟩ : ∃ j, k = j + 1 := ⟨k - 1, by omega⟩
  exact h j (by omega)
theorem Tl.cast {α : Type} {F : Nat → Option α} {v w : α} (h : Tl F v) (e : v = w) : Tl F w := e ▸ h
theorem Tl.some {α : Type} {F : Nat → Option α} {v : α} (h : Tl F v) : ∃ k, F k = some v := by obtain ⟨k, h⟩ := h; exact ⟨k, h k (Nat.le_refl _)⟩
/-- What tells a value at one round, and the same at any later one, tells it from there on. -/
theorem Tl.of_mono {α : Type} {F : Nat → Option α} {v : α} (m : ∀ k, LeO (F k) (F (k + 1))) (k0 : Nat) (h : F k0 = Option.some v) : Tl F v := by
  refine ⟨k0, fun k hk => ?_⟩
  obtain ⟨n, rfl⟩ : ∃ n, k = k0 + n := ⟨k - k0, by omega⟩
  clear hk
  induction n with
  | zero => exact h
  | succ n ih => exact m (k0 + n) _ ih

theorem w64 {n : Int} (h0 : -9223372036854775808 ≤ n) (h1 : n ≤ 9223372036854775807) : wrap64 n = n := by unfold wrap64; omega
theorem rd_nat (h : List Int) (i : Nat) (hi : i < h.length) : rd h (i : Int) = h[i] := by unfold rd; simp [hi]

/-- Where a number is first; -1: nowhere. -/
def fnd (h : List Int) (w : Int) : Int := if w ∈ h then (h.idxOf w : Int) else -1
theorem fnd_at (h : List Int) (w : Int) (i : Nat) (hi : i < h.length) (hw : h[i] = w) (hn : w ∉ h.take i) : fnd h w = (i : Int) := by
  have hm : w ∈ h := hw ▸ List.getElem_mem hi
  unfold fnd
  rw [if_pos hm]
  have e : h = h.take i ++ w :: h.drop (i + 1) := by rw [← hw]; simp
  have : h.idxOf w = i := by
    rw [e, List.idxOf_append, if_neg hn]
    simp [List.idxOf_cons]
    omega
  omega
theorem fnd_none (h : List Int) (w : Int) (hn : w ∉ h) : fnd h w = -1 := by unfold fnd; rw [if_neg hn]
theorem fnd_lt (h : List Int) (w : Int) : fnd h w < (h.length : Int) := by
  unfold fnd; split
  · rename_i hm; have := List.idxOf_lt_length_of_mem hm; omega
  · omega
theorem fnd_nonneg (h : List Int) (w : Int) : 0 ≤ fnd h w ↔ w ∈ h := by
  unfold fnd; split <;> rename_i hm <;> simp [hm]
theorem fnd_neg (h : List Int) (w : Int) : fnd h w < 0 ↔ w ∉ h := by
  rw [← fnd_nonneg]; omega
theorem take_notMem_succ {h : List Int} {w : Int} {i : Nat} (hi : i < h.length) (hn : w ∉ h.take i) (hw : h[i] ≠ w) : w ∉ h.take (i + 1) := by
  rw [List.take_succ_eq_append_getElem hi]
  simp only [List.mem_append, List.mem_singleton, not_or]
  exact ⟨hn, fun e => hw e.symm⟩

end Go.Proofs.Ytllmfahkiabkcaa.Ev
