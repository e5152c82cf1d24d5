/- Words beside the print's: what clear leaves of a row's tail; an empty row that was made. No condition but those that each statement names. -/
import Derived.Below
import Derived.Deep.Draws
import Derived.Deep.AppendLies
import Derived.Maps.AppendAt
import Derived.OwnWalk
import Derived.Laws.BytesArg
import Derived.Laws.MakeOwn
import Derived.Laws.OwnMore
import Derived.Deep.OwnRows
import Derived.Tactics
import Derived.Lib.ConvBytes
import Derived.Laws.Slices
import Derived.WalkKit
import Derived.KernelRfl
import Derived.RowKit3
import Derived.Deep.LoopGhost
import Derived.Deep.QuietTactic
import Derived.BigQuiet
import Derived.WideLaws
import Derived.Deep.DeepCutAuto
import Derived.Deep.CutBlock
import Derived.Deep.RegionHeld3
import Derived.Laws.Rows
import Derived.Lib.AppendStr
import Derived.ArgAppend
import Derived.Laws.IdiomCopy
import Derived.OrdersHeld
import Derived.Laws.BitsLemmas
import Derived.RowKit
import Derived.Deep.RegionLaw
import Derived.Lib.SliceRun
import Derived.Test.YtllmfahkiabkcaaWWords
import Derived.Test.YtllmfahkiabkcaaWLast
import Derived.Test.YtllmfahkiabkcaaWTab
import Derived.Test.YtllmfahkiabkcaaWFour
import Derived.Test.YtllmfahkiabkcaaWQPut
import Derived.Test.YtllmfahkiabkcaaWApart
import Derived.Test.YtllmfahkiabkcaaWArr
import Derived.Test.YtllmfahkiabkcaaWZeros
import Derived.Test.YtllmfahkiabkcaaWFoot
import Derived.Test.YtllmfahkiabkcaaWKept
import Derived.Test.YtllmfahkiabkcaaWShare
import Derived.Test.YtllmfahkiabkcaaWN
import Derived.Test.YtllmfahkiabkcaaWFootNe
import Derived.Test.YtllmfahkiabkcaaWAt
import Derived.Test.YtllmfahkiabkcaaWEqStruct
import Derived.Test.YtllmfahkiabkcaaWRepsOne
import Derived.Test.YtllmfahkiabkcaaWInv
import Derived.Test.YtllmfahkiabkcaaWInvWords
import Derived.Test.YtllmfahkiabkcaaWGuard
import Derived.Test.YtllmfahkiabkcaaWNEv
import Derived.Test.YtllmfahkiabkcaaWMore
namespace Go.Proofs.YtllmfahkiabkcaaG
open Go.RowKit Go.Proofs.YtllmfahkiabkcaaW.PrintWords Go.Proofs.YtllmfahkiabkcaaW.PrintLast Go.Proofs.YtllmfahkiabkcaaW.PrintMore
set_option linter.unusedVariables false
set_option linter.unusedSimpArgs false
theorem zeroCells_one (z : Array Value) : (Builtin.zeroCells z 1).toList = z.toList := by
  simp only [Builtin.zeroCells, Nat.one_mul]
  apply List.ext_getElem
  · simp
  · intro i h1 h2
    simp at h1 h2 ⊢
    rw [Nat.mod_eq_of_lt h2]
    simp [h2]
theorem made_empty {α : Type} (d : Kd α) (e : Nat) (w : World) : d.R e (w.alloc (.cells #[] e)) w.heap.size (fun _ => True) (.slice (some ⟨w.heap.size, 0, none⟩) 0 0) [] :=
  ⟨fun _ _ => trivial, [], by first | exact World.ownsRow_made w #[] 0 (Nat.le_refl _) (Nat.zero_le _) (by simp) | simpa using World.ownsRow_made w #[] 0 (Nat.le_refl _) (Nat.zero_le _) (by simp), Reps.none _ _⟩
theorem clear_tail {P : Program} {α : Type} (d : Kd α) {W : World} (base : Nat) (t ty e : TypeId) (z : Value) (ht : P.underlying t = some (.slice e)) (hv : ∀ w, (zeroValue e).run P w = .ok z w) (hz : z.cells.size = d.sz) (h1 : ∀ u ∈ z.cells.toList, u.oneCell' = true)
    {g m c : Nat} {xs : List α} {ok : Nat → Prop} (HO : d.R e W base ok (.slice (some ⟨g, 0, none⟩) m c) xs) (hm : m < c) (c2 : Nat) {A : Addr} (hA : A = ⟨g, m * d.sz, none⟩) :
    ∃ w1, (Builtin.clear_ #[t] ty #[.slice (some A) 1 c2]).run P W = .ok (.tuple #[]) w1 ∧ d.R e w1 base ok (.slice (some ⟨g, 0, none⟩) m c) xs ∧ W.grownBy w1 (some g) := by
  obtain ⟨hn, hnc, _⟩ := Kd.R_reads' HO
  obtain ⟨hok, inner, hown, hr⟩ := HO
  subst hA
  rcases hown.2 with ⟨hv', _⟩ | ⟨g', cap', cur, hv', hb, hh, hle, hcm, hcs, htake⟩
  · cases hv'
  injection hv' with ha _ hc
  injection ha with ha
  injection ha with hg
  subst hg; subst hc
  have hsz : (m + 1) * d.sz ≤ c * d.sz := Nat.mul_le_mul_right _ hm
  rw [Nat.succ_mul] at hsz
  have hzl : z.cells.toList.length = d.sz := by simpa using hz
  have hrun := run_storeCells_cells (P := P) g (m * d.sz) z.cells.toList 0 W (fun j hj => by
      rw [cell_of_row W g _ cur e (0, 0) hh]; simp; omega) (fun j _ => blk_frozen hh _) h1
  simp only [Nat.add_zero] at hrun
  obtain ⟨cur', h3, h4, h5⟩ := setCells_row z.cells.toList (m * d.sz) W cur hh (by omega)
  obtain ⟨s1, s2, s3, s4⟩ := setCells_same g z.cells.toList (m * d.sz) W
  have hfar : ∀ k', k' ≠ g → (W.setCells g (m * d.sz) z.cells.toList).heap[k']? = W.heap[k']? := fun k' hk' => setCells_far _ _ k' hk'
  refine ⟨W.setCells g (m * d.sz) z.cells.toList, ?_, ⟨hok, inner, ⟨hown.1, .inr ⟨g, c, cur', by rw [hn], hb, h3, by omega, hcm, by rw [h4, hcs], ?_⟩⟩, ?_⟩, ⟨s1, s2, s3, by rw [s4]; exact Nat.le_refl _, fun k' _ hk' => hfar k' (fun he => hk' (by rw [he]))⟩⟩
  · have hzc := zeroCells_one z.cells
    simp [Builtin.clear_, run_underlying ht, hv, hzc, hrun]
  · have h6 : (cur.toList.take (m * d.sz)).length = m * d.sz := by
      rw [List.length_take, Array.length_toList, hcs]
      omega
    rw [← htake, ← hn, h5, List.take_append_of_le_length (by rw [List.length_append, h6]; omega), List.take_append_of_le_length (by omega), List.take_take, Nat.min_self]
  · exact hr.imp_ (fun p q hp => d.M_move (fun k' hk' => hfar k' (fun he => hk'.2 (by rw [he]; simp [Value.ownBlock]))) hp)
/-- Where the first one is that a test lets by; -1: there is none. -/
def idxBy {α : Type} (p : α → Bool) (l : List α) : Int := match l.findIdx? p with | some i => (i : Int) | none => -1
theorem idxBy_none {α : Type} {p : α → Bool} {l : List α} (h : ∀ (j : Nat) (x : α), l[j]? = some x → p x = false) : idxBy p l = -1 := by
  unfold idxBy
  rw [List.findIdx?_eq_none_iff.2]
  intro x hx
  obtain ⟨j, hj⟩ := List.mem_iff_getElem?.1 hx
  exact h j x hj
theorem idxBy_some {α : Type} {p : α → Bool} {l : List α} {j : Nat} {x : α} (hj : l[j]? = some x) (hp : p x = true) (h : ∀ (i : Nat) (y : α), i < j → l[i]? = some y → p y = false) : idxBy p l = j := by
  unfold idxBy
  rw [List.findIdx?_eq_some_iff_getElem.2]
  obtain ⟨hl, rfl⟩ := List.getElem?_eq_some_iff.1 hj
  refine ⟨hl, hp, fun i hi => ?_⟩
  have := h i _ hi (List.getElem?_eq_getElem (by omega))
  simpa using this
theorem any_idx {α : Type} (p : α → Bool) (l : List α) : l.any p = decide (0 ≤ idxBy p l) := by
  cases h : l.any p with
  | true =>
    have hs : (l.findIdx? p).isSome = true := by rw [List.findIdx?_isSome]; exact h
    obtain ⟨i, hi⟩ := Option.isSome_iff_exists.1 hs
    unfold idxBy
    rw [hi]
    simp
  | false =>
    have hn : l.findIdx? p = none := by
      rw [List.findIdx?_eq_none_iff]
      intro x hx
      simpa using List.any_eq_false.1 h x hx
    unfold idxBy
    rw [hn]
    simp
/-- A row that is told as shared, and is not empty: its block is one of those that it is told with. -/
theorem F_ok {α : Type} {d : Kd α} {W : World} {ok : Nat → Prop} {ad : Addr} {n : Nat} {xs : List α} (h : Kd.F d W ok (some ad) n xs) (hn : 0 < n) (hs : 0 < d.sz) : ok ad.block := by
  refine Classical.byContradiction fun hno => ?_
  have h0 : d.C { W with heap := W.heap.setIfInBounds ad.block (.cells #[] 0 (0, 0)) } (some ad) n xs := h _ (fun k hk hlt => by
    have hne : k ≠ ad.block := fun e => hno (e ▸ hk)
    simp [Array.getElem?_setIfInBounds, Ne.symm hne])
  obtain ⟨hl, _, hc⟩ := h0
  obtain ⟨ad', e, hc⟩ := hc hn
  injection e with e
  subst e
  obtain ⟨c, hcl, _, hcell⟩ := hc 0 _ (List.getElem?_eq_getElem (by omega))
  have hu := hcell 0 _ (List.getElem?_eq_getElem (by omega))
  have hlt := World.block_lt_of_cell? _ _ hu
  have hb : (ad.add (0 * d.sz + 0)).block = ad.block := by rw [add_block]
  rw [hb] at hlt
  simp at hlt
  have : (ad.add (0 * d.sz + 0)) = ad := by simp [Addr.add]
  rw [this] at hu
  simp [World.cell?, hlt] at hu
theorem V_ok {α : Type} {d : Kd α} {e base n c : Nat} {W : World} {ok : Nat → Prop} {ad : Addr} {xs : List α} (h : Kd.V d e W base ok (.slice (some ad) n c) xs) (hn : 0 < xs.length) (hs : 0 < d.sz) : ok ad.block :=
  F_ok (Kd.V_at h).2.2 hn hs
theorem V_away {α : Type} {d : Kd α} {e base n c g : Nat} {W : World} {ok : Nat → Prop} {ad : Addr} {xs : List α} (h : Kd.V d e W base ok (.slice (some ad) n c) xs) (hn : 0 < xs.length) (hs : 0 < d.sz) (hok : ∀ k, ok k → k ≠ g) : some g ≠ (Value.slice (some ad) n c).ownBlock := by
  intro he
  have : g = ad.block := by simpa [Value.ownBlock] using he
  exact hok _ (V_ok h hn hs) this.symm
theorem clear_rest {P : Program} {α : Type} (d : Kd α) {W : World} (base : Nat) (t ty e : TypeId) (z : Value) (ht : P.underlying t = some (.slice e)) (hv : ∀ w, (zeroValue e).run P w = .ok z w) (hz : z.cells.size = d.sz) (hs0 : 0 < d.sz) (h1 : ∀ u ∈ z.cells.toList, u.oneCell' = true)
    {g i n c : Nat} {xs : List α} {ok : Nat → Prop} (HO : d.R e W base ok (.slice (some ⟨g, 0, none⟩) n c) xs) (hi : i < n) (c2 : Nat) {A : Addr} (hA : A = ⟨g, i * d.sz, none⟩) :
    ∃ w1, (Builtin.clear_ #[t] ty #[.slice (some A) (n - i) c2]).run P W = .ok (.tuple #[]) w1 ∧ d.R e w1 base ok (.slice (some ⟨g, 0, none⟩) i c) (xs.take i) ∧ W.grownBy w1 (some g) := by
  obtain ⟨hn, hnc, _⟩ := Kd.R_reads' HO
  have HT := Kd.R_take HO (m := i) (by omega)
  obtain ⟨hok, inner, hown, hr⟩ := HT
  subst hA
  rcases hown.2 with ⟨hv', _⟩ | ⟨g', cap', cur, hv', hb, hh, hle, hcm, hcs, htake⟩
  · cases hv'
  injection hv' with ha _ hc
  injection ha with ha
  injection ha with hg
  subst hg; subst hc
  have hil : (xs.take i).length = i := by rw [List.length_take]; omega
  obtain ⟨zs, hzs⟩ : ∃ zs, zs = (Builtin.zeroCells z.cells (n - i)).toList := ⟨_, rfl⟩
  have hzl : zs.length = (n - i) * d.sz := by rw [hzs]; simp [Builtin.zeroCells, hz]
  have hz1 : ∀ u ∈ zs, u.oneCell' = true := by
    intro u hu
    rw [hzs] at hu
    simp only [Builtin.zeroCells, Array.toList_map, List.mem_map] at hu
    obtain ⟨q, _, rfl⟩ := hu
    have hq : q % z.cells.size < z.cells.size := Nat.mod_lt _ (by omega)
    rw [getElem!_pos z.cells _ hq]
    exact h1 _ (by simp)
  have hsz : n * d.sz ≤ c * d.sz := Nat.mul_le_mul_right _ hnc
  have hsi : i * d.sz + (n - i) * d.sz = n * d.sz := by rw [← Nat.add_mul, Nat.add_sub_cancel' (by omega)]
  have hrun := run_storeCells_cells (P := P) g (i * d.sz) zs 0 W (fun j hj => by
      rw [cell_of_row W g _ cur e (0, 0) hh]; simp; omega) (fun j _ => blk_frozen hh _) hz1
  simp only [Nat.add_zero] at hrun
  obtain ⟨cur', h3, h4, h5⟩ := setCells_row zs (i * d.sz) W cur hh (by omega)
  obtain ⟨s1, s2, s3, s4⟩ := setCells_same g zs (i * d.sz) W
  have hfar : ∀ k', k' ≠ g → (W.setCells g (i * d.sz) zs).heap[k']? = W.heap[k']? := fun k' hk' => setCells_far _ _ k' hk'
  refine ⟨W.setCells g (i * d.sz) zs, ?_, ⟨hok, inner, ⟨hown.1, .inr ⟨g, c, cur', by rw [hil], hb, h3, by omega, hcm, by rw [h4, hcs], ?_⟩⟩, ?_⟩, ⟨s1, s2, s3, by rw [s4]; exact Nat.le_refl _, fun k' _ hk' => hfar k' (fun he => hk' (by rw [he]))⟩⟩
  · obtain ⟨m, hm⟩ : ∃ m, n - i = m + 1 := ⟨n - i - 1, by omega⟩
    rw [hm] at hzs ⊢
    simp [Builtin.clear_, run_underlying ht, hv, ← hzs, hrun]
  · have h6 : (cur.toList.take (i * d.sz)).length = i * d.sz := by
      rw [List.length_take, Array.length_toList, hcs]
      omega
    rw [← htake, hil, h5, List.append_assoc, List.take_left' h6]
  · exact hr.imp_ (fun p q hp => d.M_move (fun k' hk' => hfar k' (fun he => hk'.2 (by rw [he]; simp [Value.ownBlock]))) hp)
/-- What DeleteFunc has done when it has looked at j elements, i of which it keeps. -/
structure Kept1 {α : Type} (q : α → Bool) (l ys : List α) (i j : Nat) : Prop where
  len : ys.length = l.length
  lt : i < j
  le : j ≤ l.length
  low : ys.take i = (l.take j).filter q
  high : ys.drop j = l.drop j
theorem Kept1.start {α : Type} {q : α → Bool} {l : List α} {k : Nat} {x : α} (hx : l[k]? = some x) (hp : q x = false) (h : ∀ (t : Nat) (y : α), t < k → l[t]? = some y → q y = true) : Kept1 q l l k (k + 1) := by
  have hk := (List.getElem?_eq_some_iff.1 hx).1
  refine ⟨rfl, Nat.lt_succ_self _, hk, ?_, rfl⟩
  rw [List.take_add_one, hx, List.filter_append]
  have h1 : (l.take k).filter q = l.take k := by
    rw [List.filter_eq_self]
    intro y hy
    obtain ⟨t, ht⟩ := List.mem_iff_getElem?.1 hy
    have htk : t < k := by have := (List.getElem?_eq_some_iff.1 ht).1; rw [List.length_take] at this; omega
    rw [List.getElem?_take, if_pos htk] at ht
    exact h t y htk ht
  rw [h1]
  simp [hp]
theorem Kept1.at_ {α : Type} {q : α → Bool} {l ys : List α} {i j : Nat} {x : α} (h : Kept1 q l ys i j) (hx : ys[j]? = some x) : l[j]? = some x := by
  have h1 : (ys.drop j)[0]? = some x := by rw [List.getElem?_drop]; simpa using hx
  rw [h.high, List.getElem?_drop] at h1
  simpa using h1
theorem Kept1.skip {α : Type} {q : α → Bool} {l ys : List α} {i j : Nat} {x : α} (h : Kept1 q l ys i j) (hx : ys[j]? = some x) (hp : q x = false) : Kept1 q l ys i (j + 1) := by
  have hl := h.at_ hx
  have hj := (List.getElem?_eq_some_iff.1 hl).1
  refine ⟨h.len, by have := h.lt; omega, hj, ?_, ?_⟩
  · rw [List.take_add_one, hl, List.filter_append, ← h.low]
    simp [hp]
  · rw [← List.drop_drop, h.high, List.drop_drop]
theorem Kept1.keep {α : Type} {q : α → Bool} {l ys : List α} {i j : Nat} {x : α} (h : Kept1 q l ys i j) (hx : ys[j]? = some x) (hp : q x = true) : Kept1 q l (ys.set i x) (i + 1) (j + 1) := by
  have hl := h.at_ hx
  have hj := (List.getElem?_eq_some_iff.1 hl).1
  have hlt := h.lt
  have hlen := h.len
  refine ⟨by rw [List.length_set]; exact h.len, by omega, hj, ?_, ?_⟩
  · rw [List.take_add_one (i := j), hl, List.filter_append, ← h.low, List.take_add_one, List.take_set_of_le (by omega), List.getElem?_set_self (by omega)]
    simp [hp]
  · rw [List.drop_set_of_lt (by omega), ← List.drop_drop, h.high, List.drop_drop]
theorem Kept1.done {α : Type} {q : α → Bool} {l ys : List α} {i j : Nat} (h : Kept1 q l ys i j) (hj : j = l.length) : ys.take i = l.filter q := by
  rw [h.low, hj, List.take_length]
theorem filter_none {α : Type} {p : α → Bool} {l : List α} (h : idxBy p l = -1) : l.filter (fun x => !p x) = l := by
  rw [List.filter_eq_self]
  intro x hx
  unfold idxBy at h
  cases hf : l.findIdx? p with
  | none => rw [List.findIdx?_eq_none_iff] at hf; simp [hf x hx]
  | some k => rw [hf] at h; simp only at h; omega
theorem idxBy_found {α : Type} {p : α → Bool} {l : List α} (h : idxBy p l ≠ -1) : ∃ (k : Nat) (x : α), idxBy p l = k ∧ l[k]? = some x ∧ p x = true ∧ ∀ (t : Nat) (y : α), t < k → l[t]? = some y → p y = false := by
  unfold idxBy at h ⊢
  cases hf : l.findIdx? p with
  | none => rw [hf] at h; exact absurd rfl h
  | some k =>
    rw [List.findIdx?_eq_some_iff_getElem] at hf
    obtain ⟨hl, hp, hn⟩ := hf
    refine ⟨k, l[k], rfl, List.getElem?_eq_getElem hl, hp, fun t y ht hy => ?_⟩
    obtain ⟨htl, rfl⟩ := List.getElem?_eq_some_iff.1 hy
    simpa using hn t ht
end Go.Proofs.YtllmfahkiabkcaaG
