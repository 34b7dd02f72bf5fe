/- An argument that is a slice of structs of numbers, opened: what lies in memory. -/
import Derived.Test.YtdhnpjgnnfgklaaOpen
import Derived.Test.YtdhnpjgnnfgklaaK2
namespace Go.Proofs.Ytdhnpjgnnfgklaa
set_option linter.unusedSimpArgs false
set_option linter.unusedVariables false
open Go.RowKit Go.WideShapes

section
variable {H : Type} {enc : TypeId × Value → H} {P : Program} {w : World} {base : Nat} {sp : Nat → Bool} {held : Bool}
theorem open_rows {t e : TypeId} (ht : P.underlying t = some (.slice e)) (ks : List CellKind) (hk : kindsOf P 8 e = some ks) (hz : P.cellsOf e = ks.length) {fuel : Nat} {cs : List Value} {x : DataW H × List MemPlace} (h : DataW.trod enc P w base sp held fuel t cs = some x) :
    ∃ (sa : Option Addr) (len cap : Nat), cs = [.slice sa len cap] ∧ len ≤ cap ∧ cap ≤ maxLen ∧ ∀ i, i < len → ∃ a vs, sa = some a ∧ Kinds ks vs ∧ ∀ j u, vs[j]? = some u → w.cell? (a.add (i * ks.length + j)) = some u := by
  rcases DataW.trod_slice ht h with ⟨rfl, -⟩ | ⟨a, len, cap, elems, rest, n, -, rfl, -, -, hl, hm, hlen, hel, -⟩
  · exact ⟨none, 0, 0, rfl, Nat.le_refl _, Nat.zero_le _, fun i hi => absurd hi (Nat.not_lt_zero _)⟩
  · refine ⟨some a, len, cap, rfl, hl, hm, fun i hi => ?_⟩
    have h1 := hel i hi
    rw [List.getElem?_eq_getElem (by omega)] at h1
    obtain ⟨vs, h2, h3⟩ := Option.bind_eq_some_iff.1 h1
    obtain ⟨-, h4, h5⟩ := World.cells?_some h2
    have h6 := kinds_trod 8 n e ks vs _ hk hz h3
    refine ⟨a, vs, rfl, h6, fun j u hu => ?_⟩
    have hj : j < vs.length := (List.getElem?_eq_some_iff.1 hu).1
    have h7 := h5 j (by omega)
    rw [hu, hz] at h7
    rw [← h7]
    congr 1
    exact (Addr.add_add a _ _).symm
theorem choose_list {α : Type} [Inhabited α] {Q : Nat → α → Prop} : ∀ n, (∀ i, i < n → ∃ x, Q i x) → ∃ xs : List α, xs.length = n ∧ ∀ i, i < n → Q i xs[i]!
  | 0, _ => ⟨[], rfl, fun i hi => absurd hi (Nat.not_lt_zero _)⟩
  | n + 1, h => by
    obtain ⟨xs, hl, hx⟩ := choose_list n (fun i hi => h i (by omega))
    obtain ⟨x, hq⟩ := h n (by omega)
    refine ⟨xs ++ [x], by simp [hl], fun i hi => ?_⟩
    by_cases e : i < n
    · rw [getElem!_pos _ i (by simp [hl]; omega), List.getElem_append_left (by omega), ← getElem!_pos xs i (by omega)]
      exact hx i e
    · obtain rfl : i = n := by omega
      rw [getElem!_pos _ i (by simp [hl])]
      simpa [hl] using hq
/-- What lies there, said by the elements themselves. -/
theorem open_rows_lies {t e : TypeId} (ht : P.underlying t = some (.slice e)) (ks : List CellKind) (hk : kindsOf P 8 e = some ks) (hz : P.cellsOf e = ks.length) (hpos : 0 < ks.length) {α : Type} [Inhabited α] (en : α → List Value) (hen : ∀ vs, Kinds ks vs → ∃ x, en x = vs)
    {fuel : Nat} {cs : List Value} {x : DataW H × List MemPlace} (h : DataW.trod enc P w base sp held fuel t cs = some x) :
    ∃ (sa : Option Addr) (cap : Nat) (xs : List α), cs = [.slice sa xs.length cap] ∧ xs.length ≤ cap ∧ cap ≤ maxLen ∧ Lies w w.heap.size sa ks.length xs.length (fun j => en xs[j]!) := by
  obtain ⟨sa, len, cap, rfl, hl, hm, hall⟩ := open_rows ht ks hk hz h
  obtain ⟨xs, hxl, hxs⟩ := choose_list (α := α) (Q := fun i x => ∃ a, sa = some a ∧ ∀ j u, (en x)[j]? = some u → w.cell? (a.add (i * ks.length + j)) = some u) len fun i hi => by
    obtain ⟨a, vs, h1, h2, h3⟩ := hall i hi
    obtain ⟨x, rfl⟩ := hen vs h2
    exact ⟨x, a, h1, h3⟩
  subst hxl
  refine ⟨sa, cap, xs, rfl, hl, hm, fun i hi => ?_⟩
  obtain ⟨a, rfl, hc⟩ := hxs i hi
  obtain ⟨a0, vs0, e0, h20, h30⟩ := hall 0 (by omega)
  obtain rfl : a = a0 := by simpa using e0
  obtain ⟨b, o, s⟩ := a
  have hlen0 := h20.length
  obtain ⟨u0, hu0⟩ : ∃ u, vs0[0]? = some u := ⟨_, List.getElem?_eq_getElem (by omega)⟩
  have hcell := h30 0 u0 hu0
  have hadd0 : Addr.add ⟨b, o, s⟩ (0 * ks.length + 0) = ⟨b, o, s⟩ := by simp [Addr.add]
  rw [hadd0] at hcell
  have hs : s = none := by
    unfold World.cell? at hcell
    split at hcell
    · cases s with
      | none => rfl
      | some _ => simp at hcell
    · cases hcell
  subst hs
  have hb : b < w.heap.size := by
    unfold World.cell? at hcell
    split at hcell
    · rename_i hh
      exact lt_of_heap hh
    · cases hcell
  refine ⟨b, o, rfl, hb, fun j u hu => ?_⟩
  have := hc j u hu
  rwa [Addr.add_lit, ← Nat.add_assoc] at this
end
end Go.Proofs.Ytdhnpjgnnfgklaa
