/- Programs as an argument, opened: a slice of structs that hold slices. -/
import Derived.Test.YthpoanlmaafanaaOpenR
import Derived.Test.YthpoanlmaafanaaLawZ
import Derived.Test.YthpoanlmaafanaaPgs
namespace Go.Proofs.Ythpoanlmaafanaa
set_option linter.unusedSimpArgs false
set_option linter.unusedVariables false
open Go.RowKit Go.WideShapes Go.ChangeShapes Go.ChangeAt
set_option maxRecDepth 100000

section
variable {H : Type} {enc : TypeId × Value → H} {P : Program} {w : World} {base : Nat} {sp : Nat → Bool} {held : Bool}
/-- A slice whose elements are opened by a law of their own. -/
theorem open_els {t e : TypeId} (ht : P.underlying t = some (.slice e)) {k : Nat} (hz : P.cellsOf e = k) (hpos : 0 < k) {α : Type} [Inhabited α] (en : α → List Value) (X : α → Prop) (hlen : ∀ a, (en a).length = k)
    (hen : ∀ (n : Nat) (vs : List Value) (x : DataW H × List MemPlace), DataW.trod enc P w base sp held n e vs = some x → ∃ a, en a = vs ∧ X a)
    {fuel : Nat} {cs : List Value} {x : DataW H × List MemPlace} (h : DataW.trod enc P w base sp held fuel t cs = some x) :
    ∃ (sa : Option Addr) (cap : Nat) (xs : List α), cs = [.slice sa xs.length cap] ∧ (xs.length ≤ cap ∧ (sa = none → cap = 0)) ∧ cap ≤ maxLen ∧ Lies w w.heap.size sa k xs.length (fun j => en xs[j]!) ∧ ∀ a ∈ xs, X a := by
  rcases DataW.trod_slice ht h with ⟨rfl, -⟩ | ⟨a, len, cap, elems, rest, n, -, rfl, -, -, hl, hm, hlen2, hel, -⟩
  · exact ⟨none, 0, [], rfl, ⟨Nat.le_refl _, fun _ => rfl⟩, Nat.zero_le _, Lies.nil0, fun a ha => absurd ha List.not_mem_nil⟩
  · obtain ⟨xs, hxl, hxs⟩ := choose_list (α := α) (Q := fun i y => X y ∧ ∀ j u, (en y)[j]? = some u → w.cell? (a.add (i * k + j)) = some u) len fun i hi => by
      have h1 := hel i hi
      rw [List.getElem?_eq_getElem (by omega)] at h1
      obtain ⟨vs, h2, h3⟩ := Option.bind_eq_some_iff.1 h1
      obtain ⟨-, h4, h5⟩ := World.cells?_some h2
      obtain ⟨y, rfl, hX⟩ := hen n vs _ h3
      refine ⟨y, hX, fun j u hu => ?_⟩
      have hj : j < (en y).length := (List.getElem?_eq_some_iff.1 hu).1
      have h7 := h5 j (by omega)
      rw [hu, hz] at h7
      rw [← h7]
      congr 1
      exact (Addr.add_add a _ _).symm
    subst hxl
    refine ⟨some a, cap, xs, rfl, ⟨hl, fun e => by cases e⟩, hm, fun i hi => ?_, fun y hy => ?_⟩
    · obtain ⟨-, hc⟩ := hxs i hi
      obtain ⟨-, hc0⟩ := hxs 0 (by omega)
      obtain ⟨b, o, s⟩ := a
      obtain ⟨u0, hu0⟩ : ∃ u, (en xs[0]!)[0]? = some u := ⟨_, List.getElem?_eq_getElem (by rw [hlen]; exact hpos)⟩
      have hcell := hc0 0 u0 hu0
      have hadd0 : Addr.add ⟨b, o, s⟩ (0 * k + 0) = ⟨b, o, s⟩ := by simp [Addr.add]
      rw [hadd0] at hcell
      have hs : s = none := by
        unfold World.cell? at hcell
        split at hcell
        · cases s with
          | none => rfl
          | some _ => simp at hcell
        · cases hcell
      subst hs
      have hb : b < w.heap.size := by
        unfold World.cell? at hcell
        split at hcell
        · rename_i hh
          exact lt_of_heap hh
        · cases hcell
      refine ⟨b, o, rfl, hb, fun j u hu => ?_⟩
      have := hc j u hu
      rwa [Addr.add_lit, ← Nat.add_assoc] at this
    · obtain ⟨i, hi, rfl⟩ := List.getElem_of_mem hy
      have := (hxs i hi).1
      rwa [getElem!_pos xs i hi] at this
end
section
variable {H : Type} {enc : TypeId × Value → H} {w : World} {base : Nat} {sp : Nat → Bool} {held : Bool}
theorem open_int1 {n : Nat} {vs : List Value} {x : DataW H × List MemPlace} (h : DataW.trod enc Try.prog w base sp held n 3 vs = some x) : ∃ a, iC a = vs ∧ True := by
  obtain ⟨p, e0, -, -⟩ := DataW.trod_int (k := .i64) (by kernel_rfl) h
  exact ⟨p, e0.symm, trivial⟩
end
end Go.Proofs.Ythpoanlmaafanaa
