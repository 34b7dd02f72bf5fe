/- A cell of a slice of one's own is stored to. -/
import Derived.Test.YtfmcicmbehjdcaaRow
namespace Go.Proofs.Ytfmcicmbehjdcaa
set_option linter.unusedSimpArgs false
set_option linter.unusedVariables false
open Go.RowKit
theorem HS.rowSet {D : Nat → Prop} {W w : World} {L : List Item} (h : HS D W L w) (i : Nat) {g n cap k : Nat} {e : TypeId} {xs : List Value} (hi : L[i]? = some (.row (.slice (some ⟨g, 0, none⟩) n cap) e k n xs)) (j : Nat) (u : Value) :
    HS D W (L.set i (.row (.slice (some ⟨g, 0, none⟩) n cap) e k n (xs.set j u))) (w.setCell ⟨g, j, none⟩ u) := by
  rw [set_at _ hi]
  rw [split_at hi] at h
  have h1 : w.ownsRow 0 e k (.slice (some ⟨g, 0, none⟩) n cap) n xs := h.ok (.row (.slice (some ⟨g, 0, none⟩) n cap) e k n xs) (by simp)
  exact h.swap (X := .row (.slice (some ⟨g, 0, none⟩) n cap) e k n xs) (Y := .row (.slice (some ⟨g, 0, none⟩) n cap) e k n (xs.set j u)) rfl rfl rfl (by simp [World.setCell]) (fun b hb hn => Below.heap_setCell _ _ _ _ (fun e => hn (by rw [e]; rfl))) (World.ownsRow.stored h1 j u).1 (fun b hb => .inl hb) (.inr rfl)
theorem flat_set {α : Type} [Inhabited α] {enc : α → List Value} {k : Nat} (hk : ∀ x, (enc x).length = k) : ∀ (xs : List α) (j m : Nat) (x' : α) (u : Value), j < xs.length → m < k → enc x' = (enc xs[j]!).set m u → (xs.set j x').flatMap enc = (xs.flatMap enc).set (j * k + m) u
  | [], j, _, _, _, h, _, _ => by simp at h
  | x :: xs, 0, m, x', u, _, hm, h => by
    rw [List.set_cons_zero, List.flatMap_cons, List.flatMap_cons, Nat.zero_mul, Nat.zero_add, List.set_append_left _ _ (by rw [hk]; exact hm)]
    rw [h]; rfl
  | x :: xs, j + 1, m, x', u, hj, hm, h => by
    have := flat_set hk xs j m x' u (by simpa using hj) hm (by simpa using h)
    rw [List.set_cons_succ, List.flatMap_cons, List.flatMap_cons, this, List.set_append_right _ _ (by rw [hk, Nat.succ_mul]; omega), hk]
    rw [show (j + 1) * k + m - k = j * k + m by rw [Nat.succ_mul]; omega]
end Go.Proofs.Ytfmcicmbehjdcaa
