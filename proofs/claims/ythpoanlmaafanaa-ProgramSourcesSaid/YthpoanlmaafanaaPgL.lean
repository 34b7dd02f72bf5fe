/- The pages of programs as a list: plain words. -/
import Derived.Test.YthpoanlmaafanaaPgS
namespace Go.Proofs.Ythpoanlmaafanaa
set_option linter.unusedSimpArgs false
set_option linter.unusedVariables false
open Go.RowKit

def lexU (x y : Int × Int) : Prop := x.1 < y.1 ∨ x.1 = y.1 ∧ x.2 < y.2
/-- The pages in order, each once. -/
structure Uq (f : PgF) (us : List (Int × Int)) : Prop where
  asc : us.Pairwise lexU
  mem : ∀ x, x ∈ us ↔ f x ≠ none
theorem lexU_irr (x : Int × Int) : ¬ lexU x x := fun h => by rcases h with h | ⟨-, h⟩ <;> omega
theorem lexU_asymm {x y : Int × Int} (h : lexU x y) : ¬ lexU y x := fun h' => by
  unfold lexU at h h'
  omega
theorem lexU_nodup {us : List (Int × Int)} (h : us.Pairwise lexU) : us.Nodup := h.imp fun hxy e => by subst e; exact lexU_irr _ hxy
theorem eq_of_lex : ∀ {l1 l2 : List (Int × Int)}, l1.Pairwise lexU → l2.Pairwise lexU → (∀ x, x ∈ l1 ↔ x ∈ l2) → l1 = l2
  | [], [], _, _, _ => rfl
  | [], y :: l2, _, _, h => absurd ((h y).2 (by simp)) List.not_mem_nil
  | x :: l1, [], _, _, h => absurd ((h x).1 (by simp)) List.not_mem_nil
  | x :: l1, y :: l2, h1, h2, h => by
    rw [List.pairwise_cons] at h1 h2
    have hxy : x = y := by
      rcases List.mem_cons.1 ((h x).1 (by simp)) with e | e
      · exact e
      · rcases List.mem_cons.1 ((h y).2 (by simp)) with e' | e'
        · exact e'.symm
        · exact absurd (h1.1 y e') (lexU_asymm (h2.1 x e))
    subst hxy
    rw [eq_of_lex h1.2 h2.2 fun z => ?_]
    constructor
    · intro hz
      rcases List.mem_cons.1 ((h z).1 (by simp [hz])) with e | e
      · subst e; exact absurd (h1.1 z hz) (lexU_irr z)
      · exact e
    · intro hz
      rcases List.mem_cons.1 ((h z).2 (by simp [hz])) with e | e
      · subst e; exact absurd (h2.1 z hz) (lexU_irr z)
      · exact e
theorem Uq.eq {f g : PgF} {us vs : List (Int × Int)} (h : Uq f us) (k : Uq g vs) (e : ∀ x, f x = none ↔ g x = none) : us = vs :=
  eq_of_lex h.asc k.asc fun x => by rw [h.mem, k.mem, Ne, Ne, e]
/-- The pages lie in the box of numbers. -/
def BoxF (f : PgF) : Prop := ∀ p g, f (p, g) ≠ none → 1 ≤ p ∧ p ≤ 999 ∧ 0 ≤ g ∧ g ≤ 999
theorem noF_box : BoxF noF := fun p g h => absurd rfl h
theorem means_box {x : Ox} (h : meansO x = true) : 1 ≤ x.p ∧ x.p ≤ 999 ∧ 0 ≤ x.g ∧ x.g ≤ 999 := by
  unfold meansO validO at h
  simp only [Bool.and_eq_true, inB_t] at h
  omega
theorem means_o {x : Ox} (h : meansO x = true) (hk : x.k = 4) : 1 ≤ x.o ∧ x.o ≤ 999 := by
  unfold meansO validO at h
  simp only [Bool.and_eq_true] at h
  obtain ⟨-, h⟩ := h
  rw [hk] at h
  simp only [show ¬ ((4 : Int) = 1) by decide, show ¬ ((4 : Int) = 2) by decide, show ¬ ((4 : Int) = 3 ∨ (4 : Int) = 5 ∨ (4 : Int) = 6) by decide, if_false, if_true, Bool.and_eq_true, inB_t] at h
  exact h.1.1.1.1
theorem doF_box {i : Int} {x : Ox} {f : PgF} (h : BoxF f) : BoxF (doF i x f) := by
  intro p g hp
  unfold doF at hp
  cases hm : meansO x with
  | false => rw [if_pos hm] at hp; exact h p g hp
  | true =>
    rw [if_neg (by rw [hm]; decide)] at hp
    have hb := means_box hm
    split at hp
    · dsimp only at hp
      split at hp
      · rename_i h1
        obtain ⟨h1, -⟩ := h1
        injection h1 with e1 e2
        subst e1 e2
        exact hb
      · exact h p g hp
    · split at hp
      · dsimp only at hp
        split at hp
        · exact absurd rfl hp
        · exact h p g hp
      · split at hp
        · dsimp only at hp
          split at hp
          · rename_i h1
            injection h1 with e1 e2
            subst e1 e2
            exact hb
          · exact h p g hp
        · split at hp
          · rename_i h4
            unfold forkF at hp
            split at hp
            · rename_i h1
              have := h _ _ hp
              have ho := means_o hm h4
              dsimp only at h1
              omega
            · exact h p g hp
          · exact h p g hp
theorem runF_box : ∀ (l : List Ox) (k : Nat) {f : PgF}, BoxF f → BoxF (runF k l f)
  | [], _, _, h => h
  | x :: l, k, f, h => runF_box l (k + 1) (doF_box h)
theorem nodup_lt : ∀ (n : Nat) (xs : List Nat), xs.Nodup → (∀ x ∈ xs, x < n) → xs.length ≤ n
  | 0, xs, _, h => by
    cases xs with
    | nil => exact Nat.le_refl _
    | cons x xs => exact absurd (h x (by simp)) (Nat.not_lt_zero _)
  | n + 1, xs, hn, h => by
    by_cases hm : n ∈ xs
    · have h1 := nodup_lt n (xs.erase n) (hn.erase n) fun x hx => by
        have h2 := (hn.mem_erase_iff).1 hx
        have := h x h2.2
        omega
      rw [List.length_erase_of_mem hm] at h1
      omega
    · have h1 := nodup_lt n xs hn fun x hx => by
        have := h x hx
        have : x ≠ n := fun e => hm (e ▸ hx)
        omega
      omega
theorem box_len {us : List (Int × Int)} (hn : us.Nodup) (h : ∀ x ∈ us, 1 ≤ x.1 ∧ x.1 ≤ 999 ∧ 0 ≤ x.2 ∧ x.2 ≤ 999) : us.length ≤ 999000 := by
  have h1 := nodup_lt 999000 (us.map fun x => ((x.1 - 1) * 1000 + x.2).toNat) ?_ ?_
  · simpa using h1
  · show List.Pairwise (· ≠ ·) _
    rw [List.pairwise_map]
    refine List.Pairwise.imp_of_mem ?_ (show us.Pairwise (· ≠ ·) from hn)
    intro a b ha hb hne e
    have h1 := h a ha
    have h2 := h b hb
    refine hne (Prod.ext ?_ ?_) <;> omega
  · intro y hy
    obtain ⟨x, hx, rfl⟩ := List.mem_map.1 hy
    have := h x hx
    omega
end Go.Proofs.Ythpoanlmaafanaa
