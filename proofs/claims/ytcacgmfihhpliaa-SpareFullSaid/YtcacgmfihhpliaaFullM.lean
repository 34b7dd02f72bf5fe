/- Plain facts on the swaps of one bank, one after the other. No program in sight. -/
import Derived.Test.YtcacgmfihhpliaaSpare11
namespace Go.Proofs.Ytcacgmfihhpliaa
set_option linter.unusedSimpArgs false
set_option linter.unusedVariables false
open Go.RowKit

/-- The first k rows of a bank, each with its spare row. -/
def fullL (p0 p1 p2 p3 lo : Int) (k : Nat) : List S8 := (List.range k).map fun (j : Nat) => ⟨p0, p1, p2, p3, 0, 0, (j : Int), lo + (j : Int)⟩
theorem fullL_len (p0 p1 p2 p3 lo : Int) (k : Nat) : (fullL p0 p1 p2 p3 lo k).length = k := by simp [fullL]
theorem fullL_succ (p0 p1 p2 p3 lo : Int) (k : Nat) : fullL p0 p1 p2 p3 lo (k + 1) = fullL p0 p1 p2 p3 lo k ++ [⟨p0, p1, p2, p3, 0, 0, (k : Int), lo + (k : Int)⟩] := by
  simp [fullL, List.range_succ]
theorem fullL_at (p0 p1 p2 p3 lo : Int) {k j : Nat} (h : j < k) : (fullL p0 p1 p2 p3 lo k)[j]! = ⟨p0, p1, p2, p3, 0, 0, (j : Int), lo + (j : Int)⟩ := by
  rw [getElem!_pos _ j (by rw [fullL_len]; exact h)]
  simp [fullL]
theorem fullL_take (p0 p1 p2 p3 lo : Int) {k j : Nat} (h : j ≤ k) : (fullL p0 p1 p2 p3 lo k).take j = fullL p0 p1 p2 p3 lo j := by
  unfold fullL
  rw [← List.map_take, List.take_range, Nat.min_eq_left h]
theorem fullL_R (p0 p1 p2 p3 lo : Int) (k r : Nat) : (fullL p0 p1 p2 p3 lo k).any (holdsR p0 p1 p2 p3 r) = decide (r < k) := by
  induction k with
  | zero => rfl
  | succ k ih =>
    rw [fullL_succ, List.any_append, ih]
    by_cases h : k = r
    · subst h; simp [holdsR]
    · have : holdsR p0 p1 p2 p3 (r : Int) ⟨p0, p1, p2, p3, 0, 0, (k : Int), lo + (k : Int)⟩ = false := by simp [holdsR]; omega
      rw [List.any_cons, List.any_nil, this, Bool.or_false, Bool.or_false]
      exact decide_eq_decide.2 (by omega)
theorem fullL_S (p0 p1 p2 p3 lo : Int) (k r : Nat) : (fullL p0 p1 p2 p3 lo k).any (holdsS p0 p1 p2 p3 (lo + (r : Int))) = decide (r < k) := by
  induction k with
  | zero => rfl
  | succ k ih =>
    rw [fullL_succ, List.any_append, ih]
    by_cases h : k = r
    · subst h; simp [holdsS]
    · have : holdsS p0 p1 p2 p3 (lo + (r : Int)) ⟨p0, p1, p2, p3, 0, 0, (k : Int), lo + (k : Int)⟩ = false := by simp [holdsS]; omega
      rw [List.any_cons, List.any_nil, this, Bool.or_false, Bool.or_false]
      exact decide_eq_decide.2 (by omega)
theorem fullL_free (p0 p1 p2 p3 lo : Int) (k : Nat) : ∀ m, freeK lo p0 p1 p2 p3 (fullL p0 p1 p2 p3 lo k) m = (List.range' k (m - k)).map fun (j : Nat) => lo + (j : Int)
  | 0 => by simp [freeK]
  | m + 1 => by
    rw [freeK_succ, fullL_free p0 p1 p2 p3 lo k m, fullL_S]
    by_cases h : m < k
    · rw [decide_eq_true h, if_pos rfl, show m + 1 - k = 0 by omega, show m - k = 0 by omega]; rfl
    · rw [decide_eq_false h, if_neg (by decide), show m + 1 - k = (m - k) + 1 by omega, List.range'_concat, List.map_append, show k + 1 * (m - k) = m by omega]
      rfl
theorem fullL_ok {a0 a1 a2 a3 a4 a5 n p0 p1 p2 p3 p4 p5 : Int} (h : SV a0 a1 a2 a3 a4 a5) (hn : 0 ≤ n ∧ n < rwz a4) (hp : PV a0 a1 a2 a3 a4 a5 p0 p1 p2 p3 p4 p5) {k c : Nat} (hk : k ≤ n.toNat) (hk2 : (k : Int) ≤ rwz a4 - n) (h16 : k ≤ 16) (hc : k ≤ c) :
    SpV a0 a1 a2 a3 a4 a5 n (fullL p0 p1 p2 p3 (rwz a4 - n) k) c := by
  refine ⟨h, hn, by rw [fullL_len]; exact h16, by rw [fullL_len]; exact hc, ?_⟩
  unfold allR
  rw [List.all_eq_true]
  intro j hj
  rw [fullL_len] at hj
  have hj := List.mem_range.1 hj
  unfold rightB
  rw [fullL_at _ _ _ _ _ hj, fullL_take _ _ _ _ _ (Nat.le_of_lt hj)]
  have h5 := pw_pos a5
  have q : rwz a4 = 2 ^ a4.toNat := rfl
  have e1 : PV a0 a1 a2 a3 a4 a5 p0 p1 p2 p3 (j : Int) 0 := ⟨hp.h0, hp.h1, hp.h2, hp.h3, by omega, by omega⟩
  have e2 : PV a0 a1 a2 a3 a4 a5 p0 p1 p2 p3 (rwz a4 - n + (j : Int)) 0 := ⟨hp.h0, hp.h1, hp.h2, hp.h3, by omega, by omega⟩
  have e3 : okS a0 a1 a2 a3 a4 a5 n ⟨p0, p1, p2, p3, 0, 0, (j : Int), rwz a4 - n + (j : Int)⟩ = true := by
    simp only [okS, Bool.and_eq_true, decide_eq_true_eq]
    exact ⟨⟨trivial, trivial⟩, e1, e2, by omega, by omega⟩
  rw [e3, Bool.true_and, Bool.not_eq_true', List.any_eq_false]
  intro t ht
  obtain ⟨i, hi, rfl⟩ := List.mem_map.1 ht
  have := List.mem_range.1 hi
  simp [clash]
  omega
theorem fullL_turn {p0 p1 p2 p3 p5 lo : Int} {r : Nat} (h : (r : Int) < lo) : turnR (fullL p0 p1 p2 p3 lo (r + 1)) ⟨p0, p1, p2, p3, (r : Int), p5⟩ = lo + (r : Int) := by
  have hf : (fullL p0 p1 p2 p3 lo (r + 1)).find? (hitS ⟨p0, p1, p2, p3, (r : Int), p5⟩) = some (fullL p0 p1 p2 p3 lo (r + 1))[r]! := find_at (by rw [fullL_len]; omega) (fun j hj => by
    rw [fullL_at _ _ _ _ _ (by omega)]
    simp [hitS]
    omega) (by rw [fullL_at _ _ _ _ _ (by omega)]; simp [hitS])
  unfold turnR
  rw [hf, fullL_at _ _ _ _ _ (by omega)]
  simp
end Go.Proofs.Ytcacgmfihhpliaa
