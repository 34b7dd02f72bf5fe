/- Plain laws for the statement PartDivides: the classes of an equivalence on the numbers below n, counted class by class, at the class's least number: every number is counted once. -/
import Derived.Test.YtaeockopliplfaaDoorCovd
namespace Go.Proofs.YtaeockopliplfaaDoor
set_option linter.unusedSimpArgs false
set_option linter.unusedVariables false
open Go.RowKit
set_option maxRecDepth 100000

/-- An equivalence on numbers, as a test. -/
structure EqvB (r : Nat → Nat → Bool) : Prop where
  refl : ∀ i, r i i = true
  symm : ∀ i j, r i j = true → r j i = true
  trans : ∀ i j k, r i j = true → r j k = true → r i k = true
def clsL (r : Nat → Nat → Bool) (n i : Nat) : List Nat := (List.range n).filter (r i)
/-- Has number j's class been met by a number below i? -/
def metB (r : Nat → Nat → Bool) (i j : Nat) : Bool := (List.range i).any fun m => r m j
def gO (r : Nat → Nat → Bool) (i j : Nat) : Int := if metB r i j then 1 else 0
def gI (r : Nat → Nat → Bool) (n i k j : Nat) : Int := gO r i j + if j ∈ (clsL r n i).take k then 1 else 0

theorem mem_cls {r : Nat → Nat → Bool} {n i j : Nat} : j ∈ clsL r n i ↔ j < n ∧ r i j = true := by simp [clsL]
theorem metB_iff {r : Nat → Nat → Bool} {i j : Nat} : metB r i j = true ↔ ∃ m, m < i ∧ r m j = true := by simp [metB]
theorem cls_sorted (r : Nat → Nat → Bool) (n i : Nat) : (clsL r n i).Pairwise (· < ·) := List.Pairwise.filter _ List.pairwise_lt_range
theorem cls_pos {r : Nat → Nat → Bool} (h : EqvB r) {n i : Nat} (hi : i < n) : 0 < (clsL r n i).length := List.length_pos_of_mem (mem_cls.2 ⟨hi, h.refl i⟩)
/-- The first of the list is its least. -/
theorem cls_head {r : Nat → Nat → Bool} (h : EqvB r) {n i : Nat} (hi : i < n) : ∃ a, (clsL r n i)[0]? = some a ∧ r i a = true ∧ a < n ∧ (∀ m, m < n → r i m = true → a ≤ m) := by
  have hp := cls_pos h hi
  have hm := mem_cls.1 (List.getElem_mem (h := hp))
  refine ⟨(clsL r n i)[0], by simp [hp], hm.2, hm.1, fun m hm1 hm2 => ?_⟩
  have hmem : m ∈ clsL r n i := mem_cls.2 ⟨hm1, hm2⟩
  obtain ⟨k, hk, rfl⟩ := List.getElem_of_mem hmem
  rcases Nat.eq_zero_or_pos k with rfl | hk0
  · exact Nat.le_refl _
  · exact Nat.le_of_lt (List.pairwise_iff_getElem.1 (cls_sorted r n i) 0 k hp hk hk0)
theorem gO_skip {r : Nat → Nat → Bool} (h : EqvB r) {n i a : Nat} (hi : i < n) (ha : (clsL r n i)[0]? = some a) (hne : a ≠ i) (j : Nat) : gO r (i + 1) j = gO r i j := by
  obtain ⟨a', ha', h1, h2, h3⟩ := cls_head h hi
  obtain rfl : a = a' := by rw [ha] at ha'; exact Option.some.inj ha'
  have hlt : a < i := by have := h3 i hi (h.refl i); omega
  have : metB r (i + 1) j = metB r i j := by
    apply Bool.eq_iff_iff.2
    rw [metB_iff, metB_iff]
    constructor
    · rintro ⟨m, hm, hr⟩
      rcases Nat.lt_succ_iff_lt_or_eq.1 hm with hm | rfl
      · exact ⟨m, hm, hr⟩
      · exact ⟨a, hlt, h.trans _ _ _ (h.symm _ _ h1) hr⟩
    · rintro ⟨m, hm, hr⟩; exact ⟨m, by omega, hr⟩
  simp [gO, this]
theorem gI_zero (r : Nat → Nat → Bool) (n i j : Nat) : gI r n i 0 j = gO r i j := by simp [gI]
theorem gI_last {r : Nat → Nat → Bool} (h : EqvB r) {n i : Nat} (hi : i < n) (ha : (clsL r n i)[0]? = some i) (j : Nat) (hj : j < n) : gI r n i (clsL r n i).length j = gO r (i + 1) j := by
  obtain ⟨a', ha', h1, h2, h3⟩ := cls_head h hi
  obtain rfl : i = a' := by rw [ha] at ha'; exact Option.some.inj ha'
  unfold gI
  rw [List.take_length]
  by_cases hr : r i j = true
  · have h0 : metB r i j = false := by
      apply Bool.eq_false_iff.2
      intro hm
      obtain ⟨m, hm, hr'⟩ := metB_iff.1 hm
      have := h3 m (by omega) (h.trans _ _ _ hr (h.symm _ _ hr'))
      omega
    have h4 : metB r (i + 1) j = true := metB_iff.2 ⟨i, by omega, hr⟩
    have h5 : j ∈ clsL r n i := mem_cls.2 ⟨hj, hr⟩
    simp [gO, h0, h4, h5]
  · have h4 : metB r (i + 1) j = metB r i j := by
      apply Bool.eq_iff_iff.2
      rw [metB_iff, metB_iff]
      constructor
      · rintro ⟨m, hm, hr'⟩
        rcases Nat.lt_succ_iff_lt_or_eq.1 hm with hm | rfl
        · exact ⟨m, hm, hr'⟩
        · exact absurd hr' hr
      · rintro ⟨m, hm, hr'⟩; exact ⟨m, by omega, hr'⟩
    have h5 : j ∉ clsL r n i := fun hm => hr (mem_cls.1 hm).2
    simp [gO, h4, h5]
theorem gI_step {r : Nat → Nat → Bool} {n i k l : Nat} (hl : (clsL r n i)[k]? = some l) (j : Nat) : gI r n i (k + 1) j = if j = l then gI r n i k j + 1 else gI r n i k j := by
  obtain ⟨hk, rfl⟩ := List.getElem?_eq_some_iff.1 hl
  have ht : (clsL r n i).take (k + 1) = (clsL r n i).take k ++ [(clsL r n i)[k]] := by rw [List.take_succ_eq_append_getElem hk]
  have hnot : (clsL r n i)[k] ∉ (clsL r n i).take k := by
    intro hm
    obtain ⟨m, hm1, hm2⟩ := List.getElem_of_mem hm
    rw [List.getElem_take] at hm2
    have hmk : m < k := by simp at hm1; omega
    have := List.pairwise_iff_getElem.1 (cls_sorted r n i) m k (by omega) hk hmk
    omega
  have hmem : (j ∈ (clsL r n i).take (k + 1)) ↔ (j ∈ (clsL r n i).take k ∨ j = (clsL r n i)[k]) := by rw [ht, List.mem_append, List.mem_singleton]
  unfold gI
  by_cases hj : j = (clsL r n i)[k]
  · rw [if_pos (hmem.2 (.inr hj)), if_pos hj, if_neg (by rw [hj]; exact hnot)]; omega
  · rw [if_neg hj]
    congr 1
    by_cases hm : j ∈ (clsL r n i).take k
    · rw [if_pos hm, if_pos (hmem.2 (.inl hm))]
    · rw [if_neg hm, if_neg (fun x => (hmem.1 x).elim hm hj)]
theorem gO_all {r : Nat → Nat → Bool} (h : EqvB r) {n j : Nat} (hj : j < n) : gO r n j = 1 := by
  have : metB r n j = true := metB_iff.2 ⟨j, hj, h.refl j⟩
  simp [gO, this]
theorem gO_in (r : Nat → Nat → Bool) (i j : Nat) : 0 ≤ gO r i j ∧ gO r i j ≤ 1 := by unfold gO; split <;> omega
theorem gI_in (r : Nat → Nat → Bool) (n i k j : Nat) : 0 ≤ gI r n i k j ∧ gI r n i k j ≤ 2 := by
  have := gO_in r i j
  unfold gI; split <;> omega
theorem gO_zero (r : Nat → Nat → Bool) (j : Nat) : gO r 0 j = 0 := by simp [gO, metB]

/-- A row of numbers as the cells of a block. -/
def rowOf (g : Nat → Int) (n : Nat) : Array Value := ((List.range n).map fun j => Value.int .i64 (g j)).toArray
theorem rowOf_at {g : Nat → Int} {n j : Nat} (hj : j < n) : (rowOf g n)[j]? = some (.int .i64 (g j)) := by
  simp [rowOf, hj]
theorem rowOf_set {g g' : Nat → Int} {n l : Nat} {v : Int} (h : ∀ j, j < n → g' j = if j = l then v else g j) : (rowOf g n).setIfInBounds l (.int .i64 v) = rowOf g' n := by
  apply Array.ext_getElem?
  intro j
  rw [Array.getElem?_setIfInBounds]
  by_cases hj : j < n
  · rw [rowOf_at hj, rowOf_at hj, h j hj]
    by_cases e : l = j
    · subst e; simp [rowOf, hj]
    · rw [if_neg e, if_neg (fun x => e x.symm)]
  · have : n ≤ j := by omega
    split
    · rw [if_neg (by simp [rowOf]; omega)]; simp [rowOf, this]
    · simp [rowOf, this]
theorem rowOf_ext {g g' : Nat → Int} {n : Nat} (h : ∀ j, j < n → g j = g' j) : rowOf g n = rowOf g' n := by
  unfold rowOf
  congr 1
  apply List.map_congr_left
  intro j hj
  rw [h j (by simpa using hj)]
theorem made_row (n : Nat) : madeCells #[.int .i64 0] n = rowOf (fun _ => 0) n := by
  apply Array.ext_getElem?
  intro j
  by_cases hj : j < n
  · rw [rowOf_at hj]; simp [madeCells, hj, Nat.mod_one]
  · have : n ≤ j := by omega
    simp [madeCells, rowOf, this]

/-- Reading one's own row of numbers. -/
theorem IntRow.at {w : World} {B : Nat} {v : Value} {l : List Nat} (h : IntRow w B v l) (hp : 0 < l.length) : ∃ g cap, v = .slice (some ⟨g, 0, none⟩) l.length cap ∧ B ≤ g ∧ g < w.heap.size ∧ ∀ (k x : Nat), l[k]? = some x → w.cell? ⟨g, k, none⟩ = some (.int .i64 x) := by
  obtain ⟨h1, h2⟩ := h
  rcases h2 with ⟨_, h2⟩ | ⟨g, cap, cur, hv, hg, hh, hn, hc, hz, ht⟩
  · simp at h2; simp [h2] at hp
  · refine ⟨g, cap, hv, hg, lt_of_heap hh, fun k x hx => ?_⟩
    have hk := (List.getElem?_eq_some_iff.1 hx).1
    have : (cur.toList.take (l.length * 1))[k]? = some (intV x) := by rw [ht]; simp [hx]
    simp only [Nat.mul_one, List.getElem?_take, if_pos hk] at this
    simp [World.cell?, hh]
    simpa [intV] using this

/-- A fault covers words of its own place's part: an equivalence. -/
theorem CV_eqv (a0 a1 a2 a3 a4 a5 k : Int) : EqvB fun i j => covB a0 a1 a2 a3 a4 a5 k (atF a0 a1 a2 a3 a4 a5 i).a (atF a0 a1 a2 a3 a4 a5 i).b (atF a0 a1 a2 a3 a4 a5 i).c (atF a0 a1 a2 a3 a4 a5 i).d (atF a0 a1 a2 a3 a4 a5 i).e (atF a0 a1 a2 a3 a4 a5 i).f j := by
  refine ⟨fun i => ?_, fun i j h => ?_, fun i j l h h' => ?_⟩
  · exact decide_eq_true ⟨rfl, rfl, fun _ => rfl, fun _ => rfl, fun _ => rfl, fun _ => rfl⟩
  · have h := of_decide_eq_true h
    exact decide_eq_true ⟨h.h0.symm, h.h1.symm, fun x => (h.h2 x).symm, fun x => (h.h3 x).symm, fun x => (h.h4 x).symm, fun x => (h.h5 x).symm⟩
  · have h := of_decide_eq_true h
    have h' := of_decide_eq_true h'
    exact decide_eq_true ⟨h.h0.trans h'.h0, h.h1.trans h'.h1, fun x => (h.h2 x).trans (h'.h2 x), fun x => (h.h3 x).trans (h'.h3 x), fun x => (h.h4 x).trans (h'.h4 x), fun x => (h.h5 x).trans (h'.h5 x)⟩
end Go.Proofs.YtaeockopliplfaaDoor
