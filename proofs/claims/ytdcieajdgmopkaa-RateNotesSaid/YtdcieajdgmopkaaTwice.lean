/- The statement RateTwice: its walk. -/
import Derived.Test.YtdcieajdgmopkaaRate6
import Derived.Test.YtdcieajdgmopkaaMillG
namespace Go.Proofs.Ytdcieajdgmopkaa
set_option linter.unusedSimpArgs false
set_option linter.unusedVariables false
open Go.RowKit
set_option maxRecDepth 100000
attribute [local go_sem] lt_more ne_more ne_more'
attribute [local irreducible] wpX wpF

theorem leakG_twice {P a b : Int} {x : G3} (hP : 1 ≤ P) (hab : a ≤ b) : (leakG P a x).bind (leakG P b) = leakG P b x := by
  obtain ⟨p, l, t⟩ := x
  by_cases h : t ≤ a
  · have h1 := leakN_in (x := ⟨p, l, t⟩) hP h
    have h2 := leakN_in (x := ⟨p, l, t⟩) (T := b) hP (by dsimp only; omega)
    have e : leakN P b ⟨p, l - leakN P a ⟨p, l, t⟩, t + leakN P a ⟨p, l, t⟩ * P⟩ = leakN P b ⟨p, l, t⟩ - leakN P a ⟨p, l, t⟩ := by
      have e1 : leakN P a ⟨p, l, t⟩ = (a - t) / P := by unfold leakN; rw [if_pos h]
      have e2 : leakN P b ⟨p, l, t⟩ = (b - t) / P := by unfold leakN; rw [if_pos (by dsimp only; omega)]
      dsimp only at h1 h2
      rw [e2]
      generalize leakN P a ⟨p, l, t⟩ = n at *
      unfold leakN
      dsimp only
      rw [if_pos (by omega), show b - (t + n * P) = (b - t) + (-n) * P by rw [Int.neg_mul]; omega, Int.add_mul_ediv_right _ _ (by omega)]
      omega
    have hle : leakN P a ⟨p, l, t⟩ ≤ leakN P b ⟨p, l, t⟩ := by
      unfold leakN; rw [if_pos h, if_pos (by dsimp only; omega)]
      exact Int.ediv_le_ediv (by omega) (by dsimp only; omega)
    rw [show leakG P a ⟨p, l, t⟩ = if 0 < l - leakN P a ⟨p, l, t⟩ then some ⟨p, l - leakN P a ⟨p, l, t⟩, t + leakN P a ⟨p, l, t⟩ * P⟩ else none from rfl]
    rw [show leakG P b ⟨p, l, t⟩ = if 0 < l - leakN P b ⟨p, l, t⟩ then some ⟨p, l - leakN P b ⟨p, l, t⟩, t + leakN P b ⟨p, l, t⟩ * P⟩ else none from rfl]
    by_cases hp : 0 < l - leakN P a ⟨p, l, t⟩
    · rw [if_pos hp, Option.bind_some]
      unfold leakG
      rw [e]
      dsimp only
      generalize leakN P a ⟨p, l, t⟩ = n at *
      generalize leakN P b ⟨p, l, t⟩ = m at *
      rw [show l - n - (m - n) = l - m by omega, show t + n * P + (m - n) * P = t + m * P by rw [Int.sub_mul]; omega]
    · rw [if_neg hp, if_neg (by omega)]; rfl
  · have h1 : leakN P a ⟨p, l, t⟩ = 0 := by unfold leakN; rw [if_neg h]
    rw [show leakG P a ⟨p, l, t⟩ = if 0 < l - leakN P a ⟨p, l, t⟩ then some ⟨p, l - leakN P a ⟨p, l, t⟩, t + leakN P a ⟨p, l, t⟩ * P⟩ else none from rfl, h1, Int.sub_zero, Int.zero_mul, Int.add_zero]
    by_cases hl : 0 < l
    · rw [if_pos hl]; rfl
    · rw [if_neg hl]
      have h2 : 0 ≤ leakN P b ⟨p, l, t⟩ := by
        by_cases hb : t ≤ b
        · exact (leakN_in (x := ⟨p, l, t⟩) hP hb).1
        · unfold leakN; rw [if_neg hb]; exact Int.le_refl _
      unfold leakG
      rw [if_neg (by dsimp only; omega)]; rfl
theorem leak_twice {P a b : Int} {xs : List G3} (hP : 1 ≤ P) (hab : a ≤ b) : leakL P b (leakL P a xs) = leakL P b xs := by
  unfold leakL
  rw [List.filterMap_filterMap]
  congr 1
  funext x
  exact leakG_twice hP hab
theorem leak_zero {P : Int} : ∀ {xs : List G3}, (∀ x ∈ xs, 0 ≤ x.t ∧ 1 ≤ x.l) → leakL P 0 xs = xs
  | [], _ => rfl
  | x :: xs, h => by
    have hx := h x (by simp)
    have h1 : leakN P 0 x = 0 := by
      unfold leakN
      split
      · rw [show (0 : Int) - x.t = 0 by omega, Int.zero_ediv]
      · rfl
    have h2 : leakG P 0 x = some x := by
      unfold leakG
      rw [h1, Int.sub_zero, Int.zero_mul, Int.add_zero, if_pos (by omega)]
    have := leak_zero (P := P) (xs := xs) fun y hy => h y (by simp [hy])
    unfold leakL at this ⊢
    rw [List.filterMap_cons, h2, this]
theorem GOK.to {P T T' : Int} {xs : List G3} (h : GOK P T xs) (hT : 0 ≤ T' ∧ T' ≤ 1099511627776) : GOK P T' xs := ⟨h.P1, h.P2, hT.1, hT.2, h.len, h.all⟩
theorem MG.ok {P L T : Int} {xs : List G3} (h : MG P L xs) (hT : 0 ≤ T ∧ T ≤ 1099511627776) : GOK P T xs :=
  ⟨h.P1.1, by have := h.P1; omega, hT.1, hT.2, by have := h.len; omega, fun x hx => by have := h.all x hx; omega⟩
theorem leak_pos {P T : Int} {xs : List G3} {y : G3} (hy : y ∈ leakL P T xs) : ∃ x ∈ xs, y.p = x.p := by
  obtain ⟨x, hx, hxy⟩ := List.mem_filterMap.1 hy
  unfold leakG at hxy
  split at hxy
  · simp at hxy; exact ⟨x, hx, by rw [← hxy]⟩
  · cases hxy
theorem MG.leaked {P L T : Int} {xs : List G3} (h : MG P L xs) (hT : 0 ≤ T ∧ T ≤ 1099511627776) : rvB P L (leakL P T xs) = true ∧ GOK P T (leakL P T xs) := by
  have h0 := h.ok hT
  have h2 := Nat.le_trans (leakL_len P T xs) h.len
  have h1 := okF_of (last := -1) (xs := leakL P T xs) (fun y hy => by
    have := leak_in h0 hy
    obtain ⟨x, hx, e⟩ := leak_pos hy
    have := h.all x hx
    omega) (sorted_leak h.sorted)
  have := h.P1; have := h.L1
  refine ⟨?_, ⟨h0.P1, h0.P2, h0.T0, h0.T2, by omega, fun y hy => leak_in h0 hy⟩⟩
  simp only [rvB, h1, Bool.true_and, Bool.and_eq_true, decide_eq_true_eq]
  omega
theorem HS.diceRow {D : Nat → Prop} {W w w' : World} {L : List Item} (h : HS D W L w) (i : Nat) {B b : Nat} (hi : L[i]? = some (.dice B b)) (hg : Chg b w w') (hd : Dice B w' b) {v : Value} {e : TypeId} {s n : Nat} {xs : List Value} (hr : w'.ownsRow w.heap.size e s v n xs) : HS D W (L ++ [.row v e s n xs]) w' :=
  HS.add (A := .row v e s n xs) (h.diceAt i hi hg hd) h.lts h.size (ownsRow_zero hr) (fun k hk => ownsRow_fp hr hk) ⟨Nat.zero_le _, fun k hk => absurd hk (Nat.not_lt_zero _)⟩

theorem gives_of {n : Nat} {args : Array Value} {v : Value} {w : World} (h : Calls Try.prog n args w fun e w' => e = .returned v ∧ w = w') : Calls Try.prog n args w (Gives v w) :=
  h.mono fun e w' ⟨h1, h2⟩ => ⟨h1, h2 ▸ Below.refl _ _⟩
end Go.Proofs.Ytdcieajdgmopkaa
