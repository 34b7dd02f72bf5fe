/- Users and pages say the same: plain words. -/
import Derived.Test.YtmnddnlabdafcaaFrLaw
import Derived.Test.YtmnddnlabdafcaaVld2
namespace Go.Proofs.Ytmnddnlabdafcaa
set_option linter.unusedSimpArgs false
set_option linter.unusedVariables false

/-- How many have the frames below m. -/
def sumC (ps : List Pr) : Nat → Nat
  | 0 => 0
  | m + 1 => sumC ps m + cnt ps m
def cfSum (pg : List Pg) : Nat → Nat
  | 0 => 0
  | m + 1 => cfSum pg m + cf pg m
theorem sumC_cons (p : Pr) (ps : List Pr) : ∀ m, sumC (p :: ps) m = cfSum p.pages m + sumC ps m
  | 0 => rfl
  | m + 1 => by rw [sumC, cfSum, sumC, sumC_cons p ps m, cnt_cons]; omega
theorem cfSum_cons (x : Pg) (l : List Pg) : ∀ m : Nat, cfSum (x :: l) m = (if 0 ≤ x.f ∧ x.f < m then 1 else 0) + cfSum l m
  | 0 => by
    rw [cfSum, cfSum, if_neg (by omega)]
  | m + 1 => by
    rw [cfSum, cfSum, cfSum_cons x l m, cf_cons]
    by_cases h : x.f = (m : Int)
    · rw [if_pos h, if_neg (by omega), if_pos (by omega)]; omega
    · rw [if_neg h]
      by_cases h2 : 0 ≤ x.f ∧ x.f < m
      · rw [if_pos h2, if_pos (by omega)]; omega
      · rw [if_neg h2, if_neg (by omega)]; omega
theorem cfSum_all {m : Nat} : ∀ {l : List Pg}, (∀ x ∈ l, 0 ≤ x.f ∧ x.f < m) → cfSum l m = l.length
  | [], _ => by
    have : ∀ k, cfSum [] k = 0 := fun k => by
      induction k with
      | zero => rfl
      | succ k ih => rw [cfSum, ih]; rfl
    rw [this]; rfl
  | x :: l, h => by
    rw [cfSum_cons, if_pos (h x (by simp)), cfSum_all fun y hy => h y (by simp [hy]), List.length_cons]; omega
theorem sumC_all {m : Nat} : ∀ {ps : List Pr}, (∀ p ∈ ps, ∀ x ∈ p.pages, 0 ≤ x.f ∧ x.f < m) → sumC ps m = (allPg ps).length
  | [], _ => by
    have : ∀ k, sumC [] k = 0 := fun k => by
      induction k with
      | zero => rfl
      | succ k ih => rw [sumC, ih]; rfl
    rw [this]; rfl
  | p :: ps, h => by
    rw [sumC_cons, cfSum_all fun x hx => h p (by simp) x hx, sumC_all fun q hq => h q (by simp [hq])]
    unfold allPg
    rw [List.flatMap_cons, List.length_append]
theorem sumC_good {ps : List Pr} (h : GoodP 64 ps) : sumC ps 64 = (allPg ps).length := sumC_all fun p hp x hx => by
  have := (h.one p hp).pnum x hx
  omega
theorem user_in {ps : List Pr} {i k : Nat} (hi : i < ps.length) (hk : k < (ps[i]!).pages.length) : ((ps[i]!).id, ((ps[i]!).pages[k]!).n) ∈ usersL ps ((ps[i]!).pages[k]!).f := by
  rw [usersL_eq]
  refine List.mem_flatMap.2 ⟨ps[i]!, at_mem hi, ?_⟩
  unfold usesOf
  exact List.mem_map.2 ⟨_, List.mem_filter.2 ⟨at_mem hk, decide_eq_true rfl⟩, rfl⟩
theorem allPg_succ_len {ps : List Pr} {j : Nat} (h : j < ps.length) : (allPg (ps.take (j + 1))).length = (allPg (ps.take j)).length + (ps[j]!).pages.length := by
  rw [allPg_succ h, List.length_append]
/-- Is a use among the first m? -/
def foundM (us : List (Int × Int)) (a b : Int) (m : Nat) : Bool := (us.take m).any fun u => decide (u.1 = a) && decide (u.2 = b)
theorem foundM_succ {us : List (Int × Int)} (a b : Int) {m : Nat} (h : m < us.length) : foundM us a b (m + 1) = (foundM us a b m || (decide ((us[m]!).1 = a) && decide ((us[m]!).2 = b))) := by
  unfold foundM
  rw [take_snoc h, List.any_append]
  simp
theorem foundM_all {us : List (Int × Int)} {a b : Int} (h : (a, b) ∈ us) : foundM us a b us.length = true := by
  unfold foundM
  rw [List.take_length, List.any_eq_true]
  exact ⟨_, h, by simp⟩
theorem sumC_le (ps : List Pr) {a b : Nat} (h : a ≤ b) : sumC ps a ≤ sumC ps b := by
  induction b with
  | zero => obtain rfl : a = 0 := by omega
            exact Nat.le_refl _
  | succ b ih =>
    rcases Nat.lt_or_ge b a with h1 | h1
    · obtain rfl : a = b + 1 := by omega
      exact Nat.le_refl _
    · have := ih h1
      rw [sumC]; omega
theorem HS.useCell {D : Nat → Prop} {W w : World} {L : List Item} {g cap n : Nat} {us : List (Int × Int)} (h : HS D W L w) (k : Nat) (hk : L[k]? = some (.row (.slice (some ⟨g, 0, none⟩) n cap) 61 2 n (us.flatMap uC))) (hn : n = us.length) {i m : Nat} {u : Value} (hi : i < us.length) (hm : m < 2) (hu : (uC us[i]!)[m]? = some u) : w.cell? ⟨g, i * 2 + m, none⟩ = some u ∧ w.frozen? ⟨g, i * 2 + m, none⟩ = false := by
  subst hn
  have h1 := h.rowCells k hk (i * 2 + m) (by omega)
  exact ⟨h1.1.trans (flat_get uC_len us i m u hi hu), h1.2⟩
end Go.Proofs.Ytmnddnlabdafcaa
