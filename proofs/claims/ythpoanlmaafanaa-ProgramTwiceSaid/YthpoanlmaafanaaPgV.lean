/- Where words come from: plain words. -/
import Derived.Test.YthpoanlmaafanaaPgX
namespace Go.Proofs.Ythpoanlmaafanaa
set_option linter.unusedSimpArgs false
set_option linter.unusedVariables false
open Go.RowKit
set_option maxRecDepth 100000

theorem get_put' {q : Q4} {w v i : Int} (hw : 0 ≤ w ∧ w ≤ 3) (hv : 0 ≤ v ∧ v ≤ 3) : (q.put w i).get v = if v = w then i else q.get v := by
  have h1 : w = 0 ∨ w = 1 ∨ w = 2 ∨ w = 3 := by omega
  have h2 : v = 0 ∨ v = 1 ∨ v = 2 ∨ v = 3 := by omega
  rcases h1 with rfl | rfl | rfl | rfl <;> rcases h2 with rfl | rfl | rfl | rfl <;> rfl
/-- Each word comes from an operation before. -/
def Org (l : List Ox) (j : Nat) (f : PgF) : Prop := ∀ p g q, f (p, g) = some q → ∀ w, 0 ≤ w ∧ w ≤ 3 → ∃ a : Nat, q.get w = a ∧ a < j ∧ ((l[a]!).k = 3 ∨ (l[a]!).k = 2 ∧ (l[a]!).w = w) ∧ (l[a]!).g = g
theorem Org.up {l : List Ox} {j : Nat} {f : PgF} (h : Org l j f) : Org l (j + 1) f := fun p g q hq w hw => by
  obtain ⟨a, h1, h2, h3⟩ := h p g q hq w hw
  exact ⟨a, h1, by omega, h3⟩
theorem Org.step {l : List Ox} {j : Nat} {f : PgF} (h : Org l j f) : Org l (j + 1) (doF j l[j]! f) := by
  obtain ⟨x, hx⟩ : ∃ x, x = l[j]! := ⟨_, rfl⟩
  rw [← hx]
  unfold doF
  split
  · exact h.up
  · rename_i hm
    have hm' : meansO x = true := by simpa using hm
    split
    · rename_i hk
      intro p g q hq w hw
      dsimp only at hq
      split at hq
      · rename_i h1
        obtain ⟨h1, -⟩ := h1
        injection h1 with e1 e2
        injection hq with hq
        subst hq
        refine ⟨j, ?_, by omega, ?_⟩
        · have : w = 0 ∨ w = 1 ∨ w = 2 ∨ w = 3 := by omega
          rcases this with rfl | rfl | rfl | rfl <;> rfl
        · rw [← hx]; exact ⟨.inl hk, e2.symm⟩
      · exact h.up p g q hq w hw
    · split
      · intro p g q hq w hw
        dsimp only at hq
        split at hq
        · cases hq
        · exact h.up p g q hq w hw
      · split
        · rename_i hk
          have hxw : 0 ≤ x.w ∧ x.w ≤ 3 := by
            rcases means_k hm' with h9 | h9 | h9 | h9 | h9 | h9 <;> omega
          intro p g q hq w hw
          dsimp only at hq
          split at hq
          · rename_i h1
            injection h1 with e1 e2
            cases hf : f (x.p, x.g) with
            | none => rw [hf] at hq; cases hq
            | some r =>
              rw [hf] at hq
              injection hq with hq
              dsimp only at hq
              subst hq
              by_cases e3 : w = x.w
              · refine ⟨j, by rw [get_put' hxw hw, if_pos e3], by omega, ?_⟩
                rw [← hx]
                exact ⟨.inr ⟨hk, e3.symm⟩, e2.symm⟩
              · obtain ⟨a, h1, h2, h3, h4⟩ := h.up _ _ r hf w hw
                exact ⟨a, by rw [get_put' hxw hw, if_neg e3]; exact h1, h2, h3, by rw [h4, e2]⟩
          · exact h.up p g q hq w hw
        · split
          · intro p g q hq w hw
            unfold forkF at hq
            dsimp only at hq
            split at hq
            · exact h.up _ g q hq w hw
            · exact h.up p g q hq w hw
          · exact h.up
theorem org_take (l : List Ox) : ∀ j, j ≤ l.length → Org l j (runF 0 (l.take j) noF)
  | 0, _ => fun p g q hq => by cases hq
  | j + 1, h => by
    rw [runF_step (show j < l.length by omega)]
    exact (org_take l j (by omega)).step
theorem org_all (l : List Ox) : Org l l.length (runF 0 l noF) := by
  have := org_take l l.length (Nat.le_refl _)
  rwa [List.take_length] at this
structure ReadsR (l L : List Ox) (p g w a : Int) (ok : Bool) : Prop where
  one : sourceP L l.length = (a, ok)
  two : sourceP L ((l.length : Int) + 3) = (a, ok)
  has : ok = true ↔ runF 0 l noF (p, g) ≠ none
  org : ok = true → ∃ n : Nat, a = n ∧ n < l.length ∧ ((L[n]!).k = 3 ∨ (L[n]!).k = 2 ∧ (L[n]!).w = w) ∧ (L[n]!).g = g
theorem reads_law (l : List Ox) {p g w : Int} (hp : 1 ≤ p ∧ p ≤ 999) (hg : 0 ≤ g ∧ g ≤ 999) (hw : 0 ≤ w ∧ w ≤ 3) {L : List Ox} (hL : L = l ++ [⟨1, p, g, w, 0, none, 0, 0⟩, ⟨6, p, g, 0, 0, none, 0, 0⟩, ⟨1, p, g, 0, 0, none, 0, 0⟩, ⟨1, p, g, w, 0, none, 0, 0⟩]) : ∃ a ok, ReadsR l L p g w a ok := by
  obtain ⟨f, hf⟩ : ∃ f, f = runF 0 l noF := ⟨_, rfl⟩
  obtain ⟨o, ho⟩ : ∃ o : Ox, o = ⟨1, p, g, w, 0, none, 0, 0⟩ := ⟨_, rfl⟩
  obtain ⟨s, hs⟩ : ∃ o : Ox, o = ⟨6, p, g, 0, 0, none, 0, 0⟩ := ⟨_, rfl⟩
  obtain ⟨r, hr⟩ : ∃ o : Ox, o = ⟨1, p, g, 0, 0, none, 0, 0⟩ := ⟨_, rfl⟩
  rw [← ho, ← hs, ← hr] at hL
  have hmo : meansO o = true := by rw [ho]; exact read_means hp hg hw
  have hko : o.k = 1 := by rw [ho]
  have h1 : runF 0 (l ++ [o]) noF = f := by rw [runF_app, ← hf, doF_read hko]
  have h2 : runF 0 (l ++ [o] ++ [s]) noF = f := by rw [runF_app, h1, doF_save (by rw [hs])]
  have h3 : runF 0 (l ++ [o] ++ [s] ++ [r]) noF = f := by rw [runF_app, h2, doF_read (by rw [hr])]
  have s1 := source_at l [s, r, o] o hko hmo
  have s2 := source_at (l ++ [o] ++ [s] ++ [r]) [] o hko hmo
  rw [← hf] at s1
  rw [h3] at s2
  have e1 : l ++ o :: [s, r, o] = L := by rw [hL]
  have e2 : (l ++ [o] ++ [s] ++ [r]) ++ o :: [] = L := by rw [hL]; simp
  rw [e1] at s1
  rw [e2] at s2
  have n2 : (((l ++ [o] ++ [s] ++ [r]).length : Nat) : Int) = (l.length : Int) + 3 := by simp
  rw [n2] at s2
  refine ⟨(srcOf f o).1, (srcOf f o).2, s1, s2, ?_, ?_⟩
  · rw [← hf, ho]
    unfold srcOf
    dsimp only
    cases f (p, g) <;> simp
  · intro hok
    have horg := org_all l
    rw [← hf] at horg
    rw [ho] at hok ⊢
    unfold srcOf at hok ⊢
    dsimp only at hok ⊢
    cases hq : f (p, g) with
    | none => rw [hq] at hok; cases hok
    | some q =>
      obtain ⟨a, h1, h2, h3⟩ := horg p g q hq w hw
      have e : L[a]! = l[a]! := by rw [hL, getElem!_pos _ a (by simp; omega), getElem!_pos l a h2, List.getElem_append_left h2]
      exact ⟨a, h1, h2, by rw [e]; exact h3⟩
end Go.Proofs.Ythpoanlmaafanaa
