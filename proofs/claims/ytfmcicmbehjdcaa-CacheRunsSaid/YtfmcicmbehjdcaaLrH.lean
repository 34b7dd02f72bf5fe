/- Caches as lists: what is good, and that using, putting and dropping keep it. Plain words. -/
import Derived.Test.YtfmcicmbehjdcaaLrE
namespace Go.Proofs.Ytfmcicmbehjdcaa
set_option linter.unusedSimpArgs false
set_option linter.unusedVariables false
open Go.RowKit

/-- A set is good. -/
structure GoodSet (S W : Nat) (size : Int) (s : Nat) (g : Nat → Sm) : Prop where
  pre : ∀ r, r + 1 < W → (g (r + 1)).u = true → (g r).u = true
  zero : ∀ r, r < W → (g r).u = false → g r = zSm
  age0 : ∀ r, r < W → (g r).u = true → 0 ≤ (g r).age
  ageU : ∀ r, r < W → (g r).u = true → (g r).age < W ∧ (g (g r).age.toNat).u = true
  ageD : ∀ r r', r < W → r' < W → (g r).u = true → (g r').u = true → (g r).age = (g r').age → r = r'
  adD : ∀ r r', r < W → r' < W → (g r).u = true → (g r').u = true → (g r).ln.ad = (g r').ln.ad → r = r'
  line : ∀ r, r < W → (g r).u = true → lineB size (g r).ln = true
  mod : ∀ r, r < W → (g r).u = true → (g r).ln.ad % S = s
theorem GoodSet.down {S W : Nat} {size : Int} {s : Nat} {g : Nat → Sm} (h : GoodSet S W size s g) : ∀ (d r : Nat), r + d < W → (g (r + d)).u = true → (g r).u = true
  | 0, r, _, hu => hu
  | d + 1, r, hr, hu => h.down d r (by omega) (h.pre (r + d) (by omega) hu)
theorem GoodSet.down' {S W : Nat} {size : Int} {s : Nat} {g : Nat → Sm} (h : GoodSet S W size s g) {r r' : Nat} (hr : r ≤ r') (hw : r' < W) (hu : (g r').u = true) : (g r).u = true := h.down (r' - r) r (by omega) (by rw [show r + (r' - r) = r' by omega]; exact hu)
/-- Slot r0 becomes the youngest. -/
def useG (g : Nat → Sm) (r0 : Nat) (r : Nat) : Sm := if r = r0 then ⟨(g r).u, 0, (g r).ln⟩ else if (g r).u = true ∧ (g r).age < (g r0).age then ⟨(g r).u, (g r).age + 1, (g r).ln⟩ else g r
def lnG (g : Nat → Sm) (r0 : Nat) (x : Lm) (r : Nat) : Sm := if r = r0 then ⟨(g r).u, (g r).age, x⟩ else g r
def putG (g : Nat → Sm) (r0 : Nat) (x : Lm) (r : Nat) : Sm := if r = r0 then ⟨true, 0, x⟩ else if (g r).u = true then ⟨(g r).u, (g r).age + 1, (g r).ln⟩ else g r
def decG (a : Int) (q : Sm) : Sm := if q.u = true ∧ a < q.age then ⟨q.u, q.age - 1, q.ln⟩ else q
def dropG (W : Nat) (g : Nat → Sm) (r0 : Nat) (r : Nat) : Sm := decG (g r0).age (if r < r0 then g r else if r + 1 < W then g (r + 1) else zSm)
theorem useG_u (g : Nat → Sm) (r0 r : Nat) : (useG g r0 r).u = (g r).u := by unfold useG; repeat (first | rfl | split)
theorem useG_ln (g : Nat → Sm) (r0 r : Nat) : (useG g r0 r).ln = (g r).ln := by unfold useG; repeat (first | rfl | split)
theorem useG_age (g : Nat → Sm) (r0 r : Nat) (hu : (g r).u = true) : (r = r0 ∧ (useG g r0 r).age = 0) ∨ (r ≠ r0 ∧ (g r).age < (g r0).age ∧ (useG g r0 r).age = (g r).age + 1) ∨ (r ≠ r0 ∧ (g r0).age ≤ (g r).age ∧ (useG g r0 r).age = (g r).age) := by
  unfold useG
  by_cases h1 : r = r0
  · rw [if_pos h1]; exact .inl ⟨h1, rfl⟩
  · rw [if_neg h1]
    by_cases h2 : (g r).age < (g r0).age
    · rw [if_pos ⟨hu, h2⟩]; exact .inr (.inl ⟨h1, h2, rfl⟩)
    · rw [if_neg (fun h => h2 h.2)]; exact .inr (.inr ⟨h1, by omega, rfl⟩)
theorem GoodSet.use {S W : Nat} {size : Int} {s : Nat} {g : Nat → Sm} (h : GoodSet S W size s g) {r0 : Nat} (hr0 : r0 < W) (hu0 : (g r0).u = true) : GoodSet S W size s (useG g r0) := by
  refine ⟨fun r hr hu => ?_, fun r hr hu => ?_, fun r hr hu => ?_, fun r hr hu => ?_, fun r r' hr hr' hu hu' e => ?_, fun r r' hr hr' hu hu' e => ?_, fun r hr hu => ?_, fun r hr hu => ?_⟩
  · rw [useG_u] at hu ⊢; exact h.pre r hr hu
  · rw [useG_u] at hu
    have hne : r ≠ r0 := fun e => by rw [e, hu0] at hu; cases hu
    unfold useG
    rw [if_neg hne, if_neg (fun hh => by rw [hu] at hh; cases hh.1)]
    exact h.zero r hr hu
  · rw [useG_u] at hu
    have := h.age0 r hr hu
    rcases useG_age g r0 r hu with ⟨_, e⟩ | ⟨_, _, e⟩ | ⟨_, _, e⟩ <;> omega
  · rw [useG_u] at hu
    have h0 := h.age0 r hr hu
    have h1 := h.ageU r hr hu
    have h2 := h.ageU r0 hr0 hu0
    have h3 := h.age0 r0 hr0 hu0
    rw [useG_u]
    rcases useG_age g r0 r hu with ⟨_, e⟩ | ⟨_, hlt, e⟩ | ⟨_, _, e⟩ <;> rw [e]
    · exact ⟨by omega, h.down' (Nat.zero_le _) hr0 hu0⟩
    · exact ⟨by omega, h.down' (r' := (g r0).age.toNat) (by omega) (by omega) h2.2⟩
    · exact h1
  · rw [useG_u] at hu hu'
    have a1 := h.age0 r hr hu
    have a2 := h.age0 r' hr' hu'
    have a3 := h.age0 r0 hr0 hu0
    have d1 := h.ageD r r' hr hr' hu hu'
    have d2 := h.ageD r r0 hr hr0 hu hu0
    have d3 := h.ageD r' r0 hr' hr0 hu' hu0
    rcases useG_age g r0 r hu with ⟨_, e1⟩ | ⟨_, _, e1⟩ | ⟨_, _, e1⟩ <;> rcases useG_age g r0 r' hu' with ⟨_, e2⟩ | ⟨_, _, e2⟩ | ⟨_, _, e2⟩ <;> omega
  · rw [useG_u] at hu hu'
    rw [useG_ln, useG_ln] at e
    exact h.adD r r' hr hr' hu hu' e
  · rw [useG_u] at hu; rw [useG_ln]; exact h.line r hr hu
  · rw [useG_u] at hu; rw [useG_ln]; exact h.mod r hr hu
theorem lnG_u (g : Nat → Sm) (r0 : Nat) (x : Lm) (r : Nat) : (lnG g r0 x r).u = (g r).u := by unfold lnG; split <;> rfl
theorem lnG_age (g : Nat → Sm) (r0 : Nat) (x : Lm) (r : Nat) : (lnG g r0 x r).age = (g r).age := by unfold lnG; split <;> rfl
theorem GoodSet.ln {S W : Nat} {size : Int} {s : Nat} {g : Nat → Sm} (h : GoodSet S W size s g) {r0 : Nat} (hr0 : r0 < W) (hu0 : (g r0).u = true) {x : Lm} (hx : lineB size x = true) (had : x.ad = (g r0).ln.ad) : GoodSet S W size s (lnG g r0 x) := by
  have hlad : ∀ r, (lnG g r0 x r).ln.ad = (g r).ln.ad := fun r => by
    unfold lnG
    split
    · rename_i e; rw [e]; exact had
    · rfl
  refine ⟨fun r hr hu => ?_, fun r hr hu => ?_, fun r hr hu => ?_, fun r hr hu => ?_, fun r r' hr hr' hu hu' e => ?_, fun r r' hr hr' hu hu' e => ?_, fun r hr hu => ?_, fun r hr hu => ?_⟩
  · rw [lnG_u] at hu ⊢; exact h.pre r hr hu
  · rw [lnG_u] at hu
    have hne : r ≠ r0 := fun e => by rw [e, hu0] at hu; cases hu
    unfold lnG
    rw [if_neg hne]; exact h.zero r hr hu
  · rw [lnG_u] at hu; rw [lnG_age]; exact h.age0 r hr hu
  · rw [lnG_u] at hu; rw [lnG_age, lnG_u]; exact h.ageU r hr hu
  · rw [lnG_u] at hu hu'
    rw [lnG_age, lnG_age] at e
    exact h.ageD r r' hr hr' hu hu' e
  · rw [lnG_u] at hu hu'
    rw [hlad, hlad] at e
    exact h.adD r r' hr hr' hu hu' e
  · rw [lnG_u] at hu
    unfold lnG
    split
    · exact hx
    · exact h.line r hr hu
  · rw [lnG_u] at hu; rw [hlad]; exact h.mod r hr hu
theorem putG_u (g : Nat → Sm) (r0 : Nat) (x : Lm) (r : Nat) : (putG g r0 x r).u = true ↔ r = r0 ∨ (g r).u = true := by
  unfold putG
  by_cases h1 : r = r0
  · rw [if_pos h1]; simp [h1]
  · rw [if_neg h1]
    by_cases h2 : (g r).u = true
    · rw [if_pos h2]; simp [h2]
    · rw [if_neg h2]; simp [h1]
theorem putG_cases (g : Nat → Sm) (r0 : Nat) (x : Lm) (r : Nat) (hu : (putG g r0 x r).u = true) : (r = r0 ∧ putG g r0 x r = ⟨true, 0, x⟩) ∨ (r ≠ r0 ∧ (g r).u = true ∧ putG g r0 x r = ⟨(g r).u, (g r).age + 1, (g r).ln⟩) := by
  by_cases h1 : r = r0
  · exact .inl ⟨h1, by unfold putG; rw [if_pos h1]⟩
  · have h2 : (g r).u = true := ((putG_u g r0 x r).1 hu).resolve_left h1
    exact .inr ⟨h1, h2, by unfold putG; rw [if_neg h1, if_pos h2]⟩
/-- A line put in: at the first free slot, or for the oldest one where none is free. -/
theorem GoodSet.put {S W : Nat} {size : Int} {s : Nat} {g : Nat → Sm} (h : GoodSet S W size s g) {r0 : Nat} (hr0 : r0 < W) {x : Lm} (hx : lineB size x = true) (hmod : x.ad % S = s)
    (hnew : ∀ r, r < W → (g r).u = true → (g r).ln.ad ≠ x.ad)
    (hfree : ((g r0).u = false ∧ ∀ r, r < r0 → (g r).u = true) ∨ ((∀ r, r < W → (g r).u = true) ∧ (g r0).age = (W : Int) - 1)) : GoodSet S W size s (putG g r0 x) := by
  have hlow : ∀ r, r < r0 → (g r).u = true := fun r hr => by
    rcases hfree with h1 | h1
    · exact h1.2 r hr
    · exact h1.1 r (by omega)
  refine ⟨fun r hr hu => ?_, fun r hr hu => ?_, fun r hr hu => ?_, fun r hr hu => ?_, fun r r' hr hr' hu hu' e => ?_, fun r r' hr hr' hu hu' e => ?_, fun r hr hu => ?_, fun r hr hu => ?_⟩
  · rw [putG_u] at hu ⊢
    by_cases e : r = r0
    · exact .inl e
    · rcases hu with hu | hu
      · exact .inr (hlow r (by omega))
      · exact .inr (h.pre r hr hu)
  · have hn : ¬ (r = r0 ∨ (g r).u = true) := fun hh => by rw [(putG_u g r0 x r).2 hh] at hu; cases hu
    have hne : r ≠ r0 := fun e => hn (.inl e)
    have hgu : ¬ (g r).u = true := fun e => hn (.inr e)
    unfold putG
    rw [if_neg hne, if_neg hgu]
    exact h.zero r hr (by simpa using hgu)
  · rcases putG_cases g r0 x r hu with ⟨_, e⟩ | ⟨_, hg, e⟩ <;> rw [e]
    · exact Int.le_refl _
    · have := h.age0 r hr hg; dsimp only; omega
  · rw [putG_u]
    rcases putG_cases g r0 x r hu with ⟨_, e⟩ | ⟨hne, hg, e⟩ <;> rw [e] <;> dsimp only
    · refine ⟨by omega, ?_⟩
      by_cases e0 : r0 = 0
      · exact .inl (by rw [e0]; rfl)
      · exact .inr (hlow _ (by simpa using Nat.pos_of_ne_zero e0))
    · have a0 := h.age0 r hr hg
      have aU := h.ageU r hr hg
      rcases hfree with ⟨h1, h2⟩ | ⟨h1, h2⟩
      · have hlt : (g r).age.toNat < r0 := Nat.lt_of_not_le fun hle => by
          have := h.down' hle (by omega) aU.2
          rw [h1] at this; cases this
        refine ⟨by omega, ?_⟩
        by_cases e0 : ((g r).age + 1).toNat = r0
        · exact .inl e0
        · exact .inr (h2 _ (by omega))
      · have d := h.ageD r r0 hr hr0 hg (h1 r0 hr0)
        have hne2 : (g r).age ≠ (W : Int) - 1 := fun e => hne (d (by rw [e, h2]))
        exact ⟨by omega, .inr (h1 _ (by omega))⟩
  · rcases putG_cases g r0 x r hu with ⟨e1, e2⟩ | ⟨e1, hg, e2⟩ <;> rcases putG_cases g r0 x r' hu' with ⟨e3, e4⟩ | ⟨e3, hg', e4⟩ <;> rw [e2, e4] at e <;> dsimp only at e
    · omega
    · have := h.age0 r' hr' hg'; omega
    · have := h.age0 r hr hg; omega
    · exact h.ageD r r' hr hr' hg hg' (by omega)
  · rcases putG_cases g r0 x r hu with ⟨e1, e2⟩ | ⟨e1, hg, e2⟩ <;> rcases putG_cases g r0 x r' hu' with ⟨e3, e4⟩ | ⟨e3, hg', e4⟩ <;> rw [e2, e4] at e <;> dsimp only at e
    · omega
    · exact absurd e.symm (hnew r' hr' hg')
    · exact absurd e (hnew r hr hg)
    · exact h.adD r r' hr hr' hg hg' e
  · rcases putG_cases g r0 x r hu with ⟨_, e⟩ | ⟨_, hg, e⟩ <;> rw [e]
    · exact hx
    · exact h.line r hr hg
  · rcases putG_cases g r0 x r hu with ⟨_, e⟩ | ⟨_, hg, e⟩ <;> rw [e]
    · exact hmod
    · exact h.mod r hr hg
theorem decG_u (a : Int) (q : Sm) : (decG a q).u = q.u := by unfold decG; split <;> rfl
theorem decG_ln (a : Int) (q : Sm) : (decG a q).ln = q.ln := by unfold decG; split <;> rfl
theorem decG_age (a : Int) (q : Sm) (hu : q.u = true) : (a < q.age ∧ (decG a q).age = q.age - 1) ∨ (q.age ≤ a ∧ (decG a q).age = q.age) := by
  unfold decG
  by_cases h : a < q.age
  · rw [if_pos ⟨hu, h⟩]; exact .inl ⟨h, rfl⟩
  · rw [if_neg (fun hh => h hh.2)]; exact .inr ⟨by omega, rfl⟩
/-- Where a slot behind a drop came from. -/
theorem dropG_src (W : Nat) (g : Nat → Sm) (r0 r : Nat) (hr : r < W) : (∃ t, t < W ∧ t ≠ r0 ∧ (t = r ∧ r < r0 ∨ t = r + 1 ∧ r0 ≤ r) ∧ dropG W g r0 r = decG (g r0).age (g t)) ∨ (r0 ≤ r ∧ r + 1 = W ∧ dropG W g r0 r = decG (g r0).age zSm) := by
  unfold dropG
  by_cases h1 : r < r0
  · rw [if_pos h1]; exact .inl ⟨r, hr, by omega, .inl ⟨rfl, h1⟩, rfl⟩
  · rw [if_neg h1]
    by_cases h2 : r + 1 < W
    · rw [if_pos h2]; exact .inl ⟨r + 1, h2, by omega, .inr ⟨rfl, by omega⟩, rfl⟩
    · rw [if_neg h2]; exact .inr ⟨by omega, by omega, rfl⟩
theorem dropG_used {W : Nat} {g : Nat → Sm} {r0 r : Nat} (hr : r < W) (hu : (dropG W g r0 r).u = true) : ∃ t, t < W ∧ t ≠ r0 ∧ (t = r ∧ r < r0 ∨ t = r + 1 ∧ r0 ≤ r) ∧ (g t).u = true ∧ dropG W g r0 r = decG (g r0).age (g t) := by
  rcases dropG_src W g r0 r hr with ⟨t, h1, h2, h3, e⟩ | ⟨_, _, e⟩
  · rw [e, decG_u] at hu; exact ⟨t, h1, h2, h3, hu, e⟩
  · rw [e, decG_u] at hu; cases hu
theorem GoodSet.drop {S W : Nat} {size : Int} {s : Nat} {g : Nat → Sm} (h : GoodSet S W size s g) {r0 : Nat} (hr0 : r0 < W) (hu0 : (g r0).u = true) : GoodSet S W size s (dropG W g r0) := by
  have a0 := h.age0 r0 hr0 hu0
  have aU := h.ageU r0 hr0 hu0
  have hnu : ∀ n, n + 1 < W → (g (n + 1)).u = true → (dropG W g r0 n).u = true := fun n hn hu => by
    rcases dropG_src W g r0 n (by omega) with ⟨t, h1, h2, h3, e⟩ | ⟨h1, h2, e⟩
    · rw [e, decG_u]
      rcases h3 with ⟨rfl, _⟩ | ⟨rfl, _⟩
      · exact h.pre _ hn hu
      · exact hu
    · omega
  refine ⟨fun r hr hu => ?_, fun r hr hu => ?_, fun r hr hu => ?_, fun r hr hu => ?_, fun r r' hr hr' hu hu' e => ?_, fun r r' hr hr' hu hu' e => ?_, fun r hr hu => ?_, fun r hr hu => ?_⟩
  · obtain ⟨t, h1, h2, h3, h4, -⟩ := dropG_used hr hu
    refine hnu r (by omega) ?_
    rcases h3 with ⟨rfl, _⟩ | ⟨rfl, _⟩
    · exact h4
    · exact h.pre _ h1 h4
  · rcases dropG_src W g r0 r hr with ⟨t, h1, h2, h3, e⟩ | ⟨_, _, e⟩
    · rw [e, decG_u] at hu
      rw [e, h.zero t h1 hu]
      rfl
    · rw [e]; rfl
  · obtain ⟨t, h1, h2, h3, h4, e⟩ := dropG_used hr hu
    have := h.age0 t h1 h4
    rw [e]
    rcases decG_age (g r0).age (g t) h4 with ⟨_, e⟩ | ⟨_, e⟩ <;> omega
  · obtain ⟨t, h1, h2, h3, h4, e⟩ := dropG_used hr hu
    have b0 := h.age0 t h1 h4
    have bU := h.ageU t h1 h4
    have d := h.ageD t r0 h1 hr0 h4 hu0
    have hne : (g t).age ≠ (g r0).age := fun e => h2 (d e)
    rw [e]
    rcases decG_age (g r0).age (g t) h4 with ⟨hlt, e⟩ | ⟨hle, e⟩ <;> rw [e]
    · refine ⟨by omega, hnu _ (by omega) ?_⟩
      rw [show ((g t).age - 1).toNat + 1 = (g t).age.toNat by omega]
      exact bU.2
    · refine ⟨by omega, hnu _ (by omega) ?_⟩
      exact h.down' (r' := (g r0).age.toNat) (by omega) (by omega) aU.2
  · obtain ⟨t, h1, h2, h3, h4, e1⟩ := dropG_used hr hu
    obtain ⟨t', h1', h2', h3', h4', e1'⟩ := dropG_used hr' hu'
    have d := h.ageD t t' h1 h1' h4 h4'
    have d2 := h.ageD t r0 h1 hr0 h4 hu0
    have d3 := h.ageD t' r0 h1' hr0 h4' hu0
    rw [e1, e1'] at e
    have : t = t' := by
      rcases decG_age (g r0).age (g t) h4 with ⟨_, e2⟩ | ⟨_, e2⟩ <;> rcases decG_age (g r0).age (g t') h4' with ⟨_, e3⟩ | ⟨_, e3⟩ <;> rw [e2, e3] at e <;> omega
    omega
  · obtain ⟨t, h1, h2, h3, h4, e1⟩ := dropG_used hr hu
    obtain ⟨t', h1', h2', h3', h4', e1'⟩ := dropG_used hr' hu'
    rw [e1, e1', decG_ln, decG_ln] at e
    have := h.adD t t' h1 h1' h4 h4' e
    omega
  · obtain ⟨t, h1, h2, h3, h4, e⟩ := dropG_used hr hu
    rw [e, decG_ln]; exact h.line t h1 h4
  · obtain ⟨t, h1, h2, h3, h4, e⟩ := dropG_used hr hu
    rw [e, decG_ln]; exact h.mod t h1 h4
end Go.Proofs.Ytfmcicmbehjdcaa
