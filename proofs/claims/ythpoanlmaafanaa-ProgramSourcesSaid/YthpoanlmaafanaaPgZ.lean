/- ProgramKeeps, ProgramTwice: the plain law. Two runs side by side, where what stands at a word comes from the same operation. -/
import Derived.Test.YthpoanlmaafanaaPgQ
namespace Go.Proofs.Ythpoanlmaafanaa
set_option linter.unusedSimpArgs false
set_option linter.unusedVariables false
open Go.RowKit

/-- The numbers i and j bear the same operation, the one in l, the other in m. -/
def P4 (l m : List Ox) (i j : Int) : Prop := ∃ a b : Nat, i = a ∧ j = b ∧ a < l.length ∧ b < m.length ∧ l[a]! = m[b]!
theorem get_app {l : List Ox} {a : Nat} (h : a < l.length) (k : List Ox) : (l ++ k)[a]! = l[a]! := by
  rw [getElem!_pos _ _ (by simp; omega), getElem!_pos l a h, List.getElem_append_left h]
theorem P4.app {l m : List Ox} {i j : Int} (h : P4 l m i j) (k n : List Ox) : P4 (l ++ k) (m ++ n) i j := by
  obtain ⟨a, b, h1, h2, h3, h4, h5⟩ := h
  exact ⟨a, b, h1, h2, by simp; omega, by simp; omega, by rw [get_app h3, get_app h4, h5]⟩
theorem P4.now (l m : List Ox) (x : Ox) : P4 (l ++ [x]) (m ++ [x]) l.length m.length :=
  ⟨l.length, m.length, rfl, rfl, by simp, by simp, by rw [getElem!_pos _ _ (by simp), getElem!_pos _ _ (by simp)]; simp⟩
def R4 (l m : List Ox) (q r : Q4) : Prop := P4 l m q.a r.a ∧ P4 l m q.b r.b ∧ P4 l m q.c r.c ∧ P4 l m q.d r.d
theorem R4.app {l m : List Ox} {q r : Q4} (h : R4 l m q r) (k n : List Ox) : R4 (l ++ k) (m ++ n) q r :=
  ⟨h.1.app k n, h.2.1.app k n, h.2.2.1.app k n, h.2.2.2.app k n⟩
theorem R4.get {l m : List Ox} {q r : Q4} (h : R4 l m q r) (w : Int) : P4 l m (q.get w) (r.get w) := by
  obtain ⟨h1, h2, h3, h4⟩ := h
  unfold Q4.get
  split
  · exact h1
  · split
    · exact h2
    · split
      · exact h3
      · exact h4
theorem R4.put {l m : List Ox} {q r : Q4} (h : R4 l m q r) (w : Int) (i j : Int) (hij : P4 l m i j) : R4 l m (q.put w i) (r.put w j) := by
  obtain ⟨h1, h2, h3, h4⟩ := h
  unfold Q4.put
  split
  · exact ⟨hij, h2, h3, h4⟩
  · split
    · exact ⟨h1, hij, h3, h4⟩
    · split
      · exact ⟨h1, h2, hij, h4⟩
      · split
        · exact ⟨h1, h2, h3, hij⟩
        · exact ⟨h1, h2, h3, h4⟩
def O4 (l m : List Ox) (a b : Option Q4) : Prop := (a = none ∧ b = none) ∨ ∃ q r, a = some q ∧ b = some r ∧ R4 l m q r
theorem O4.app {l m : List Ox} {a b : Option Q4} (h : O4 l m a b) (k n : List Ox) : O4 (l ++ k) (m ++ n) a b := by
  rcases h with h | ⟨q, r, h1, h2, h3⟩
  · exact .inl h
  · exact .inr ⟨q, r, h1, h2, h3.app k n⟩
theorem O4.none_iff {l m : List Ox} {a b : Option Q4} (h : O4 l m a b) : a = none ↔ b = none := by
  rcases h with ⟨h1, h2⟩ | ⟨q, r, h1, h2, h3⟩
  · simp [h1, h2]
  · simp [h1, h2]
/-- The two states agree at the programs of S. -/
def RelF (S : Int → Prop) (l m : List Ox) (f g : PgF) : Prop := ∀ y : Int × Int, S y.1 → O4 l m (f y) (g y)
theorem RelF.no (S : Int → Prop) : RelF S [] [] noF noF := fun _ _ => .inl ⟨rfl, rfl⟩
theorem RelF.left {S : Int → Prop} {l m : List Ox} {f g f' : PgF} (h : RelF S l m f g) (x : Ox) (hf : ∀ y, S y.1 → f' y = f y) : RelF S (l ++ [x]) m f' g := fun y hy => by
  rw [hf y hy]
  have := (h y hy).app [x] []
  rwa [List.append_nil] at this
theorem RelF.right {S : Int → Prop} {l m : List Ox} {f g g' : PgF} (h : RelF S l m f g) (x : Ox) (hf : ∀ y, S y.1 → g' y = g y) : RelF S l (m ++ [x]) f g' := fun y hy => by
  rw [hf y hy]
  have := (h y hy).app [] [x]
  rwa [List.append_nil] at this
theorem RelF.both {S : Int → Prop} {l m : List Ox} {f g : PgF} (h : RelF S l m f g) (x : Ox) (hf : x.k = 4 → S x.o → S x.p) : RelF S (l ++ [x]) (m ++ [x]) (doF l.length x f) (doF m.length x g) := by
  intro y hy
  have hn := P4.now l m x
  have hb := (h y hy).app [x] [x]
  unfold doF
  by_cases h0 : meansO x = false
  · rw [if_pos h0, if_pos h0]; exact hb
  rw [if_neg h0, if_neg h0]
  by_cases h3 : x.k = 3
  · rw [if_pos h3, if_pos h3]
    try dsimp only
    by_cases e : y = (x.p, x.g)
    · subst e
      have hi := (h (x.p, x.g) hy).none_iff
      by_cases en : f (x.p, x.g) = none
      · rw [if_pos ⟨rfl, en⟩, if_pos ⟨rfl, hi.1 en⟩]
        exact .inr ⟨_, _, rfl, rfl, hn, hn, hn, hn⟩
      · rw [if_neg (fun h => en h.2), if_neg (fun h => en (hi.2 h.2))]; exact hb
    · rw [if_neg (fun h => e h.1), if_neg (fun h => e h.1)]; exact hb
  rw [if_neg h3, if_neg h3]
  by_cases h5 : x.k = 5
  · rw [if_pos h5, if_pos h5]
    try dsimp only
    by_cases e : y = (x.p, x.g)
    · rw [if_pos e, if_pos e]; exact .inl ⟨rfl, rfl⟩
    · rw [if_neg e, if_neg e]; exact hb
  rw [if_neg h5, if_neg h5]
  by_cases h2 : x.k = 2
  · rw [if_pos h2, if_pos h2]
    try dsimp only
    by_cases e : y = (x.p, x.g)
    · subst e
      rw [if_pos rfl, if_pos rfl]
      rcases hb with ⟨e1, e2⟩ | ⟨q, r, e1, e2, e3⟩
      · rw [e1, e2]; exact .inl ⟨rfl, rfl⟩
      · rw [e1, e2]; exact .inr ⟨_, _, rfl, rfl, e3.put x.w _ _ hn⟩
    · rw [if_neg e, if_neg e]; exact hb
  rw [if_neg h2, if_neg h2]
  by_cases h4 : x.k = 4
  · rw [if_pos h4, if_pos h4]
    unfold forkF
    try dsimp only
    by_cases e : y.1 = x.o
    · rw [if_pos e, if_pos e]
      exact (h (x.p, y.2) (hf h4 (e ▸ hy))).app [x] [x]
    · rw [if_neg e, if_neg e]; exact hb
  · rw [if_neg h4, if_neg h4]; exact hb
/-- An operation of another program that does not fork changes nothing at the programs of S. -/
theorem doF_other {S : Int → Prop} {i : Int} {x : Ox} {f : PgF} (hk : x.k ≠ 4) (hp : ¬ S x.p) : ∀ y : Int × Int, S y.1 → doF i x f y = f y := by
  intro y hy
  have hne : y ≠ (x.p, x.g) := fun e => hp (by rw [e] at hy; exact hy)
  unfold doF
  split
  · rfl
  · split
    · dsimp only; rw [if_neg (fun h => hne h.1)]
    · split
      · dsimp only; rw [if_neg hne]
      · split
        · dsimp only; rw [if_neg hne]
        · rfl
/-- A second map of a page does nothing. -/
theorem doF_map_again {i : Int} {x : Ox} {f : PgF} (hk : x.k = 3) (hf : f (x.p, x.g) ≠ none) : doF i x f = f := by
  unfold doF
  split
  · rfl
  · first | rw [if_pos hk] | skip
    funext y
    rw [if_neg (fun h => hf h.2)]
/-- A drop of a page that is not there does nothing. -/
theorem doF_drop_none {i : Int} {x : Ox} {f : PgF} (hk : x.k = 5) (hf : f (x.p, x.g) = none) : doF i x f = f := by
  unfold doF
  split
  · rfl
  · rw [if_neg (show ¬ x.k = 3 by omega)]
    first | rw [if_pos hk] | skip
    funext y
    by_cases e : y = (x.p, x.g)
    · rw [if_pos e, e, hf]
    · rw [if_neg e]
/-- Every page is one of the programs of S. -/
def OnlyF (S : Int → Prop) (f : PgF) : Prop := ∀ y : Int × Int, f y ≠ none → S y.1
theorem OnlyF.no (S : Int → Prop) : OnlyF S noF := fun _ h => absurd rfl h
theorem OnlyF.do {S : Int → Prop} {f : PgF} (h : OnlyF S f) {i : Int} {x : Ox} (hk : x.k ≠ 4) (hp : S x.p) : OnlyF S (doF i x f) := by
  intro y hy
  by_cases hs : S y.1
  · exact hs
  · have e := doF_other (S := fun z => ¬ S z) (i := i) (f := f) hk (fun h => h hp) y hs
    rw [e] at hy
    exact h y hy
/-- The pages at the programs of S are the other's pages. -/
theorem RelF.pages {S : Int → Prop} [DecidablePred S] {l m : List Ox} {f g : PgF} (h : RelF S l m f g) (ho : OnlyF S g) {us vs : List (Int × Int)} (hu : Uq f us) (hv : Uq g vs) : us.filter (fun y => decide (S y.1)) = vs := by
  refine eq_of_lex (hu.asc.filter _) hv.asc fun y => ?_
  rw [List.mem_filter, hu.mem, hv.mem, decide_eq_true_iff]
  constructor
  · rintro ⟨h1, h2⟩ h3
    exact h1 ((h y h2).none_iff.2 h3)
  · intro h1
    exact ⟨fun h3 => h1 ((h y (ho y h1)).none_iff.1 h3), ho y h1⟩
theorem RelF.same {l m : List Ox} {f g : PgF} (h : RelF (fun _ => True) l m f g) {us vs : List (Int × Int)} (hu : Uq f us) (hv : Uq g vs) : us = vs :=
  hu.eq hv fun y => (h y trivial).none_iff
/-- The sources of one read: the same answer, and the same operation behind it. -/
theorem RelF.src {S : Int → Prop} {l m : List Ox} {f g : PgF} (h : RelF S l m f g) (x : Ox) (hs : S x.p) : (srcOf f x).2 = (srcOf g x).2 ∧ ((srcOf f x).2 = true → P4 l m (srcOf f x).1 (srcOf g x).1) := by
  unfold srcOf
  rcases h (x.p, x.g) hs with ⟨e1, e2⟩ | ⟨q, r, e1, e2, e3⟩
  · rw [e1, e2]; exact ⟨rfl, fun h => nomatch h⟩
  · rw [e1, e2]; exact ⟨rfl, fun _ => e3.get x.w⟩
/-- As Source answers at the read put at both ends. -/
theorem RelF.source {S : Int → Prop} {l m : List Ox} (h : RelF S l m (runF 0 l noF) (runF 0 m noF)) (x : Ox) (hs : S x.p) (hk : x.k = 1) (hm : meansO x = true) :
    (sourceP (l ++ [x]) l.length).2 = (sourceP (m ++ [x]) m.length).2 ∧ ((sourceP (l ++ [x]) l.length).2 = true → P4 l m (sourceP (l ++ [x]) l.length).1 (sourceP (m ++ [x]) m.length).1) := by
  rw [source_at l [] x hk hm, source_at m [] x hk hm]
  exact h.src x hs
/-- One operation more in both lists, or in one. -/
def Run2 (S : Int → Prop) (l m : List Ox) : Prop := RelF S l m (runF 0 l noF) (runF 0 m noF)
theorem Run2.no (S : Int → Prop) : Run2 S [] [] := RelF.no S
theorem Run2.both {S : Int → Prop} {l m : List Ox} (h : Run2 S l m) (x : Ox) (hf : x.k = 4 → S x.o → S x.p) : Run2 S (l ++ [x]) (m ++ [x]) := by
  unfold Run2
  rw [runF_app, runF_app]
  exact RelF.both h x hf
theorem Run2.skip {S : Int → Prop} {l m : List Ox} (h : Run2 S l m) (x : Ox) (hf : ∀ y : Int × Int, S y.1 → doF l.length x (runF 0 l noF) y = runF 0 l noF y) : Run2 S (l ++ [x]) m := by
  unfold Run2
  rw [runF_app]
  exact RelF.left h x hf
theorem Run2.add {S : Int → Prop} {l m : List Ox} (h : Run2 S l m) (x : Ox) (hf : ∀ y : Int × Int, S y.1 → doF m.length x (runF 0 m noF) y = runF 0 m noF y) : Run2 S l (m ++ [x]) := by
  unfold Run2
  rw [runF_app]
  exact RelF.right h x hf
end Go.Proofs.Ythpoanlmaafanaa
