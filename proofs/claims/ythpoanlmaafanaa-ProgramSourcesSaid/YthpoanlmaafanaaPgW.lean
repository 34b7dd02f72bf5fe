/- Sources and pages of lists: plain words; the sanity check of layer 40. -/
import Derived.Test.YthpoanlmaafanaaPgP
import Derived.Test.YthpoanlmaafanaaPgJ
namespace Go.Proofs.Ythpoanlmaafanaa
set_option linter.unusedSimpArgs false
set_option linter.unusedVariables false
open Go.RowKit
set_option maxRecDepth 100000
attribute [local irreducible] wpX wpF Calls

def srcOf (f : PgF) (x : Ox) : Int × Bool := match f (x.p, x.g) with
  | none => (0, false)
  | some q => (q.get x.w, true)
theorem source_at (A B : List Ox) (x : Ox) (hk : x.k = 1) (hm : meansO x = true) : sourceP (A ++ x :: B) (A.length : Int) = srcOf (runF 0 A noF) x := by
  have h1 : (A ++ x :: B)[((A.length : Nat) : Int).toNat]! = x := by
    rw [show ((A.length : Nat) : Int).toNat = A.length from rfl, getElem!_pos _ _ (by simp)]
    simp
  have h2 : (A ++ x :: B).take ((A.length : Nat) : Int).toNat = A := by
    rw [show ((A.length : Nat) : Int).toNat = A.length from rfl]
    simp
  unfold sourceP srcOf
  rw [h1, h2, if_neg (by simp; omega), if_neg (fun h => by rcases h with h | h; exact h hk; rw [hm] at h; cases h)]
  cases runF 0 A noF (x.p, x.g) <;> rfl
theorem runF_app (A : List Ox) (x : Ox) : runF 0 (A ++ [x]) noF = doF (A.length : Int) x (runF 0 A noF) := by
  rw [runF_snoc, Nat.zero_add]
theorem doF_read {i : Int} {x : Ox} {f : PgF} (hk : x.k = 1) : doF i x f = f := by
  unfold doF
  split
  · rfl
  · rw [if_neg (by omega), if_neg (by omega), if_neg (by omega), if_neg (by omega)]
theorem doF_save {i : Int} {x : Ox} {f : PgF} (hk : x.k = 6) : doF i x f = f := by
  unfold doF
  split
  · rfl
  · rw [if_neg (by omega), if_neg (by omega), if_neg (by omega), if_neg (by omega)]
theorem read_means {p g w : Int} {sa : Option Addr} {c : Nat} (hp : 1 ≤ p ∧ p ≤ 999) (hg : 0 ≤ g ∧ g ≤ 999) (hw : 0 ≤ w ∧ w ≤ 3) : meansO ⟨1, p, g, w, 0, sa, 0, c⟩ = true := by
  unfold meansO validO
  simp only [inB_t.2 hp, inB_t.2 hg, inB_t.2 hw]
  rfl
theorem write_means {p g w : Int} {sa : Option Addr} {c : Nat} (hp : 1 ≤ p ∧ p ≤ 999) (hg : 0 ≤ g ∧ g ≤ 999) (hw : 0 ≤ w ∧ w ≤ 3) : meansO ⟨2, p, g, w, 0, sa, 1, c⟩ = true := by
  unfold meansO validO
  simp only [inB_t.2 hp, inB_t.2 hg, inB_t.2 hw]
  rfl
theorem doF_write {i p g w : Int} {sa : Option Addr} {c : Nat} {f : PgF} (hp : 1 ≤ p ∧ p ≤ 999) (hg : 0 ≤ g ∧ g ≤ 999) (hw : 0 ≤ w ∧ w ≤ 3) : doF i ⟨2, p, g, w, 0, sa, 1, c⟩ f = fun y => if y = (p, g) then (f (p, g)).map (fun q => q.put w i) else f y := by
  unfold doF
  rw [if_neg (by rw [write_means hp hg hw]; decide), if_neg (show ¬ ((2 : Int) = 3) by decide), if_neg (show ¬ ((2 : Int) = 5) by decide), if_pos rfl]
theorem doF_fork {i p o : Int} {f : PgF} (h : meansO ⟨4, p, 0, 0, o, none, 0, 0⟩ = true) : doF i ⟨4, p, 0, 0, o, none, 0, 0⟩ f = forkF p o f := by
  unfold doF
  rw [if_neg (by rw [h]; decide), if_neg (show ¬ ((4 : Int) = 3) by decide), if_neg (show ¬ ((4 : Int) = 5) by decide), if_neg (show ¬ ((4 : Int) = 2) by decide), if_pos rfl]
theorem get_put {q : Q4} {w i : Int} (hw : 0 ≤ w ∧ w ≤ 3) : (q.put w i).get w = i := by
  have : w = 0 ∨ w = 1 ∨ w = 2 ∨ w = 3 := by omega
  rcases this with rfl | rfl | rfl | rfl <;> rfl
def fk9 : Ox := ⟨4, 1, 0, 0, 9, none, 0, 0⟩
theorem forks_law (l : List Ox) {g w : Int} (hg : 0 ≤ g ∧ g ≤ 999) (hw : 0 ≤ w ∧ w ≤ 3) (sa : Option Addr) (c : Nat) {L : List Ox} (hL : L = l ++ [fk9] ++ [⟨1, 1, g, w, 0, none, 0, 0⟩, ⟨1, 9, g, w, 0, none, 0, 0⟩, ⟨2, 1, g, w, 0, sa, 1, c⟩, ⟨1, 1, g, w, 0, none, 0, 0⟩, ⟨1, 9, g, w, 0, none, 0, 0⟩]) :
    ∃ a ok, sourceP L ((l.length : Int) + 1) = (a, ok) ∧ sourceP L ((l.length : Int) + 2) = (a, ok) ∧ sourceP L ((l.length : Int) + 4) = (if ok = true then (l.length : Int) + 3 else 0, ok) ∧ sourceP L ((l.length : Int) + 5) = (a, ok) := by
  obtain ⟨f, hf⟩ : ∃ f, f = runF 0 l noF := ⟨_, rfl⟩
  obtain ⟨o, ho⟩ : ∃ o : Ox, o = ⟨1, 1, g, w, 0, none, 0, 0⟩ := ⟨_, rfl⟩
  obtain ⟨q, hq⟩ : ∃ o : Ox, o = ⟨1, 9, g, w, 0, none, 0, 0⟩ := ⟨_, rfl⟩
  obtain ⟨x, hx⟩ : ∃ o : Ox, o = ⟨2, 1, g, w, 0, sa, 1, c⟩ := ⟨_, rfl⟩
  rw [← ho, ← hq, ← hx] at hL
  have hmo : meansO o = true := by rw [ho]; exact read_means (by decide) hg hw
  have hmq : meansO q = true := by rw [hq]; exact read_means (by decide) hg hw
  have hko : o.k = 1 := by rw [ho]
  have hkq : q.k = 1 := by rw [hq]
  have h0 : runF 0 (l ++ [fk9]) noF = forkF 1 9 f := by rw [runF_app, ← hf]; exact doF_fork rfl
  have h1 : runF 0 (l ++ [fk9] ++ [o]) noF = forkF 1 9 f := by rw [runF_app, h0, doF_read hko]
  have h2 : runF 0 (l ++ [fk9] ++ [o] ++ [q]) noF = forkF 1 9 f := by rw [runF_app, h1, doF_read hkq]
  have h3 : runF 0 (l ++ [fk9] ++ [o] ++ [q] ++ [x]) noF = fun y => if y = (1, g) then ((forkF 1 9 f) (1, g)).map (fun q => q.put w ((l.length : Int) + 3)) else forkF 1 9 f y := by
    rw [runF_app, h2, show (((l ++ [fk9] ++ [o] ++ [q]).length : Nat) : Int) = (l.length : Int) + 3 by simp, hx, doF_write (by decide) hg hw]
  have h4 : runF 0 (l ++ [fk9] ++ [o] ++ [q] ++ [x] ++ [o]) noF = fun y => if y = (1, g) then ((forkF 1 9 f) (1, g)).map (fun q => q.put w ((l.length : Int) + 3)) else forkF 1 9 f y := by
    rw [runF_app, h3, doF_read hko]
  have s1 := source_at (l ++ [fk9]) [q, x, o, q] o hko hmo
  have s2 := source_at (l ++ [fk9] ++ [o]) [x, o, q] q hkq hmq
  have s3 := source_at (l ++ [fk9] ++ [o] ++ [q] ++ [x]) [q] o hko hmo
  have s4 := source_at (l ++ [fk9] ++ [o] ++ [q] ++ [x] ++ [o]) [] q hkq hmq
  rw [h0] at s1
  rw [h1] at s2
  rw [h3] at s3
  rw [h4] at s4
  have e1 : (l ++ [fk9]) ++ o :: [q, x, o, q] = L := by rw [hL]
  have e2 : (l ++ [fk9] ++ [o]) ++ q :: [x, o, q] = L := by rw [hL]; simp
  have e3 : (l ++ [fk9] ++ [o] ++ [q] ++ [x]) ++ o :: [q] = L := by rw [hL]; simp
  have e4 : (l ++ [fk9] ++ [o] ++ [q] ++ [x] ++ [o]) ++ q :: [] = L := by rw [hL]; simp
  rw [e1] at s1
  rw [e2] at s2
  rw [e3] at s3
  rw [e4] at s4
  have n1 : (((l ++ [fk9]).length : Nat) : Int) = (l.length : Int) + 1 := by simp
  have n2 : (((l ++ [fk9] ++ [o]).length : Nat) : Int) = (l.length : Int) + 2 := by simp
  have n3 : (((l ++ [fk9] ++ [o] ++ [q] ++ [x]).length : Nat) : Int) = (l.length : Int) + 4 := by simp
  have n4 : (((l ++ [fk9] ++ [o] ++ [q] ++ [x] ++ [o]).length : Nat) : Int) = (l.length : Int) + 5 := by simp
  rw [n1] at s1
  rw [n2] at s2
  rw [n3] at s3
  rw [n4] at s4
  rw [s1, s2, s3, s4]
  have a1 : srcOf (forkF 1 9 f) o = srcOf f o := by rw [ho]; rfl
  have a2 : srcOf (forkF 1 9 f) q = srcOf f o := by rw [ho, hq]; rfl
  have a3 : srcOf (fun y => if y = (1, g) then ((forkF 1 9 f) (1, g)).map (fun q => q.put w ((l.length : Int) + 3)) else forkF 1 9 f y) o = (if (srcOf f o).2 = true then (l.length : Int) + 3 else 0, (srcOf f o).2) := by
    rw [ho]
    unfold srcOf
    dsimp only
    rw [if_pos rfl, show forkF 1 9 f (1, g) = f (1, g) from rfl]
    cases f (1, g) with
    | none => rfl
    | some r => simp [get_put hw]
  have a4 : srcOf (fun y => if y = (1, g) then ((forkF 1 9 f) (1, g)).map (fun q => q.put w ((l.length : Int) + 3)) else forkF 1 9 f y) q = srcOf f o := by
    rw [ho, hq]
    unfold srcOf
    dsimp only
    rw [if_neg (by simp)]
    rfl
  rw [a1, a2, a3, a4]
  exact ⟨(srcOf f o).1, (srcOf f o).2, rfl, rfl, rfl, rfl⟩
def awL (b7 b8 : Nat) : List Ox := [⟨3, 1, 0, 0, 0, none, 0, 0⟩, ⟨2, 1, 0, 2, 0, some ⟨b7, 0, none⟩, 1, 1⟩, ⟨4, 1, 0, 0, 2, none, 0, 0⟩, ⟨2, 1, 0, 2, 0, some ⟨b8, 0, none⟩, 1, 1⟩, ⟨1, 2, 0, 2, 0, none, 0, 0⟩]
theorem awSP (b7 b8 : Nat) : sourceP (awL b7 b8) 4 = (1, true) := by rfl
theorem awV1 (b7 b8 : Nat) : validO 1 (awL b7 b8)[1]! = true := by rfl
theorem awV2 (b7 b8 : Nat) : validO 2 (awL b7 b8)[1]! = false := by rfl
theorem awPg (b7 b8 : Nat) {us : List (Int × Int)} (h : Uq (runF 0 (awL b7 b8) noF) us) : us.length = 2 := by
  have hf : ∀ y, runF 0 (awL b7 b8) noF y ≠ none ↔ y = (1, 0) ∨ y = (2, 0) := fun y => by
    obtain ⟨a, b⟩ := y
    have e0 : runF 0 (awL b7 b8) noF = doF 4 ⟨1, 2, 0, 2, 0, none, 0, 0⟩ (doF 3 ⟨2, 1, 0, 2, 0, some ⟨b8, 0, none⟩, 1, 1⟩ (doF 2 ⟨4, 1, 0, 0, 2, none, 0, 0⟩ (doF 1 ⟨2, 1, 0, 2, 0, some ⟨b7, 0, none⟩, 1, 1⟩ (doF 0 ⟨3, 1, 0, 0, 0, none, 0, 0⟩ noF)))) := rfl
    rw [e0, doF_read rfl, doF_write (by decide) (by decide) (by decide), doF_fork rfl, doF_write (by decide) (by decide) (by decide), show doF 0 ⟨3, 1, 0, 0, 0, none, 0, 0⟩ noF = (fun y => if y = (1, 0) ∧ noF (1, 0) = none then some ⟨0, 0, 0, 0⟩ else noF y) from rfl]
    unfold forkF noF
    dsimp only
    by_cases h1 : a = 1
    · subst h1
      by_cases h2 : b = 0
      · subst h2; simp
      · simp [h2]
    · by_cases h3 : a = 2
      · subst h3
        by_cases h2 : b = 0
        · subst h2; simp
        · simp [h2]
      · simp [h1, h3]
  have : us = [(1, 0), (2, 0)] := eq_of_lex h.asc (by simp [lexU]) fun x => by rw [h.mem, hf]; simp
  rw [this]; rfl
end Go.Proofs.Ythpoanlmaafanaa
