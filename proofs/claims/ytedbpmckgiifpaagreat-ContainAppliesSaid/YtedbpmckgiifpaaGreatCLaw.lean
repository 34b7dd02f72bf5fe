/- What is done about a damaged frame: plain words. -/
import Derived.Test.YtedbpmckgiifpaaGreatVLaw
namespace Go.Proofs.YtedbpmckgiifpaaGreat
set_option linter.unusedSimpArgs false
set_option linter.unusedVariables false

structure Fr where
  st : Int
  bl : Int
deriving Inhabited, DecidableEq
structure Dd where
  k : Int
  f : Int
  tq : Int
  p : Int
  g : Int
deriving Inhabited, DecidableEq
def fitB (s b : Int) : Bool := if s = 1 then decide (1 ≤ b ∧ b ≤ 64) else decide (0 ≤ s ∧ s ≤ 5 ∧ b = 0)
/-- Valid frames. -/
structure FrV (F : List Fr) : Prop where
  low : 1 ≤ F.length
  high : F.length ≤ 64
  fit : ∀ x ∈ F, fitB x.st x.bl = true
def freeAtF (F : List Fr) (tq : Int) : Bool := decide (0 ≤ tq) && decide (tq < F.length) && decide ((F[tq.toNat]!).st = 0)
def ddOf (ps : List Pr) (f : Int) (u : Int × Int) : Dd := ⟨if ps.any (fun p => decide (p.id = u.1) && p.tells) = true then 4 else 5, f, 0, u.1, u.2⟩
def vicP (ps : List Pr) (f : Int) : List Dd := (usersL ps f).map (ddOf ps f)
def decP (ok : Bool) (F : List Fr) (ps : List Pr) (f tq : Int) : Int × List Dd :=
  if ok = false then (1, [])
  else if f < 0 ∨ (F.length : Int) ≤ f then (43, [])
  else if tq ≠ -1 ∧ (tq = f ∨ freeAtF F tq = false) then (40, [])
  else
    let s := (F[f.toNat]!).st
    if s = 5 then (0, [])
    else if s = 0 then (0, [⟨1, f, 0, 0, 0⟩])
    else if s = 4 ∨ s = 3 ∧ tq = -1 then (0, [⟨6, f, 0, 0, 0⟩])
    else if s = 3 then (0, [⟨3, f, tq, 0, 0⟩, ⟨1, f, 0, 0, 0⟩])
    else if s = 1 ∧ tq ≠ -1 then (0, [⟨2, f, tq, 0, 0⟩, ⟨1, f, 0, 0, 0⟩])
    else (0, vicP ps f ++ [⟨1, f, 0, 0, 0⟩])
def freeI (F : List Fr) : Int := idx? (F.findIdx? fun x => decide (x.st = 0))
theorem freeI_at {F : List Fr} {i : Nat} (h : F.findIdx? (fun x => decide (x.st = 0)) = some i) : i < F.length ∧ (F[i]!).st = 0 := by
  obtain ⟨h1, h2, -⟩ := List.findIdx?_eq_some_iff_getElem.1 h
  refine ⟨h1, ?_⟩
  rw [getElem!_pos F i h1]
  exact of_decide_eq_true h2
theorem freeI_or (F : List Fr) : freeI F = -1 ∨ freeAtF F (freeI F) = true := by
  unfold freeI
  cases h : F.findIdx? (fun x => decide (x.st = 0)) with
  | none => exact .inl rfl
  | some i =>
    obtain ⟨h1, h2⟩ := freeI_at h
    refine .inr ?_
    unfold freeAtF idx?
    have h3 : (F[(((i : Nat) : Int)).toNat]!).st = 0 := h2
    rw [h3]
    simp [h1]
/-- A list that stops the machine, or one that does not. -/
structure StopsAs (f : Int) (must : Bool) (s : Int) (l : List Dd) : Prop where
  each : ∀ d ∈ l, d.f = f ∧ (d.k = 2 ∨ d.k = 3 ∨ d.tq = 0)
  stop : must = true → l = [⟨6, f, 0, 0, 0⟩]
  none : must = false → ∀ d ∈ l, d.k ≠ 6
  bad : s = 5 → l = []
def mustB (s tq : Int) : Bool := decide (s = 4) || (decide (s = 3) && decide (tq < 0))
theorem dec_stops {F : List Fr} {ps : List Pr} {f tq : Int} (hF : FrV F) (h0 : 0 ≤ f) (h1 : f < F.length) (ht : tq = -1 ∨ freeAtF F tq = true ∧ tq ≠ f) :
    ∃ l, decP true F ps f tq = (0, l) ∧ StopsAs f (mustB (F[f.toNat]!).st tq) (F[f.toNat]!).st l := by
  have htq : tq = -1 ∨ 0 ≤ tq := by
    rcases ht with h | ⟨h, -⟩
    · exact .inl h
    · unfold freeAtF at h; simp at h; exact .inr h.1.1
  have e1 : ¬ (f < 0 ∨ (F.length : Int) ≤ f) := by omega
  have e2 : ¬ (tq ≠ -1 ∧ (tq = f ∨ freeAtF F tq = false)) := by
    rintro ⟨h2, h3⟩
    rcases ht with h | ⟨h, h'⟩
    · exact h2 h
    · rcases h3 with h3 | h3
      · exact h' h3
      · rw [h] at h3; cases h3
  unfold decP
  rw [if_neg (by decide), if_neg e1, if_neg e2]
  generalize (F[f.toNat]!).st = s
  dsimp only
  by_cases h5 : s = 5
  · subst h5
    exact ⟨[], by simp, fun d hd => absurd hd List.not_mem_nil, fun h => by simp [mustB] at h, fun _ d hd => absurd hd List.not_mem_nil, fun _ => rfl⟩
  rw [if_neg h5]
  by_cases h00 : s = 0
  · subst h00
    exact ⟨_, by rw [if_pos rfl], fun d hd => by cases List.mem_singleton.1 hd; exact ⟨rfl, .inr (.inr rfl)⟩, fun h => by simp [mustB] at h, fun _ d hd => by cases List.mem_singleton.1 hd; exact (by decide : (1 : Int) ≠ 6), fun h => absurd h h5⟩
  rw [if_neg h00]
  by_cases h4 : s = 4 ∨ s = 3 ∧ tq = -1
  · rw [if_pos h4]
    refine ⟨_, rfl, fun d hd => by cases List.mem_singleton.1 hd; exact ⟨rfl, .inr (.inr rfl)⟩, fun _ => rfl, fun h => ?_, fun h => absurd h h5⟩
    rcases h4 with h4 | ⟨h4, h4'⟩
    · subst h4; simp [mustB] at h
    · subst h4; subst h4'; simp [mustB] at h
  rw [if_neg h4]
  have hm : mustB s tq = false := by
    unfold mustB
    rw [Bool.or_eq_false_iff, Bool.and_eq_false_iff, decide_eq_false_iff_not, decide_eq_false_iff_not, decide_eq_false_iff_not]
    refine ⟨fun h => h4 (.inl h), ?_⟩
    by_cases h3 : s = 3
    · right; intro h; exact h4 (.inr ⟨h3, by omega⟩)
    · exact .inl h3
  rw [hm]
  by_cases h3 : s = 3
  · rw [if_pos h3]
    refine ⟨_, rfl, fun d hd => ?_, (fun h => by cases h), fun _ d hd => ?_, fun h => absurd h h5⟩
    all_goals
      simp only [List.mem_cons, List.mem_nil_iff, or_false] at hd
      rcases hd with rfl | rfl <;> simp
  rw [if_neg h3]
  by_cases h1' : s = 1 ∧ tq ≠ -1
  · rw [if_pos h1']
    refine ⟨_, rfl, fun d hd => ?_, (fun h => by cases h), fun _ d hd => ?_, fun h => absurd h h5⟩
    all_goals
      simp only [List.mem_cons, List.mem_nil_iff, or_false] at hd
      rcases hd with rfl | rfl <;> simp
  rw [if_neg h1']
  refine ⟨_, rfl, fun d hd => ?_, (fun h => by cases h), fun _ d hd => ?_, fun h => absurd h h5⟩
  all_goals
    rcases List.mem_append.1 hd with hd | hd
    · obtain ⟨u, hu, rfl⟩ := List.mem_map.1 hd
      unfold ddOf
      first
        | (dsimp only; simp; done)
        | (dsimp only; split <;> decide)
    · cases List.mem_singleton.1 hd
      simp
/-- How many deeds stop the machine. -/
def stopsN (l : List Dd) : Nat := (l.filter fun d => decide (d.k = 6)).length
theorem stopsN_succ {l : List Dd} {k : Nat} (h : k < l.length) : stopsN (l.take (k + 1)) = stopsN (l.take k) + (if (l[k]!).k = 6 then 1 else 0) := by
  have e : l.take (k + 1) = l.take k ++ [l[k]!] := by
    rw [List.take_add_one, List.getElem?_eq_getElem h, getElem!_pos l k h]; rfl
  rw [e]
  unfold stopsN
  rw [List.filter_append, List.length_append]
  generalize l[k]! = x
  by_cases e : x.k = 6 <;> simp [e]
theorem StopsAs.n {f s : Int} {must : Bool} {l : List Dd} (h : StopsAs f must s l) : (must = true ∧ stopsN l = 1 ∧ l.length = 1) ∨ (must = false ∧ stopsN l = 0) := by
  cases hm : must with
  | true => left; rw [h.stop hm]; exact ⟨rfl, by simp [stopsN], rfl⟩
  | false =>
    right
    refine ⟨rfl, ?_⟩
    unfold stopsN
    rw [List.length_eq_zero_iff, List.filter_eq_nil_iff]
    intro d hd hk
    exact h.none hm d hd (of_decide_eq_true hk)
end Go.Proofs.YtedbpmckgiifpaaGreat
