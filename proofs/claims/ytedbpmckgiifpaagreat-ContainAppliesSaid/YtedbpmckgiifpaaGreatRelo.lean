/- The statement ContainReloads: its walk. -/
import Derived.Test.YtedbpmckgiifpaaGreatC5
import Derived.Test.YtedbpmckgiifpaaGreatC9
import Derived.Test.YtedbpmckgiifpaaGreatForks
namespace Go.Proofs.YtedbpmckgiifpaaGreat
set_option linter.unusedSimpArgs false
set_option linter.unusedVariables false
open Go.RowKit
set_option maxRecDepth 100000
attribute [local go_sem] lt_more ne_more ne_more'
attribute [local irreducible] wpX wpF Calls

theorem move_pages {a b : Int} (hab : a ≠ b) (id : Int) : ∀ {pg : List Pg}, (∀ x ∈ pg, x.f ≠ b) → usesOf id (pg.map fun x => if x.f = a then { x with f := b } else x) b = usesOf id pg a ∧ usesOf id (pg.map fun x => if x.f = a then { x with f := b } else x) a = []
  | [], _ => ⟨rfl, rfl⟩
  | x :: pg, h => by
    obtain ⟨h1, h2⟩ := move_pages hab id (pg := pg) fun y hy => h y (by simp [hy])
    have hx := h x (by simp)
    unfold usesOf at h1 h2 ⊢
    rw [List.map_cons, List.filter_cons, List.filter_cons, List.filter_cons]
    by_cases e : x.f = a
    · rw [if_pos e]
      simp only [e, decide_true, if_true, List.map_cons]
      rw [h1, if_neg (by simp; exact fun h => hab h.symm), h2]
      exact ⟨rfl, rfl⟩
    · rw [if_neg e]
      rw [if_neg (by simpa using hx), if_neg (by simpa using e), if_neg (by simpa using e), h1, h2]
      exact ⟨rfl, rfl⟩
theorem users_move {a b : Int} (hab : a ≠ b) : ∀ {ps : List Pr}, usedB ps b = false → usersL (ps.map (moveP a b)) b = usersL ps a ∧ usersL (ps.map (moveP a b)) a = []
  | [], _ => ⟨rfl, rfl⟩
  | p :: ps, h => by
    have h' : (p.pages.any fun x => decide (x.f = b)) = false ∧ usedB ps b = false := by
      unfold usedB at h ⊢
      rw [List.any_cons, Bool.or_eq_false_iff] at h
      exact h
    obtain ⟨h1, h2⟩ := users_move hab h'.2
    have h3 : ∀ x ∈ p.pages, x.f ≠ b := fun x hx e => by
      have := (List.any_eq_false.1 h'.1) x hx
      simp [e] at this
    obtain ⟨h4, h5⟩ := move_pages hab p.id h3
    rw [usersL_eq] at h1 h2 ⊢
    rw [usersL_eq] at h1 ⊢
    rw [usersL_eq, List.map_cons, List.flatMap_cons, List.flatMap_cons, List.flatMap_cons, h1, h2]
    rw [show usesOf (moveP a b p).id (moveP a b p).pages b = usesOf p.id p.pages a from h4, show usesOf (moveP a b p).id (moveP a b p).pages a = [] from h5]
    exact ⟨rfl, rfl⟩
theorem small_move {a b : Int} {ps : List Pr} (h : SmallP ps) : SmallP (ps.map (moveP a b)) := by
  refine ⟨by rw [List.length_map]; exact h.1, fun p hp => ?_⟩
  obtain ⟨q, hq, rfl⟩ := List.mem_map.1 hp
  have := h.2 q hq
  exact ⟨by show (List.map _ _).length ≤ 1000; rw [List.length_map]; exact this.1, this.2⟩
theorem Held.unused {F : List Fr} {ps : List Pr} (h : Held F ps) {t : Nat} (ht : t < F.length) (hs : (F[t]!).st = 0) : usedB ps t = false := by
  cases hu : usedB ps t with
  | false => rfl
  | true =>
    have h1 := (used_iff ps t).1 hu
    rcases h.held t ht (List.length_pos_iff.1 h1) with h2 | h2 <;> rw [hs] at h2 <;> cases h2
theorem Held.reload {F : List Fr} {ps : List Pr} (h : Held F ps) {f t : Nat} (hf : f < F.length) (ht : t < F.length) (hs : (F[f]!).st = 1) (h0 : (F[t]!).st = 0) :
    decP true F ps f t = (0, [⟨2, f, t, 0, 0⟩, ⟨1, f, 0, 0, 0⟩]) ∧ applyP F ps ⟨2, f, t, 0, 0⟩ = (0, (F.set t F[f]!).set f ⟨0, 0⟩, ps.map (moveP f t)) ∧ f ≠ t := by
  have hft : f ≠ t := fun e => by rw [e, h0] at hs; cases hs
  have hfr : freeAtF F t = true := by
    unfold freeAtF
    simp only [Bool.and_eq_true, decide_eq_true_eq]
    exact ⟨⟨by omega, by omega⟩, h0⟩
  have hF2 := h.fr.high
  have e1 : ((F[((f : Nat) : Int).toNat]!).st) = 1 := hs
  refine ⟨?_, ?_, hft⟩
  · unfold decP
    rw [if_neg (by decide), if_neg (by omega), if_neg (fun hh => hh.2.elim (fun h => hft (by omega)) (fun h => by rw [hfr] at h; cases h))]
    dsimp only
    rw [e1, if_neg (by decide), if_neg (by decide), if_neg (by simp), if_neg (by decide), if_pos ⟨rfl, by omega⟩]
  · have e2 : stateE F ps ⟨2, f, t, 0, 0⟩ = 0 := by
      unfold stateE
      dsimp only
      rw [e1, if_neg (by simp)]
    have e3 : replP ps f t = (0, ps.map (moveP f t)) := by
      unfold replP
      rw [if_neg (by omega), if_neg (fun h' => by have := h.unused ht h0; rw [this] at h'; cases h'.2)]
    have e4 : carryP F ps ⟨2, f, t, 0, 0⟩ = (0, (F.set t F[f]!).set f ⟨0, 0⟩, ps.map (moveP f t)) := by
      unfold carryP
      dsimp only
      rw [if_neg (by decide), if_pos (.inl rfl)]
      unfold shiftP
      rw [e3]
      rfl
    unfold applyP
    dsimp only
    rw [if_neg (by decide), if_neg (fun h' => by rcases h' with h' | h' | h'; omega; omega; rw [hfr] at h'; cases h'.2), e2, if_neg (by simp), e4]
    rfl
theorem neqFr (a b : Int) (w : World) : (binOp .neq 47 (.agg #[.int .i64 a, .int .i64 b]) (.agg #[.int .i64 a, .int .i64 b])).run Tryz.prog w = .ok (.bool false) w := by go_simp
theorem neqUs (a b : Int) (w : World) : (binOp .neq 37 (.agg #[.int .i64 a, .int .i64 b]) (.agg #[.int .i64 a, .int .i64 b])).run Tryz.prog w = .ok (.bool false) w := by go_simp
end Go.Proofs.YtedbpmckgiifpaaGreat
