/- Plain facts on swaps: who hits a row, what one more swap changes. -/
import Derived.Test.YtcacgmfihhpliaaMillS
namespace Go.Proofs.Ytcacgmfihhpliaa
set_option linter.unusedSimpArgs false
set_option linter.unusedVariables false
open Go.RowKit

theorem HS.diceRow {D : Nat → Prop} {W w w' : World} {L : List Item} (h : HS D W L w) (i : Nat) {B b : Nat} (hi : L[i]? = some (.dice B b)) (hg : Chg b w w') (hd : Dice B w' b) {v : Value} {e : TypeId} {s n : Nat} {xs : List Value} (hr : w'.ownsRow w.heap.size e s v n xs) : HS D W (L ++ [.row v e s n xs]) w' :=
  HS.add (A := .row v e s n xs) (h.diceAt i hi hg hd) h.lts h.size (ownsRow_zero hr) (fun k hk => ownsRow_fp hr hk) ⟨Nat.zero_le _, fun k hk => absurd hk (Nat.not_lt_zero _)⟩
/-- Swap on valid spares: an error, or one more swap. -/
theorem swap_two {a0 a1 a2 a3 a4 a5 n p0 p1 p2 p3 p4 p5 : Int} {xs : List S8} {c : Nat} (h : SpV a0 a1 a2 a3 a4 a5 n xs c) (hp : PV a0 a1 a2 a3 a4 a5 p0 p1 p2 p3 p4 p5) {sa : Option Addr} (h0 : xs = [] → sa = none) :
    (∃ er : Int, er ≠ 0 ∧ ∀ w, Lies w w.heap.size sa 8 xs.length (fun j => sC xs[j]!) → Calls Try.prog 26 #[vSp a0 a1 a2 a3 a4 a5 n (.slice sa xs.length c), v6 p0 p1 p2 p3 p4 p5] w (Gives (.tuple #[vSp 0 0 0 0 0 0 0 (.slice none 0 0), .int .i64 er]) w)) ∨
    (∃ (f0 : Int) (fs : List Int), ¬ rwz a4 - n ≤ p4 ∧ xs.any (holdsR p0 p1 p2 p3 p4) = false ∧ freeK (rwz a4 - n) p0 p1 p2 p3 xs n.toNat = f0 :: fs ∧ xs.length < 16 ∧
      ∀ w, Lies w w.heap.size sa 8 xs.length (fun j => sC xs[j]!) → Calls Try.prog 26 #[vSp a0 a1 a2 a3 a4 a5 n (.slice sa xs.length c), v6 p0 p1 p2 p3 p4 p5] w (GivesS (fun v => .tuple #[vSp a0 a1 a2 a3 a4 a5 n v, .int .i64 0]) 38 8 (xs ++ [(⟨p0, p1, p2, p3, 0, 0, p4, f0⟩ : S8)]).length ((xs ++ [(⟨p0, p1, p2, p3, 0, 0, p4, f0⟩ : S8)]).flatMap sC) w)) := by
  by_cases hr : rwz a4 - n ≤ p4
  · exact .inl ⟨2, by decide, fun w hl => swap_range h hp hr w hl⟩
  · cases ht : xs.any (holdsR p0 p1 p2 p3 p4) with
    | true => exact .inl ⟨8, by decide, fun w hl => swap_twice h hp hr ht w hl⟩
    | false =>
      cases hf : freeK (rwz a4 - n) p0 p1 p2 p3 xs n.toNat with
      | nil => exact .inl ⟨44, by decide, fun w hl => swap_none h hp hr ht (by rw [hf]; rfl) w hl⟩
      | cons f0 fs =>
        by_cases h16 : xs.length = 16
        · exact .inl ⟨16, by decide, fun w hl => swap_full h hp hr ht (by rw [hf]; simp) h16 w hl⟩
        · have := h.len
          exact .inr ⟨f0, fs, hr, rfl, rfl, by omega, fun w hl => swap_ok h hp hr ht hf (by omega) h0 w hl⟩
/-- Two swaps of valid spares that hit the same row are one. -/
theorem hit_uniq {a0 a1 a2 a3 a4 a5 n : Int} {xs : List S8} {c : Nat} (h : SpV a0 a1 a2 a3 a4 a5 n xs c) {q : P6} {i j : Nat} (hij : i < j) (hj : j < xs.length) (h1 : hitS q xs[i]! = true) (h2 : hitS q xs[j]! = true) : False := by
  obtain ⟨hr, ho⟩ := h.ok hj
  obtain ⟨-, ho1⟩ := h.ok (Nat.lt_trans hij hj)
  unfold rightB at hr
  have hc := (Bool.and_eq_true_iff.1 hr).2
  rw [Bool.not_eq_true', List.any_eq_false] at hc
  have hlen : i < (xs.take j).length := by rw [List.length_take]; omega
  have hmem : xs[i]! ∈ xs.take j := by
    rw [getElem!_pos xs i (by omega)]
    have := List.getElem_mem hlen
    rwa [List.getElem_take] at this
  have hno := hc _ hmem
  generalize xs[i]! = s at *
  generalize xs[j]! = t at *
  obtain ⟨s0, s1, s2, s3, s4, s5, sr, ss⟩ := s
  obtain ⟨t0, t1, t2, t3, t4, t5, tr, ts⟩ := t
  have k1 := (okS_iff h.n0).1 ho
  have k2 := (okS_iff h.n0).1 ho1
  simp only [hitS, Bool.and_eq_true, Bool.or_eq_true, decide_eq_true_eq] at h1 h2
  apply hno
  simp only [clash, Bool.and_eq_true, Bool.or_eq_true, decide_eq_true_eq]
  refine ⟨⟨by omega, by omega, by omega, by omega, by omega, by omega⟩, ?_⟩
  rcases h1.2 with e1 | e1 <;> rcases h2.2 with e2 | e2
  · exact .inl (by omega)
  · exfalso; omega
  · exfalso; omega
  · exact .inr (by omega)
/-- The one that hits is found. -/
theorem hit_find {a0 a1 a2 a3 a4 a5 n : Int} {xs : List S8} {c : Nat} (h : SpV a0 a1 a2 a3 a4 a5 n xs c) {q : P6} {j : Nat} (hj : j < xs.length) (h2 : hitS q xs[j]! = true) : xs.find? (hitS q) = some xs[j]! :=
  find_at hj (fun k hk => by
    cases e : hitS q xs[k]! with
    | false => rfl
    | true => exact (hit_uniq h hk hj e h2).elim) h2
/-- What hits a row: nothing, or one swap, whose rows are apart. -/
theorem turn_cases {a0 a1 a2 a3 a4 a5 n : Int} {xs : List S8} {c : Nat} (h : SpV a0 a1 a2 a3 a4 a5 n xs c) (q : P6) :
    (xs.any (hitS q) = false ∧ turnR xs q = q.e) ∨ (∃ t : S8, xs.any (hitS q) = true ∧ okS a0 a1 a2 a3 a4 a5 n t = true ∧ (∃ j, j < xs.length ∧ xs[j]! = t) ∧ t.p0 = q.a ∧ t.p1 = q.b ∧ t.p2 = q.c ∧ t.p3 = q.d ∧ t.p4 = 0 ∧ t.p5 = 0 ∧ ((t.r = q.e ∧ turnR xs q = t.s) ∨ (t.s = q.e ∧ t.r ≠ q.e ∧ turnR xs q = t.r))) := by
  by_cases he : ∃ j, j < xs.length ∧ hitS q xs[j]! = true
  · obtain ⟨j, hj, hh⟩ := he
    have hf := hit_find h hj hh
    have ho := (h.ok hj).2
    have hany := any_at hj hh
    refine .inr ⟨xs[j]!, hany, ho, ⟨j, hj, rfl⟩, ?_⟩
    unfold turnR
    rw [hf]
    dsimp only
    generalize xs[j]! = t at *
    simp only [hitS, Bool.and_eq_true, Bool.or_eq_true, decide_eq_true_eq] at hh
    refine ⟨hh.1.1, hh.1.2.1, hh.1.2.2.1, hh.1.2.2.2.1, hh.1.2.2.2.2.1, hh.1.2.2.2.2.2, ?_⟩
    by_cases e : t.r = q.e
    · exact .inl ⟨e, by rw [if_pos e]⟩
    · exact .inr ⟨hh.2.resolve_left e, e, by rw [if_neg e]⟩
  · have hn : ∀ k, k < xs.length → hitS q xs[k]! = false := fun k hk => by
      cases e : hitS q xs[k]! with
      | false => rfl
      | true => exact absurd ⟨k, hk, e⟩ he
    refine .inl ⟨any_none hn, ?_⟩
    unfold turnR
    rw [find_none hn]
/-- Another row of the same bank. -/
def P6.row (q : P6) (e : Int) : P6 := ⟨q.a, q.b, q.c, q.d, e, q.f⟩
/-- Turned twice, a row is where it was. -/
theorem turn_back {a0 a1 a2 a3 a4 a5 n : Int} {xs : List S8} {c : Nat} (h : SpV a0 a1 a2 a3 a4 a5 n xs c) (q : P6) : turnR xs (q.row (turnR xs q)) = q.e := by
  rcases turn_cases h q with ⟨-, h2⟩ | ⟨t, -, ho, ⟨j, hj, rfl⟩, b0, b1, b2, b3, b4, b5, hh⟩
  · rw [h2]; exact h2
  · have hf : ∀ e, (xs[j]!.r = e ∨ xs[j]!.s = e) → xs.find? (hitS (q.row e)) = some xs[j]! := fun e he => hit_find h hj (by
      generalize xs[j]! = t at *
      simp only [hitS, P6.row, b0, b1, b2, b3, b4, b5, and_self, decide_true, Bool.true_and, Bool.or_eq_true]
      exact he.imp (fun h => decide_eq_true h) (fun h => decide_eq_true h))
    have hne : xs[j]!.r < xs[j]!.s := by
      have := (okS_iff h.n0 (p0 := xs[j]!.p0) (p1 := xs[j]!.p1) (p2 := xs[j]!.p2) (p3 := xs[j]!.p3) (p4 := xs[j]!.p4) (p5 := xs[j]!.p5) (r := xs[j]!.r) (s := xs[j]!.s)).1 ho
      omega
    rcases hh with ⟨e1, e2⟩ | ⟨e1, -, e2⟩
    · rw [e2]
      unfold turnR
      rw [hf _ (.inr rfl)]
      exact (if_neg (show ¬ xs[j]!.r = xs[j]!.s by omega)).trans e1
    · rw [e2]
      unfold turnR
      rw [hf _ (.inl rfl)]
      exact (if_pos rfl).trans e1
/-- The row that is turned to is a valid one. -/
theorem turn_pv {a0 a1 a2 a3 a4 a5 n : Int} {xs : List S8} {c : Nat} (h : SpV a0 a1 a2 a3 a4 a5 n xs c) {q : P6} (hq : PV a0 a1 a2 a3 a4 a5 q.a q.b q.c q.d q.e q.f) : PV a0 a1 a2 a3 a4 a5 q.a q.b q.c q.d (turnR xs q) q.f := by
  rcases turn_cases h q with ⟨-, h2⟩ | ⟨t, -, ho, -, b0, b1, b2, b3, b4, b5, hh⟩
  · rw [h2]; exact hq
  · have k := (okS_iff h.n0 (p0 := t.p0) (p1 := t.p1) (p2 := t.p2) (p3 := t.p3) (p4 := t.p4) (p5 := t.p5) (r := t.r) (s := t.s)).1 ho
    have hn := h.n0
    have e : rwz a4 = 2 ^ a4.toNat := rfl
    refine ⟨hq.h0, hq.h1, hq.h2, hq.h3, ?_, hq.h5⟩
    rcases hh with ⟨-, e2⟩ | ⟨-, -, e2⟩ <;> rw [e2] <;> omega
/-- One more swap of another bank turns nothing here. -/
theorem turn_apart {xs : List S8} {t : S8} {q : P6} (h : ¬ (t.p0 = q.a ∧ t.p1 = q.b ∧ t.p2 = q.c ∧ t.p3 = q.d)) : turnR (xs ++ [t]) q = turnR xs q := by
  have hh : hitS q t = false := by
    simp only [hitS, Bool.and_eq_false_iff, decide_eq_false_iff_not]
    exact .inl fun e => h ⟨e.1, e.2.1, e.2.2.1, e.2.2.2.1⟩
  unfold turnR
  rw [List.find?_append, List.find?_cons, hh, List.find?_nil, Option.or_none]
theorem free_apart {lo q0 q1 q2 q3 : Int} {xs : List S8} {t : S8} (k : Nat) (h : ¬ (t.p0 = q0 ∧ t.p1 = q1 ∧ t.p2 = q2 ∧ t.p3 = q3)) : freeK lo q0 q1 q2 q3 (xs ++ [t]) k = freeK lo q0 q1 q2 q3 xs k := by
  unfold freeK
  congr 1
  funext r
  have hh : holdsS q0 q1 q2 q3 r t = false := by
    simp only [holdsS, Bool.and_eq_false_iff, decide_eq_false_iff_not]
    exact .inl fun e => h ⟨e.1, e.2.1, e.2.2.1, e.2.2.2.1⟩
  rw [List.any_append, List.any_cons, List.any_nil, hh, Bool.or_false, Bool.or_false]
theorem freeK_sorted (lo p0 p1 p2 p3 : Int) (xs : List S8) (k : Nat) : (freeK lo p0 p1 p2 p3 xs k).Pairwise (· < ·) := by
  unfold freeK
  refine List.Pairwise.filter _ ?_
  rw [List.pairwise_map]
  exact List.pairwise_lt_range.imp fun h => by omega
/-- One more swap of this bank takes the first spare row. -/
theorem free_more {lo p0 p1 p2 p3 p4 f0 : Int} {xs : List S8} {k : Nat} {fs : List Int} (hf : freeK lo p0 p1 p2 p3 xs k = f0 :: fs) : freeK lo p0 p1 p2 p3 (xs ++ [⟨p0, p1, p2, p3, 0, 0, p4, f0⟩]) k = fs := by
  have h1 : freeK lo p0 p1 p2 p3 (xs ++ [⟨p0, p1, p2, p3, 0, 0, p4, f0⟩]) k = (freeK lo p0 p1 p2 p3 xs k).filter fun r => !decide (f0 = r) := by
    unfold freeK
    rw [List.filter_filter]
    congr 1
    funext r
    rw [List.any_append, List.any_cons, List.any_nil, Bool.or_false, Bool.not_or]
    have : holdsS p0 p1 p2 p3 r ⟨p0, p1, p2, p3, 0, 0, p4, f0⟩ = decide (f0 = r) := by simp [holdsS]
    rw [this, Bool.and_comm]
  have h2 := freeK_sorted lo p0 p1 p2 p3 xs k
  rw [h1, hf]
  rw [hf] at h2
  rw [List.filter_cons, if_neg (by simp)]
  refine List.filter_eq_self.2 fun r hr => ?_
  have := (List.pairwise_cons.1 h2).1 r hr
  have : f0 ≠ r := by omega
  simp [this]
end Go.Proofs.Ytcacgmfihhpliaa
