/- Spares of any kind: both packages answer the same. -/
import Derived.Test.YtcacgmfihhpliaaSpare16
import Derived.Test.YtcacgmfihhpliaaMillS
import Derived.Test.YtcacgmfihhpliaaApartM
namespace Go.Proofs.Ytcacgmfihhpliaa
set_option linter.unusedSimpArgs false
set_option linter.unusedVariables false
open Go.RowKit
set_option maxRecDepth 100000
attribute [local go_sem] lt_more ne_more ne_more'
attribute [local irreducible] wpX wpF Calls

/-- Are spares valid? -/
def vB (a0 a1 a2 a3 a4 a5 n : Int) (xs : List S8) : Bool := decide (SV a0 a1 a2 a3 a4 a5) && (decide (0 ≤ n ∧ n < rwz a4) && (decide (xs.length ≤ 16) && allR a0 a1 a2 a3 a4 a5 n xs))
section
variable {a0 a1 a2 a3 a4 a5 n : Int} {xs : List S8} {c : Nat} {sa : Option Addr}
theorem svalid_all (hx : xs.length ≤ 1000) (hc : xs.length ≤ c) (w : World) (hl : Lies w w.heap.size sa 8 xs.length (fun j => sC xs[j]!)) :
    Calls Try.prog 24 #[vSp a0 a1 a2 a3 a4 a5 n (.slice sa xs.length c)] w (Gives (.bool (vB a0 a1 a2 a3 a4 a5 n xs)) w) := by
  by_cases h : SV a0 a1 a2 a3 a4 a5
  · by_cases hn : 0 ≤ n ∧ n < rwz a4
    · have := svalid_of h hn c hx hc w hl
      unfold vB
      rw [decide_eq_true h, decide_eq_true hn]
      exact this
    · unfold vB
      rw [decide_eq_true h, decide_eq_false hn]
      exact svalid_sized h hn sa _ c w
  · unfold vB
    rw [decide_eq_false h]
    exact svalid_bad h n sa _ c w
theorem qvalid_all (hx : xs.length ≤ 1000) (hc : xs.length ≤ c) (w : World) (hl : Lies w w.heap.size sa 8 xs.length (fun j => sC xs[j]!)) :
    Calls Try.prog 25 #[vSp a0 a1 a2 a3 a4 a5 n (.slice sa xs.length c)] w (Gives (.bool (vB a0 a1 a2 a3 a4 a5 n xs)) w) := by
  by_cases h : SV a0 a1 a2 a3 a4 a5
  · by_cases hn : 0 ≤ n ∧ n < rwz a4
    · have := qvalid_of h hn c hx hc w hl
      unfold vB
      rw [decide_eq_true h, decide_eq_true hn]
      exact this
    · unfold vB
      rw [decide_eq_true h, decide_eq_false hn]
      exact qvalid_sized h hn sa _ c w
  · unfold vB
    rw [decide_eq_false h]
    exact qvalid_bad h n sa _ c w
theorem vB_spv (hc : xs.length ≤ c) (h : vB a0 a1 a2 a3 a4 a5 n xs = true) : SpV a0 a1 a2 a3 a4 a5 n xs c := by
  unfold vB at h
  simp only [Bool.and_eq_true, decide_eq_true_eq] at h
  exact ⟨h.1, h.2.1, h.2.2.1, hc, h.2.2.2⟩
theorem vB_of (h : SpV a0 a1 a2 a3 a4 a5 n xs c) : vB a0 a1 a2 a3 a4 a5 n xs = true := by
  unfold vB
  simp only [Bool.and_eq_true, decide_eq_true_eq]
  exact ⟨h.sv, h.n0, h.len, h.all⟩
/-- New of both packages. -/
theorem new_both (a0 a1 a2 a3 a4 a5 n : Int) : ∃ (b0 b1 b2 b3 b4 b5 m er : Int), (∀ w, Calls Try.prog 21 #[v6 a0 a1 a2 a3 a4 a5, .int .i64 n] w (Gives (.tuple #[vSp b0 b1 b2 b3 b4 b5 m (.slice none 0 0), .int .i64 er]) w)) ∧
    (∀ w, Calls Try.prog 22 #[v6 a0 a1 a2 a3 a4 a5, .int .i64 n] w (Gives (.tuple #[vSp b0 b1 b2 b3 b4 b5 m (.slice none 0 0), .int .i64 er]) w)) := by
  by_cases h : SV a0 a1 a2 a3 a4 a5
  · by_cases hn : 0 ≤ n ∧ n < rwz a4
    · exact ⟨_, _, _, _, _, _, _, _, fun w => snew_yes h hn w, fun w => qnew_yes h hn w⟩
    · exact ⟨_, _, _, _, _, _, _, _, fun w => snew_range h hn w, fun w => qnew_range h hn w⟩
  · exact ⟨_, _, _, _, _, _, _, _, fun w => snew_bad h n w, fun w => qnew_bad h n w⟩
/-- What Swap hands back: an error and spares of zeros, or the same spares with these swaps. -/
def SwB (b0 b1 b2 b3 b4 b5 m er : Int) (ys : List S8) (w : World) : Ending → World → Prop := GivesS (fun v => .tuple #[vSp b0 b1 b2 b3 b4 b5 m v, .int .i64 er]) 38 8 ys.length (ys.flatMap sC) w
theorem SwB.err {er : Int} {w : World} : ∀ e w', Gives (.tuple #[vSp 0 0 0 0 0 0 0 (.slice none 0 0), .int .i64 er]) w e w' → SwB 0 0 0 0 0 0 0 er [] w e w' := by
  rintro e w' ⟨rfl, hb⟩
  exact ⟨none, 0, rfl, World.ownsRow_nil _ _ _ _, hb⟩
theorem swap_both (hx : xs.length ≤ 1000) (hc : xs.length ≤ c) (p0 p1 p2 p3 p4 p5 : Int) : ∃ (b0 b1 b2 b3 b4 b5 m er : Int) (ys : List S8), ys.length ≤ 1000 ∧
    (∀ w, Lies w w.heap.size sa 8 xs.length (fun j => sC xs[j]!) → Calls Try.prog 26 #[vSp a0 a1 a2 a3 a4 a5 n (.slice sa xs.length c), v6 p0 p1 p2 p3 p4 p5] w (SwB b0 b1 b2 b3 b4 b5 m er ys w)) ∧
    (∀ w, Lies w w.heap.size sa 8 xs.length (fun j => sC xs[j]!) → Calls Try.prog 27 #[vSp a0 a1 a2 a3 a4 a5 n (.slice sa xs.length c), v6 p0 p1 p2 p3 p4 p5] w (SwB b0 b1 b2 b3 b4 b5 m er ys w)) := by
  cases hv : vB a0 a1 a2 a3 a4 a5 n xs with
  | false =>
    refine ⟨0, 0, 0, 0, 0, 0, 0, 1, [], Nat.zero_le _, fun w hl => (sswap_bad (fun w hl => ?_) w hl).mono SwB.err, fun w hl => (qswap_bad (fun w hl => ?_) w hl).mono SwB.err⟩
    · have := svalid_all (n := n) (a0 := a0) (a1 := a1) (a2 := a2) (a3 := a3) (a4 := a4) (a5 := a5) hx hc w hl; rwa [hv] at this
    · have := qvalid_all (n := n) (a0 := a0) (a1 := a1) (a2 := a2) (a3 := a3) (a4 := a4) (a5 := a5) hx hc w hl; rwa [hv] at this
  | true =>
    have h := vB_spv hc hv
    by_cases hp : PV a0 a1 a2 a3 a4 a5 p0 p1 p2 p3 p4 p5
    · have hq : ∀ w, Lies w w.heap.size sa 8 xs.length (fun j => sC xs[j]!) → _ := fun w hl => qswap_any h hp (sa := sa) w hl
      unfold SwapR at hq
      by_cases hr : rwz a4 - n ≤ p4
      · refine ⟨0, 0, 0, 0, 0, 0, 0, 2, [], Nat.zero_le _, fun w hl => (swap_range h hp hr w hl).mono SwB.err, fun w hl => ?_⟩
        have := hq w hl
        rw [if_pos hr] at this
        exact this.mono SwB.err
      · cases ht : xs.any (holdsR p0 p1 p2 p3 p4) with
        | true =>
          refine ⟨0, 0, 0, 0, 0, 0, 0, 8, [], Nat.zero_le _, fun w hl => (swap_twice h hp hr ht w hl).mono SwB.err, fun w hl => ?_⟩
          have := hq w hl
          rw [if_neg hr, if_pos ht] at this
          exact this.mono SwB.err
        | false =>
          have htn : ¬ xs.any (holdsR p0 p1 p2 p3 p4) = true := by rw [ht]; decide
          cases hf : freeK (rwz a4 - n) p0 p1 p2 p3 xs n.toNat with
          | nil =>
            refine ⟨0, 0, 0, 0, 0, 0, 0, 44, [], Nat.zero_le _, fun w hl => (swap_none h hp hr ht (by rw [hf]; rfl) w hl).mono SwB.err, fun w hl => ?_⟩
            have := hq w hl
            rw [if_neg hr, if_neg htn, hf] at this
            exact this.mono SwB.err
          | cons f0 fs =>
            by_cases h16 : xs.length = 16
            · refine ⟨0, 0, 0, 0, 0, 0, 0, 16, [], Nat.zero_le _, fun w hl => (swap_full h hp hr ht (by rw [hf]; simp) h16 w hl).mono SwB.err, fun w hl => ?_⟩
              have := hq w hl
              rw [if_neg hr, if_neg htn, hf] at this
              dsimp only at this
              rw [if_pos h16] at this
              exact this.mono SwB.err
            · have := h.len
              refine ⟨a0, a1, a2, a3, a4, a5, n, 0, xs ++ [(⟨p0, p1, p2, p3, 0, 0, p4, f0⟩ : S8)], by rw [List.length_append]; simp; omega, fun w hl => swap_ok_any h hp hr ht hf (by omega) w hl, fun w hl => ?_⟩
              have := hq w hl
              rw [if_neg hr, if_neg htn, hf] at this
              dsimp only at this
              rw [if_neg h16] at this
              exact this
    · exact ⟨0, 0, 0, 0, 0, 0, 0, 2, [], Nat.zero_le _, fun w hl => (sswap_out h hp w hl).mono SwB.err, fun w hl => (qswap_out h hp w hl).mono SwB.err⟩
theorem left_both (hx : xs.length ≤ 1000) (hc : xs.length ≤ c) (p0 p1 p2 p3 p4 p5 : Int) : ∃ (m : Int),
    (∀ w, Lies w w.heap.size sa 8 xs.length (fun j => sC xs[j]!) → Calls Try.prog 28 #[vSp a0 a1 a2 a3 a4 a5 n (.slice sa xs.length c), v6 p0 p1 p2 p3 p4 p5] w (Gives (.int .i64 m) w)) ∧
    (∀ w, Lies w w.heap.size sa 8 xs.length (fun j => sC xs[j]!) → Calls Try.prog 29 #[vSp a0 a1 a2 a3 a4 a5 n (.slice sa xs.length c), v6 p0 p1 p2 p3 p4 p5] w (Gives (.int .i64 m) w)) := by
  cases hv : vB a0 a1 a2 a3 a4 a5 n xs with
  | false =>
    refine ⟨0, fun w hl => sleft_bad (fun w hl => ?_) w hl, fun w hl => qleft_bad (fun w hl => ?_) w hl⟩
    · have := svalid_all (n := n) (a0 := a0) (a1 := a1) (a2 := a2) (a3 := a3) (a4 := a4) (a5 := a5) hx hc w hl; rwa [hv] at this
    · have := qvalid_all (n := n) (a0 := a0) (a1 := a1) (a2 := a2) (a3 := a3) (a4 := a4) (a5 := a5) hx hc w hl; rwa [hv] at this
  | true =>
    have h := vB_spv hc hv
    by_cases hp : PV a0 a1 a2 a3 a4 a5 p0 p1 p2 p3 p4 p5
    · exact ⟨_, fun w hl => sleft_of h.sv h.n0 hp c h.len h.cap h.all w hl, fun w hl => qleft_of h hp w hl⟩
    · exact ⟨_, fun w hl => sleft_out h hp w hl, fun w hl => qleft_out h hp w hl⟩
theorem turn_both (hx : xs.length ≤ 1000) (hc : xs.length ≤ c) (i : Int) : ∃ (k er : Int),
    (∀ w, Lies w w.heap.size sa 8 xs.length (fun j => sC xs[j]!) → Calls Try.prog 32 #[vSp a0 a1 a2 a3 a4 a5 n (.slice sa xs.length c), .int .i64 i] w (Gives (.tuple #[.int .i64 k, .int .i64 er]) w)) ∧
    (∀ w, Lies w w.heap.size sa 8 xs.length (fun j => sC xs[j]!) → Calls Try.prog 33 #[vSp a0 a1 a2 a3 a4 a5 n (.slice sa xs.length c), .int .i64 i] w (Gives (.tuple #[.int .i64 k, .int .i64 er]) w)) := by
  cases hv : vB a0 a1 a2 a3 a4 a5 n xs with
  | false =>
    refine ⟨0, 1, fun w hl => sturn_bad (fun w hl => ?_) w hl, fun w hl => qturn_bad (fun w hl => ?_) w hl⟩
    · have := svalid_all (n := n) (a0 := a0) (a1 := a1) (a2 := a2) (a3 := a3) (a4 := a4) (a5 := a5) hx hc w hl; rwa [hv] at this
    · have := qvalid_all (n := n) (a0 := a0) (a1 := a1) (a2 := a2) (a3 := a3) (a4 := a4) (a5 := a5) hx hc w hl; rwa [hv] at this
  | true =>
    have h := vB_spv hc hv
    by_cases hi : 0 ≤ i ∧ i < 2 ^ (a0 + a1 + a2 + a3 + a4 + a5).toNat
    · have hp := (at_pv h.sv hi.1 hi.2).1
      exact ⟨_, _, fun w hl => turn_of h hi.1 hi.2 rfl hp w hl, fun w hl => qturn_of h hi.1 hi.2 rfl hp w hl⟩
    · exact ⟨_, _, fun w hl => turn_out h hi w hl, fun w hl => qturn_out h hi w hl⟩
theorem res_both (hx : xs.length ≤ 1000) (hc : xs.length ≤ c) (i : Int) : ∃ (b : Bool),
    (∀ w, Lies w w.heap.size sa 8 xs.length (fun j => sC xs[j]!) → Calls Try.prog 34 #[vSp a0 a1 a2 a3 a4 a5 n (.slice sa xs.length c), .int .i64 i] w (Gives (.bool b) w)) ∧
    (∀ w, Lies w w.heap.size sa 8 xs.length (fun j => sC xs[j]!) → Calls Try.prog 35 #[vSp a0 a1 a2 a3 a4 a5 n (.slice sa xs.length c), .int .i64 i] w (Gives (.bool b) w)) := by
  cases hv : vB a0 a1 a2 a3 a4 a5 n xs with
  | false =>
    have hat : ∃ q0 q1 q2 q3 q4 q5 er : Int, ∀ w, Calls Try.prog 38 #[v6 a0 a1 a2 a3 a4 a5, .int .i64 i] w (Gives (.tuple #[v6 q0 q1 q2 q3 q4 q5, .int .i64 er]) w) := by
      by_cases h : SV a0 a1 a2 a3 a4 a5
      · by_cases hi : 0 ≤ i ∧ i < 2 ^ (a0 + a1 + a2 + a3 + a4 + a5).toNat
        · exact ⟨_, _, _, _, _, _, _, fun w => rat_is h hi.1 hi.2 w⟩
        · exact ⟨_, _, _, _, _, _, _, fun w => rat_out h hi w⟩
      · exact ⟨_, _, _, _, _, _, _, fun w => rat_bad h w⟩
    obtain ⟨q0, q1, q2, q3, q4, q5, er, ha⟩ := hat
    refine ⟨false, fun w hl => sres_bad (fun w hl => ?_) w hl, fun w hl => qres_bad (fun w hl => ?_) ha w hl⟩
    · have := svalid_all (n := n) (a0 := a0) (a1 := a1) (a2 := a2) (a3 := a3) (a4 := a4) (a5 := a5) hx hc w hl; rwa [hv] at this
    · have := qvalid_all (n := n) (a0 := a0) (a1 := a1) (a2 := a2) (a3 := a3) (a4 := a4) (a5 := a5) hx hc w hl; rwa [hv] at this
  | true =>
    have h := vB_spv hc hv
    by_cases hi : 0 ≤ i ∧ i < 2 ^ (a0 + a1 + a2 + a3 + a4 + a5).toNat
    · exact ⟨_, fun w hl => sreserved_of h hi.1 hi.2 w hl, fun w hl => qres_of h hi.1 hi.2 w hl⟩
    · exact ⟨_, fun w hl => sres_out h hi w hl, fun w hl => qres_out h hi w hl⟩
end
end Go.Proofs.Ytcacgmfihhpliaa
