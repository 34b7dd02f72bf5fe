/- Package spare: Valid. -/
import Derived.Test.YtcacgmfihhpliaaSpare2
namespace Go.Proofs.Ytcacgmfihhpliaa
set_option linter.unusedSimpArgs false
set_option linter.unusedVariables false
open Go.RowKit
set_option maxRecDepth 100000
attribute [local go_sem] lt_more ne_more ne_more'
attribute [local irreducible] wpX wpF Calls

/-- All swaps are right. -/
def allR (a0 a1 a2 a3 a4 a5 n : Int) (xs : List S8) : Bool := (List.range xs.length).all (rightB a0 a1 a2 a3 a4 a5 n xs)
theorem svalid_bad {a0 a1 a2 a3 a4 a5 : Int} (h : ¬ SV a0 a1 a2 a3 a4 a5) (n : Int) (sa : Option Addr) (m c : Nat) (w : World) : Calls Try.prog 24 #[vSp a0 a1 a2 a3 a4 a5 n (.slice sa m c)] w (Gives (.bool false) w) := by
  have HV := Lib.hid (fun w => valid_no h w)
  go_enter Try.func24, Try.ntmps24
  have H := HS.start NoD w
  go_wp2_with fail
  refine (HV.out _).mono ?_
  rintro _ w1 ⟨rfl, hb⟩
  replace H := H.alloc.below hb
  clear hb
  try clear C
  try simp only [World.size_alloc, List.nil_append, List.cons_append, List.append_assoc] at H
  generalize w.heap.size = bX at H ⊢
  have C := H.cells
  try simp only [cellsOf, apartOf, and_true] at C
  dsimp only
  go_wp2_with fail
  go_ret
  exact ⟨rfl, H.done⟩
theorem svalid_sized {a0 a1 a2 a3 a4 a5 n : Int} (h : SV a0 a1 a2 a3 a4 a5) (hn : ¬ (0 ≤ n ∧ n < rwz a4)) (sa : Option Addr) (m c : Nat) (w : World) : Calls Try.prog 24 #[vSp a0 a1 a2 a3 a4 a5 n (.slice sa m c)] w (Gives (.bool false) w) := by
  have HV := Lib.hid (fun w => valid_yes h w)
  have HZ := Lib.hid (fun w => by have := ssized_of h n w; rw [decide_eq_false hn] at this; exact this : ∀ w, Calls Try.prog 52 #[v6 a0 a1 a2 a3 a4 a5, .int .i64 n] w (Gives (.bool false) w))
  go_enter Try.func24, Try.ntmps24
  have H := HS.start NoD w
  go_wp2_with fail
  refine (HV.out _).mono ?_
  rintro _ w1 ⟨rfl, hb⟩
  replace H := H.alloc.below hb
  clear hb
  try clear C
  try simp only [World.size_alloc, List.nil_append, List.cons_append, List.append_assoc] at H
  generalize w.heap.size = bX at H ⊢
  have C := H.cells
  try simp only [cellsOf, apartOf, and_true] at C
  dsimp only
  go_wp2_with fail
  refine (HZ.out _).mono ?_
  rintro _ w2 ⟨rfl, hb⟩
  replace H := H.below hb
  clear hb
  try clear C
  try simp only [World.size_alloc, List.nil_append, List.cons_append, List.append_assoc] at H
  try clear w1
  have C := H.cells
  try simp only [cellsOf, apartOf, and_true] at C
  dsimp only
  go_wp2_with fail
  go_ret
  exact ⟨rfl, H.done⟩
set_option maxHeartbeats 4000000 in
theorem svalid_of {a0 a1 a2 a3 a4 a5 n : Int} (h : SV a0 a1 a2 a3 a4 a5) (hn : 0 ≤ n ∧ n < rwz a4) {sa : Option Addr} (c : Nat) {xs : List S8} (hx : xs.length ≤ 1000) (hcap : xs.length ≤ c) (w : World) (hl : Lies w w.heap.size sa 8 xs.length (fun j => sC xs[j]!)) :
    Calls Try.prog 24 #[vSp a0 a1 a2 a3 a4 a5 n (.slice sa xs.length c)] w (Gives (.bool (decide (xs.length ≤ 16) && allR a0 a1 a2 a3 a4 a5 n xs)) w) := by
  have HL := Lib.hid hl
  clear hl
  have HV := Lib.hid (fun w => valid_yes h w)
  have HZ := Lib.hid (fun w => by have := ssized_of h n w; rw [decide_eq_true hn] at this; exact this : ∀ w, Calls Try.prog 52 #[v6 a0 a1 a2 a3 a4 a5, .int .i64 n] w (Gives (.bool true) w))
  by_cases h16 : xs.length ≤ 16
  · rw [decide_eq_true h16, Bool.true_and]
    go_enter Try.func24, Try.ntmps24
    have H := HS.start NoD w
    go_wp2_with fail
    refine (HV.out _).mono ?_
    rintro _ w1 ⟨rfl, hb⟩
    replace H := H.alloc.below hb
    clear hb
    try clear C
    try simp only [World.size_alloc, List.nil_append, List.cons_append, List.append_assoc] at H
    generalize w.heap.size = bX at H ⊢
    have C := H.cells
    try simp only [cellsOf, apartOf, and_true] at C
    dsimp only
    go_wp2_with fail
    refine (HZ.out _).mono ?_
    rintro _ w2 ⟨rfl, hb⟩
    replace H := H.below hb
    clear hb
    try clear C
    try simp only [World.size_alloc, List.nil_append, List.cons_append, List.append_assoc] at H
    try clear w1
    have C := H.cells
    try simp only [cellsOf, apartOf, and_true] at C
    dsimp only
    go_wp2_with fail
    go_loopw [25] (fun i wr => ∃ (j : Nat), i = .int .i64 j ∧ j ≤ xs.length ∧ Hid (∀ k, k < j → rightB a0 a1 a2 a3 a4 a5 n xs k = true) ∧ HS NoD w [.blk bX #[.int .i64 a0, .int .i64 a1, .int .i64 a2, .int .i64 a3, .int .i64 a4, .int .i64 a5, .int .i64 n, .slice sa xs.length c] 26] wr) (fun i _ => xs.length - (intOf i).toNat)
    case atStart => exact ⟨0, rfl, Nat.zero_le _, fun k hk => absurd hk (Nat.not_lt_zero _), H⟩
    case round =>
      clear H C w2
      obtain ⟨j, rfl, hj, HF, H⟩ := hrel
      skip
      try clear C
      try simp only [World.size_alloc, List.nil_append, List.cons_append, List.append_assoc] at H
      have C := H.cells
      try simp only [cellsOf, apartOf, and_true] at C
      by_cases hlt : j < xs.length
      · have hr := Lib.hid (fun w hl => right_of h hn (sa := sa) c hx hcap j hlt w hl)
        cases hb : rightB a0 a1 a2 a3 a4 a5 n xs j with
        | true =>
          rw [hb] at hr
          have HB := Lib.hid hb
          clear hb
          skip
          go_wp2_with fail
          refine (hr.out _ (H.liesUp HL.out)).mono ?_
          rintro _ w3 ⟨rfl, hb⟩
          replace H := H.below hb
          clear hb
          try clear C
          try simp only [World.size_alloc, List.nil_append, List.cons_append, List.append_assoc] at H
          try clear wr
          have C := H.cells
          try simp only [cellsOf, apartOf, and_true] at C
          dsimp only
          go_wp2_with fail
          go_roundw
          case rel =>
            refine ⟨j + 1, by go_num, by omega, (show Hid _ from fun k hk => ?_), H⟩
            by_cases e : k = j
            · rw [e]; exact HB.out
            · exact HF.out k (by omega)
          case measure => simp [intOf]; omega
        | false =>
          rw [hb] at hr
          have HB := Lib.hid hb
          clear hb
          skip
          go_wp2_with fail
          refine (hr.out _ (H.liesUp HL.out)).mono ?_
          rintro _ w4 ⟨rfl, hb⟩
          replace H := H.below hb
          clear hb
          try clear C
          try simp only [World.size_alloc, List.nil_append, List.cons_append, List.append_assoc] at H
          try clear wr
          have C := H.cells
          try simp only [cellsOf, apartOf, and_true] at C
          dsimp only
          go_wp2_with fail
          go_ret
          refine ⟨?_, H.done⟩
          have : allR a0 a1 a2 a3 a4 a5 n xs = false := by
            unfold allR
            rw [List.all_eq_false]
            exact ⟨j, List.mem_range.2 hlt, by rw [HB.out]; decide⟩
          rw [this]
          rfl
      · skip
        go_wp2_with fail
        go_ret
        refine ⟨?_, H.done⟩
        have : allR a0 a1 a2 a3 a4 a5 n xs = true := by
          unfold allR
          rw [List.all_eq_true]
          exact fun k hk => HF.out k (by have := List.mem_range.1 hk; omega)
        rw [this]
        rfl
  · rw [decide_eq_false h16, Bool.false_and]
    go_enter Try.func24, Try.ntmps24
    have H := HS.start NoD w
    go_wp2_with fail
    refine (HV.out _).mono ?_
    rintro _ w1 ⟨rfl, hb⟩
    replace H := H.alloc.below hb
    clear hb
    try clear C
    try simp only [World.size_alloc, List.nil_append, List.cons_append, List.append_assoc] at H
    generalize w.heap.size = bX at H ⊢
    have C := H.cells
    try simp only [cellsOf, apartOf, and_true] at C
    dsimp only
    go_wp2_with fail
    refine (HZ.out _).mono ?_
    rintro _ w2 ⟨rfl, hb⟩
    replace H := H.below hb
    clear hb
    try clear C
    try simp only [World.size_alloc, List.nil_append, List.cons_append, List.append_assoc] at H
    try clear w1
    have C := H.cells
    try simp only [cellsOf, apartOf, and_true] at C
    dsimp only
    go_wp2_with fail
    go_ret
    exact ⟨rfl, H.done⟩
end Go.Proofs.Ytcacgmfihhpliaa
