/- cache.within, sized, New, empty; line.Valid; the reference's New, empty, Valid of a line. -/
import Derived.Test.YtfmcicmbehjdcaaLrA
namespace Go.Proofs.Ytfmcicmbehjdcaa
set_option linter.unusedSimpArgs false
set_option linter.unusedVariables false
open Go.RowKit
set_option maxRecDepth 100000
attribute [local irreducible] wpX wpF Calls

def lineB (size : Int) (m : Lm) : Bool := decide (1 ≤ size ∧ size ≤ 32 ∧ (m.bs.length : Int) = size ∧ 0 ≤ m.ad ∧ m.ad < 1048576)
def emptyB (s : Sm) : Bool := !s.u && decide (s.age = 0) && decide (s.ln.ad = 0) && decide (s.ln.bs.length = 0) && !s.ln.d && !s.ln.p
def sizedB (sets ways size : Int) : Bool := decide (1 ≤ sets ∧ sets ≤ 8 ∧ 1 ≤ ways ∧ ways ≤ 4 ∧ 1 ≤ size ∧ size ≤ 32)
def zSm : Sm := ⟨false, 0, ⟨0, [], false, false⟩⟩
def zSw : Sw := ⟨zSm, ⟨none, 0, 0⟩⟩
theorem made_sw (n : Nat) : (madeCells #[.bool false, .int .i64 0, .int .i64 0, .slice none 0 0, .bool false, .bool false] (n * 6)).toList = (List.replicate n zSw).flatMap swC := by
  refine List.ext_getElem (by rw [flat_len swC_len]; simp [madeCells]) fun i h1 h2 => ?_
  rw [flat_len swC_len, List.length_replicate] at h2
  have hq : i / 6 < n := by omega
  have key : ∀ r, r < 6 → ∃ u, (swC zSw)[r]? = some u ∧ (#[.bool false, .int .i64 0, .int .i64 0, .slice none 0 0, .bool false, .bool false] : Array Value)[r]! = u := fun r hr => by
    have : r = 0 ∨ r = 1 ∨ r = 2 ∨ r = 3 ∨ r = 4 ∨ r = 5 := by omega
    rcases this with rfl | rfl | rfl | rfl | rfl | rfl <;> exact ⟨_, rfl, rfl⟩
  obtain ⟨u, hu, hv⟩ := key (i % 6) (by omega)
  have h3 := flat_get swC_len (List.replicate n zSw) (i / 6) (i % 6) u (by rw [List.length_replicate]; exact hq) (by rw [getElem!_pos _ _ (by rw [List.length_replicate]; exact hq), List.getElem_replicate]; exact hu)
  rw [show i / 6 * 6 + i % 6 = i by omega] at h3
  have h4 := List.getElem?_eq_some_iff.1 h3
  obtain ⟨h5, h6⟩ := h4
  rw [h6]
  simp only [madeCells, Array.toList_map, Array.toList_range, List.getElem_map, List.getElem_range]
  exact hv
theorem bytes_nil (w : World) : BytesAt w ⟨none, 0, 0⟩ [] := ⟨rfl, ⟨Nat.le_refl _, fun _ => rfl⟩, Lies.nil0⟩
theorem slotsOk_rep (w : World) (n : Nat) : SlotsOk w (List.replicate n zSw) := fun j hj => by
  rw [List.length_replicate] at hj
  rw [getElem!_pos _ _ (by rw [List.length_replicate]; exact hj), List.getElem_replicate]
  exact bytes_nil w
theorem cwithin_any (n m : Int) (w : World) : Calls Try.prog 53 #[.int .i64 n, .int .i64 m] w (Gives (.bool (decide (1 ≤ n ∧ n ≤ m))) w) := by
  by_cases h1 : 1 ≤ n
  · by_cases h2 : n ≤ m
    all_goals
      go_enter Try.func53, Try.ntmps53
      have H := HS.start NoD w
      go_wp2_with fail
      go_ret
      exact ⟨by first | (simp [h1, h2]; done) | (simp; omega), H.done⟩
  · go_enter Try.func53, Try.ntmps53
    have H := HS.start NoD w
    go_wp2_with fail
    go_ret
    exact ⟨by first | (simp [h1]; done) | (simp; omega), H.done⟩
theorem csized_any (sets ways size : Int) (w : World) : Calls Try.prog 34 #[.int .i64 sets, .int .i64 ways, .int .i64 size] w (Gives (.bool (sizedB sets ways size)) w) := by
  have HW := Lib.hid (fun n m w => cwithin_any n m w)
  by_cases h1 : 1 ≤ sets ∧ sets ≤ 8
  · by_cases h2 : 1 ≤ ways ∧ ways ≤ 4
    · by_cases h3 : 1 ≤ size ∧ size ≤ 32
      · have hw1 := Lib.hid (fun w => HW.out sets 8 w)
        have hw2 := Lib.hid (fun w => HW.out ways 4 w)
        have hw3 := Lib.hid (fun w => HW.out size 32 w)
        rw [decide_eq_true h1] at hw1
        rw [decide_eq_true h2] at hw2
        rw [decide_eq_true h3] at hw3
        rw [show sizedB sets ways size = true from decide_eq_true (by omega)]
        clear HW h1 h2 h3
        go_enter Try.func34, Try.ntmps34
        have H := HS.start NoD w
        go_wp2_with fail
        refine (hw1.out _).mono ?_
        rintro _ w1 ⟨rfl, hb⟩
        replace H := H.below hb
        clear hb
        try clear C
        try simp only [World.size_alloc, List.nil_append, List.cons_append, List.append_assoc] at H
        have C := H.cells
        try simp only [cellsOf, cellsM, apartOf, apartM, and_true] at C
        dsimp only
        go_wp2_with fail
        refine (hw2.out _).mono ?_
        rintro _ w2 ⟨rfl, hb⟩
        replace H := H.below hb
        clear hb
        try clear C
        try simp only [World.size_alloc, List.nil_append, List.cons_append, List.append_assoc] at H
        try clear w1
        have C := H.cells
        try simp only [cellsOf, cellsM, apartOf, apartM, and_true] at C
        dsimp only
        go_wp2_with fail
        refine (hw3.out _).mono ?_
        rintro _ w3 ⟨rfl, hb⟩
        replace H := H.below hb
        clear hb
        try clear C
        try simp only [World.size_alloc, List.nil_append, List.cons_append, List.append_assoc] at H
        try clear w2
        have C := H.cells
        try simp only [cellsOf, cellsM, apartOf, apartM, and_true] at C
        dsimp only
        go_wp2_with fail
        go_ret
        exact ⟨rfl, H.done⟩
      · have hw1 := Lib.hid (fun w => HW.out sets 8 w)
        have hw2 := Lib.hid (fun w => HW.out ways 4 w)
        have hw3 := Lib.hid (fun w => HW.out size 32 w)
        rw [decide_eq_true h1] at hw1
        rw [decide_eq_true h2] at hw2
        rw [decide_eq_false h3] at hw3
        rw [show sizedB sets ways size = false from decide_eq_false (by omega)]
        clear HW h1 h2 h3
        go_enter Try.func34, Try.ntmps34
        have H := HS.start NoD w
        go_wp2_with fail
        refine (hw1.out _).mono ?_
        rintro _ w1 ⟨rfl, hb⟩
        replace H := H.below hb
        clear hb
        try clear C
        try simp only [World.size_alloc, List.nil_append, List.cons_append, List.append_assoc] at H
        have C := H.cells
        try simp only [cellsOf, cellsM, apartOf, apartM, and_true] at C
        dsimp only
        go_wp2_with fail
        refine (hw2.out _).mono ?_
        rintro _ w2 ⟨rfl, hb⟩
        replace H := H.below hb
        clear hb
        try clear C
        try simp only [World.size_alloc, List.nil_append, List.cons_append, List.append_assoc] at H
        try clear w1
        have C := H.cells
        try simp only [cellsOf, cellsM, apartOf, apartM, and_true] at C
        dsimp only
        go_wp2_with fail
        refine (hw3.out _).mono ?_
        rintro _ w3 ⟨rfl, hb⟩
        replace H := H.below hb
        clear hb
        try clear C
        try simp only [World.size_alloc, List.nil_append, List.cons_append, List.append_assoc] at H
        try clear w2
        have C := H.cells
        try simp only [cellsOf, cellsM, apartOf, apartM, and_true] at C
        dsimp only
        go_wp2_with fail
        go_ret
        exact ⟨rfl, H.done⟩
    · have hw1 := Lib.hid (fun w => HW.out sets 8 w)
      have hw2 := Lib.hid (fun w => HW.out ways 4 w)
      rw [decide_eq_true h1] at hw1
      rw [decide_eq_false h2] at hw2
      rw [show sizedB sets ways size = false from decide_eq_false (by omega)]
      clear HW h1 h2
      go_enter Try.func34, Try.ntmps34
      have H := HS.start NoD w
      go_wp2_with fail
      refine (hw1.out _).mono ?_
      rintro _ w1 ⟨rfl, hb⟩
      replace H := H.below hb
      clear hb
      try clear C
      try simp only [World.size_alloc, List.nil_append, List.cons_append, List.append_assoc] at H
      have C := H.cells
      try simp only [cellsOf, cellsM, apartOf, apartM, and_true] at C
      dsimp only
      go_wp2_with fail
      refine (hw2.out _).mono ?_
      rintro _ w2 ⟨rfl, hb⟩
      replace H := H.below hb
      clear hb
      try clear C
      try simp only [World.size_alloc, List.nil_append, List.cons_append, List.append_assoc] at H
      try clear w1
      have C := H.cells
      try simp only [cellsOf, cellsM, apartOf, apartM, and_true] at C
      dsimp only
      go_wp2_with fail
      go_ret
      exact ⟨rfl, H.done⟩
  · have hw1 := Lib.hid (fun w => HW.out sets 8 w)
    rw [decide_eq_false h1] at hw1
    rw [show sizedB sets ways size = false from decide_eq_false (by omega)]
    clear HW h1
    go_enter Try.func34, Try.ntmps34
    have H := HS.start NoD w
    go_wp2_with fail
    refine (hw1.out _).mono ?_
    rintro _ w1 ⟨rfl, hb⟩
    replace H := H.below hb
    clear hb
    try clear C
    try simp only [World.size_alloc, List.nil_append, List.cons_append, List.append_assoc] at H
    have C := H.cells
    try simp only [cellsOf, cellsM, apartOf, apartM, and_true] at C
    dsimp only
    go_wp2_with fail
    go_ret
    exact ⟨rfl, H.done⟩
set_option maxHeartbeats 2000000 in
theorem lvalid_any (size : Int) (m : Lm) (x : Sv) (hn : x.n = m.bs.length) (w : World) : Calls Try.prog 44 #[.int .i64 size, lnV m x] w (Gives (.bool (lineB size m)) w) := by
  obtain ⟨sa, n, c⟩ := x
  obtain ⟨ad, bs, d, p⟩ := m
  obtain rfl : n = bs.length := hn
  show Calls Try.prog 44 #[.int .i64 size, .agg #[.int .i64 ad, .slice sa bs.length c, .bool d, .bool p]] w _
  by_cases h1 : 1 ≤ size
  · skip
    by_cases h2 : size ≤ 32
    · skip
      by_cases h3 : (bs.length : Int) = size
      · have h3b : ((bs.length : Int) == size) = true := beq_iff_eq.2 h3
        by_cases h4 : 0 ≤ ad
        · skip
          by_cases h5 : ad < 1048576
          · skip
            rw [show lineB size ⟨ad, bs, d, p⟩ = true from decide_eq_true (by dsimp only; omega)]
            go_enter Try.func44, Try.ntmps44
            have H := HS.start NoD w
            go_wp2_with fail
            go_ret
            exact ⟨rfl, H.alloc.done⟩
          · skip
            rw [show lineB size ⟨ad, bs, d, p⟩ = false from decide_eq_false (by dsimp only; omega)]
            go_enter Try.func44, Try.ntmps44
            have H := HS.start NoD w
            go_wp2_with fail
            go_ret
            exact ⟨rfl, H.alloc.done⟩
        · skip
          rw [show lineB size ⟨ad, bs, d, p⟩ = false from decide_eq_false (by dsimp only; omega)]
          go_enter Try.func44, Try.ntmps44
          have H := HS.start NoD w
          go_wp2_with fail
          go_ret
          exact ⟨rfl, H.alloc.done⟩
      · have h3b : ((bs.length : Int) == size) = false := beq_eq_false_iff_ne.2 h3
        rw [show lineB size ⟨ad, bs, d, p⟩ = false from decide_eq_false (by dsimp only; omega)]
        go_enter Try.func44, Try.ntmps44
        have H := HS.start NoD w
        go_wp2_with fail
        go_ret
        exact ⟨rfl, H.alloc.done⟩
    · skip
      rw [show lineB size ⟨ad, bs, d, p⟩ = false from decide_eq_false (by dsimp only; omega)]
      go_enter Try.func44, Try.ntmps44
      have H := HS.start NoD w
      go_wp2_with fail
      go_ret
      exact ⟨rfl, H.alloc.done⟩
  · skip
    rw [show lineB size ⟨ad, bs, d, p⟩ = false from decide_eq_false (by dsimp only; omega)]
    go_enter Try.func44, Try.ntmps44
    have H := HS.start NoD w
    go_wp2_with fail
    go_ret
    exact ⟨rfl, H.alloc.done⟩
set_option maxHeartbeats 2000000 in
theorem l30valid_any (size : Int) (m : Lm) (x : Sv) (hn : x.n = m.bs.length) (w : World) : Calls Try.prog 37 #[.int .i64 size, lnV m x] w (Gives (.bool (lineB size m)) w) := by
  obtain ⟨sa, n, c⟩ := x
  obtain ⟨ad, bs, d, p⟩ := m
  obtain rfl : n = bs.length := hn
  show Calls Try.prog 37 #[.int .i64 size, .agg #[.int .i64 ad, .slice sa bs.length c, .bool d, .bool p]] w _
  by_cases h3 : (bs.length : Int) = size
  · have h3b : ((bs.length : Int) == size) = true := beq_iff_eq.2 h3
    by_cases h1 : 1 ≤ size
    · skip
      by_cases h2 : size ≤ 32
      · skip
        by_cases h4 : 0 ≤ ad
        · skip
          by_cases h5 : ad < 1048576
          · skip
            rw [show lineB size ⟨ad, bs, d, p⟩ = true from decide_eq_true (by dsimp only; omega)]
            go_enter Try.func37, Try.ntmps37
            have H := HS.start NoD w
            go_wp2_with fail
            go_ret
            exact ⟨rfl, H.alloc.done⟩
          · skip
            rw [show lineB size ⟨ad, bs, d, p⟩ = false from decide_eq_false (by dsimp only; omega)]
            go_enter Try.func37, Try.ntmps37
            have H := HS.start NoD w
            go_wp2_with fail
            go_ret
            exact ⟨rfl, H.alloc.done⟩
        · skip
          rw [show lineB size ⟨ad, bs, d, p⟩ = false from decide_eq_false (by dsimp only; omega)]
          go_enter Try.func37, Try.ntmps37
          have H := HS.start NoD w
          go_wp2_with fail
          go_ret
          exact ⟨rfl, H.alloc.done⟩
      · skip
        rw [show lineB size ⟨ad, bs, d, p⟩ = false from decide_eq_false (by dsimp only; omega)]
        go_enter Try.func37, Try.ntmps37
        have H := HS.start NoD w
        go_wp2_with fail
        go_ret
        exact ⟨rfl, H.alloc.done⟩
    · skip
      rw [show lineB size ⟨ad, bs, d, p⟩ = false from decide_eq_false (by dsimp only; omega)]
      go_enter Try.func37, Try.ntmps37
      have H := HS.start NoD w
      go_wp2_with fail
      go_ret
      exact ⟨rfl, H.alloc.done⟩
  · have h3b : ((bs.length : Int) == size) = false := beq_eq_false_iff_ne.2 h3
    rw [show lineB size ⟨ad, bs, d, p⟩ = false from decide_eq_false (by dsimp only; omega)]
    go_enter Try.func37, Try.ntmps37
    have H := HS.start NoD w
    go_wp2_with fail
    go_ret
    exact ⟨rfl, H.alloc.done⟩
set_option maxHeartbeats 2000000 in
theorem cempty_any (q : Sw) (hn : q.x.n = q.s.ln.bs.length) (w : World) : Calls Try.prog 54 #[swV q] w (Gives (.bool (emptyB q.s)) w) := by
  obtain ⟨⟨u, age, ad, bs, d, p⟩, ⟨sa, n, c⟩⟩ := q
  obtain rfl : n = bs.length := hn
  show Calls Try.prog 54 #[.agg #[.bool u, .int .i64 age, .int .i64 ad, .slice sa bs.length c, .bool d, .bool p]] w _
  cases u
  case true =>
    go_enter Try.func54, Try.ntmps54
    have H := HS.start NoD w
    go_wp2_with fail
    go_ret
    exact ⟨by simp [emptyB], H.alloc.done⟩
  case false =>
    by_cases h1 : age = 0
    · subst h1
      by_cases h2 : ad = 0
      · subst h2
        by_cases h3 : bs.length = 0
        · have h3b : ((bs.length : Int) == 0) = true := beq_iff_eq.2 (by omega)
          cases d
          case true =>
            go_enter Try.func54, Try.ntmps54
            have H := HS.start NoD w
            go_wp2_with fail
            go_ret
            exact ⟨by simp [emptyB], H.alloc.done⟩
          case false =>
            cases p <;>
            · go_enter Try.func54, Try.ntmps54
              have H := HS.start NoD w
              go_wp2_with fail
              go_ret
              exact ⟨by simp [emptyB, h3], H.alloc.done⟩
        · have h3b : ((bs.length : Int) == 0) = false := beq_eq_false_iff_ne.2 (by omega)
          go_enter Try.func54, Try.ntmps54
          have H := HS.start NoD w
          go_wp2_with fail
          go_ret
          exact ⟨by simp only [emptyB, h3, decide_false, Bool.and_false, Bool.false_and]; rfl, H.alloc.done⟩
      · have h2b : (ad == 0) = false := beq_eq_false_iff_ne.2 h2
        go_enter Try.func54, Try.ntmps54
        have H := HS.start NoD w
        go_wp2_with fail
        go_ret
        exact ⟨by simp [emptyB, h2], H.alloc.done⟩
    · have h1b : (age == 0) = false := beq_eq_false_iff_ne.2 h1
      go_enter Try.func54, Try.ntmps54
      have H := HS.start NoD w
      go_wp2_with fail
      go_ret
      exact ⟨by simp [emptyB, h1], H.alloc.done⟩
set_option maxHeartbeats 2000000 in
theorem r31empty_any (q : Sw) (hn : q.x.n = q.s.ln.bs.length) (w : World) : Calls Try.prog 36 #[swV q] w (Gives (.bool (emptyB q.s)) w) := by
  obtain ⟨⟨u, age, ad, bs, d, p⟩, ⟨sa, n, c⟩⟩ := q
  obtain rfl : n = bs.length := hn
  show Calls Try.prog 36 #[.agg #[.bool u, .int .i64 age, .int .i64 ad, .slice sa bs.length c, .bool d, .bool p]] w _
  cases u
  case true =>
    go_enter Try.func36, Try.ntmps36
    have H := HS.start NoD w
    go_wp2_with fail
    go_ret
    exact ⟨by simp [emptyB], H.alloc.done⟩
  case false =>
    by_cases h1 : age = 0
    · subst h1
      by_cases h2 : ad = 0
      · subst h2
        by_cases h3 : bs.length = 0
        · have h3b : ((bs.length : Int) == 0) = true := beq_iff_eq.2 (by omega)
          cases d
          case true =>
            go_enter Try.func36, Try.ntmps36
            have H := HS.start NoD w
            go_wp2_with fail
            go_ret
            exact ⟨by simp [emptyB], H.alloc.done⟩
          case false =>
            cases p <;>
            · go_enter Try.func36, Try.ntmps36
              have H := HS.start NoD w
              go_wp2_with fail
              go_ret
              exact ⟨by simp [emptyB, h3], H.alloc.done⟩
        · have h3b : ((bs.length : Int) == 0) = false := beq_eq_false_iff_ne.2 (by omega)
          go_enter Try.func36, Try.ntmps36
          have H := HS.start NoD w
          go_wp2_with fail
          go_ret
          exact ⟨by simp only [emptyB, h3, decide_false, Bool.and_false, Bool.false_and]; rfl, H.alloc.done⟩
      · have h2b : (ad == 0) = false := beq_eq_false_iff_ne.2 h2
        go_enter Try.func36, Try.ntmps36
        have H := HS.start NoD w
        go_wp2_with fail
        go_ret
        exact ⟨by simp [emptyB, h2], H.alloc.done⟩
    · have h1b : (age == 0) = false := beq_eq_false_iff_ne.2 h1
      go_enter Try.func36, Try.ntmps36
      have H := HS.start NoD w
      go_wp2_with fail
      go_ret
      exact ⟨by simp [emptyB, h1], H.alloc.done⟩
/-- A call that hands back a new cache, or says that it may not be. -/
def GivesNew (sets ways size : Int) (w : World) (e : Ending) (w' : World) : Prop :=
  (sizedB sets ways size = false ∧ e = .returned (.tuple #[.agg #[.int .i64 0, .int .i64 0, .int .i64 0, .slice none 0 0], .int .i64 2]) ∧ HS NoD w [] w') ∨
  (sizedB sets ways size = true ∧ ∃ (s : Option Addr) (n : Nat), (n : Int) = sets * ways ∧ e = .returned (.tuple #[.agg #[.int .i64 sets, .int .i64 ways, .int .i64 size, .slice s n n], .int .i64 0]) ∧ HS NoD w [rowS s n n (List.replicate n zSw)] w')
set_option maxHeartbeats 4000000 in
theorem cnew_any (sets ways size : Int) (w : World) : Calls Try.prog 14 #[.int .i64 sets, .int .i64 ways, .int .i64 size] w (GivesNew sets ways size w) := by
  have HSZ := Lib.hid (fun w => csized_any sets ways size w)
  cases hs : sizedB sets ways size with
  | false =>
    have HS0 := Lib.hid hs
    rw [hs] at HSZ
    clear hs
    go_enter Try.func14, Try.ntmps14
    have H := HS.start NoD w
    go_upto_region 1 with fail
    generalize hwb : w.alloc _ = w1
    replace H := HS.eqW hwb H.alloc
    try simp only [World.size_alloc, List.nil_append, List.cons_append, List.append_assoc] at H
    clear hwb
    generalize w.heap.size = bR at H ⊢
    try clear C
    have C := H.cells
    try simp only [cellsOf, cellsM, apartOf, apartM, and_true] at C
    go_wp2_with fail
    refine (HSZ.out _).mono ?_
    rintro _ w2 ⟨rfl, hb⟩
    replace H := H.below hb
    clear hb
    try clear C
    try simp only [World.size_alloc, List.nil_append, List.cons_append, List.append_assoc] at H
    try clear w1
    have C := H.cells
    try simp only [cellsOf, cellsM, apartOf, apartM, and_true] at C
    dsimp only
    go_wp2_with fail
    generalize hwb : (((w2.setCell _ _).setCell _ _).setCell _ _).setCell _ _ = w3
    replace H := HS.eqW hwb (H.putAll (i := 0) rfl (vs := [.int .i64 0, .int .i64 0, .int .i64 0, .slice none 0 0]) rfl rfl)
    simp only [List.nil_append, List.cons_append, List.append_assoc, List.set_cons_succ, List.set_cons_zero] at H
    clear hwb
    try clear C
    try clear w2
    have C := H.cells
    try simp only [cellsOf, cellsM, apartOf, apartM, and_true] at C
    refine bodyPost_ret (by simp [results, Try.results14, go_sem, C]; try rfl) rfl ?_
    exact .inl ⟨HS0.out, rfl, HS.less (L' := []) H (List.nil_sublist _)⟩
  | true =>
    have hs2 := of_decide_eq_true hs
    have HS0 := Lib.hid hs
    rw [hs] at HSZ
    clear hs
    obtain ⟨S, rfl⟩ : ∃ S : Nat, sets = S := ⟨sets.toNat, by omega⟩
    obtain ⟨W, rfl⟩ : ∃ W : Nat, ways = W := ⟨ways.toNat, by omega⟩
    obtain ⟨N, hN⟩ : ∃ N, N = S * W := ⟨_, rfl⟩
    have hSW : (S : Int) * W = N := by rw [hN]; push_cast; rfl
    have hN32 : N ≤ 32 := by rw [hN]; exact Nat.le_trans (Nat.mul_le_mul (show S ≤ 8 by omega) (show W ≤ 4 by omega)) (by omega)
    have hwr : IntKind.i64.wrap ((S : Int) * W) = N := by rw [hSW]; exact IntWalk.i64_in _ (by omega)
    have HSW := Lib.hid hSW
    obtain ⟨i, i1, i2, i3, i4⟩ := elemSw.hi
    clear hN hSW
    go_enter Try.func14, Try.ntmps14
    have H := HS.start NoD w
    go_upto_region 1 with fail
    generalize hwb : w.alloc _ = w1
    replace H := HS.eqW hwb H.alloc
    try simp only [World.size_alloc, List.nil_append, List.cons_append, List.append_assoc] at H
    clear hwb
    generalize w.heap.size = bR at H ⊢
    try clear C
    have C := H.cells
    try simp only [cellsOf, cellsM, apartOf, apartM, and_true] at C
    go_wp2_with fail
    refine (HSZ.out _).mono ?_
    rintro _ w2 ⟨rfl, hb⟩
    replace H := H.below hb
    clear hb
    try clear C
    try simp only [World.size_alloc, List.nil_append, List.cons_append, List.append_assoc] at H
    try clear w1
    have C := H.cells
    try simp only [cellsOf, cellsM, apartOf, apartM, and_true] at C
    dsimp only
    go_upto_region 3 with fail
    go_upto_region 9 with (at_make; refine wpList_make_full _ rfl (.tmp 19) (.tmp 19) 22 rfl w2.heap.size 37 i _ 6 elemSw.ht i1 i2 i3 .i64 .i64 _ _ N rfl rfl rfl rfl (by rw [i4]; omega) (by unfold maxLen; omega) (Nat.le_refl _) (fun wm hm1 hm2 => ?_); replace H := H.getsRow ((Below.refl _ _).grown hm2 (Nat.le_refl _) (fun k h => by cases h)) hm1; clear hm1 hm2; simp only [List.nil_append, List.cons_append] at H; clear C; have C := H.cells; simp only [cellsOf, cellsM, apartOf, apartM, and_true] at C)
    generalize hwb : World.setCell _ _ _ = w9
    replace H := HS.eqW hwb (H.putAll (i := 0) rfl (vs := [.int .i64 S, .int .i64 W, .int .i64 size, .slice (some ⟨w2.heap.size, 0, none⟩) N N]) rfl rfl)
    clear hwb C
    simp only [List.set_cons_succ, List.set_cons_zero] at H
    have HMS := Lib.hid (made_sw N)
    skip
    skip
    try clear C
    try simp only [World.size_alloc, List.nil_append, List.cons_append, List.append_assoc] at H
    have C := H.cells
    try simp only [cellsOf, cellsM, apartOf, apartM, and_true] at C
    refine bodyPost_ret (by simp [results, Try.results14, go_sem, C]; try rfl) rfl ?_
    have H8 := HS.less (L' := [_]) H (.cons _ (List.Sublist.refl _))
    have hms := HMS.out
    simp only [Value.cells] at H8
    rw [hms] at H8
    exact .inr ⟨HS0.out, _, N, HSW.out.symm, rfl, H8⟩
set_option maxHeartbeats 4000000 in
theorem r31new_any (sets ways size : Int) (w : World) : Calls Try.prog 15 #[.int .i64 sets, .int .i64 ways, .int .i64 size] w (GivesNew sets ways size w) := by
  by_cases h1 : 1 ≤ sets
  · skip
    by_cases h2 : sets ≤ 8
    · skip
      by_cases h3 : 1 ≤ ways
      · skip
        by_cases h4 : ways ≤ 4
        · skip
          by_cases h5 : 1 ≤ size
          · skip
            by_cases h6 : size ≤ 32
            · skip
              have HS0 := Lib.hid (show sizedB sets ways size = true from decide_eq_true (by omega))
              obtain ⟨S, rfl⟩ : ∃ S : Nat, sets = S := ⟨sets.toNat, by omega⟩
              obtain ⟨W, rfl⟩ : ∃ W : Nat, ways = W := ⟨ways.toNat, by omega⟩
              obtain ⟨N, hN⟩ : ∃ N, N = S * W := ⟨_, rfl⟩
              have hSW : (S : Int) * W = N := by rw [hN]; push_cast; rfl
              have hN32 : N ≤ 32 := by rw [hN]; exact Nat.le_trans (Nat.mul_le_mul (show S ≤ 8 by omega) (show W ≤ 4 by omega)) (by omega)
              have hwr : IntKind.i64.wrap ((S : Int) * W) = N := by rw [hSW]; exact IntWalk.i64_in _ (by omega)
              have HSW := Lib.hid hSW
              obtain ⟨i, i1, i2, i3, i4⟩ := elemSw.hi
              clear hN hSW
              go_enter Try.func15, Try.ntmps15
              have H := HS.start NoD w
              go_upto_region 1 with fail
              generalize hwb : w.alloc _ = w1
              replace H := HS.eqW hwb H.alloc
              try simp only [World.size_alloc, List.nil_append, List.cons_append, List.append_assoc] at H
              clear hwb
              generalize w.heap.size = bR at H ⊢
              try clear C
              have C := H.cells
              try simp only [cellsOf, cellsM, apartOf, apartM, and_true] at C
              go_upto_region 3 with fail
              go_upto_region 9 with (at_make; refine wpList_make_full _ rfl (.tmp 36) (.tmp 36) 22 rfl w1.heap.size 37 i _ 6 elemSw.ht i1 i2 i3 .i64 .i64 _ _ N rfl rfl rfl rfl (by rw [i4]; omega) (by unfold maxLen; omega) (Nat.le_refl _) (fun wm hm1 hm2 => ?_); replace H := H.getsRow ((Below.refl _ _).grown hm2 (Nat.le_refl _) (fun k h => by cases h)) hm1; clear hm1 hm2; simp only [List.nil_append, List.cons_append] at H; clear C; have C := H.cells; simp only [cellsOf, cellsM, apartOf, apartM, and_true] at C)
              generalize hwb : World.setCell _ _ _ = w9
              replace H := HS.eqW hwb (H.putAll (i := 0) rfl (vs := [.int .i64 S, .int .i64 W, .int .i64 size, .slice (some ⟨w1.heap.size, 0, none⟩) N N]) rfl rfl)
              clear hwb C
              simp only [List.set_cons_succ, List.set_cons_zero] at H
              have HMS := Lib.hid (made_sw N)
              skip
              skip
              try clear C
              try simp only [World.size_alloc, List.nil_append, List.cons_append, List.append_assoc] at H
              have C := H.cells
              try simp only [cellsOf, cellsM, apartOf, apartM, and_true] at C
              refine bodyPost_ret (by simp [results, Try.results15, go_sem, C]; try rfl) rfl ?_
              have H8 := HS.less (L' := [_]) H (.cons _ (List.Sublist.refl _))
              have hms := HMS.out
              simp only [Value.cells] at H8
              rw [hms] at H8
              exact .inr ⟨HS0.out, _, N, HSW.out.symm, rfl, H8⟩
            · skip
              have HS0 := Lib.hid (show sizedB sets ways size = false from decide_eq_false (by omega))
              go_enter Try.func15, Try.ntmps15
              have H := HS.start NoD w
              go_upto_region 1 with fail
              generalize hwb : w.alloc _ = w1
              replace H := HS.eqW hwb H.alloc
              try simp only [World.size_alloc, List.nil_append, List.cons_append, List.append_assoc] at H
              clear hwb
              generalize w.heap.size = bR at H ⊢
              try clear C
              have C := H.cells
              try simp only [cellsOf, cellsM, apartOf, apartM, and_true] at C
              go_wp2_with fail
              generalize hwb : (((w1.setCell _ _).setCell _ _).setCell _ _).setCell _ _ = w2
              replace H := HS.eqW hwb (H.putAll (i := 0) rfl (vs := [.int .i64 0, .int .i64 0, .int .i64 0, .slice none 0 0]) rfl rfl)
              simp only [List.nil_append, List.cons_append, List.append_assoc, List.set_cons_succ, List.set_cons_zero] at H
              clear hwb
              try clear C
              try clear w1
              have C := H.cells
              try simp only [cellsOf, cellsM, apartOf, apartM, and_true] at C
              refine bodyPost_ret (by simp [results, Try.results15, go_sem, C]; try rfl) rfl ?_
              exact .inl ⟨HS0.out, rfl, HS.less (L' := []) H (List.nil_sublist _)⟩
          · skip
            have HS0 := Lib.hid (show sizedB sets ways size = false from decide_eq_false (by omega))
            go_enter Try.func15, Try.ntmps15
            have H := HS.start NoD w
            go_upto_region 1 with fail
            generalize hwb : w.alloc _ = w1
            replace H := HS.eqW hwb H.alloc
            try simp only [World.size_alloc, List.nil_append, List.cons_append, List.append_assoc] at H
            clear hwb
            generalize w.heap.size = bR at H ⊢
            try clear C
            have C := H.cells
            try simp only [cellsOf, cellsM, apartOf, apartM, and_true] at C
            go_wp2_with fail
            generalize hwb : (((w1.setCell _ _).setCell _ _).setCell _ _).setCell _ _ = w2
            replace H := HS.eqW hwb (H.putAll (i := 0) rfl (vs := [.int .i64 0, .int .i64 0, .int .i64 0, .slice none 0 0]) rfl rfl)
            simp only [List.nil_append, List.cons_append, List.append_assoc, List.set_cons_succ, List.set_cons_zero] at H
            clear hwb
            try clear C
            try clear w1
            have C := H.cells
            try simp only [cellsOf, cellsM, apartOf, apartM, and_true] at C
            refine bodyPost_ret (by simp [results, Try.results15, go_sem, C]; try rfl) rfl ?_
            exact .inl ⟨HS0.out, rfl, HS.less (L' := []) H (List.nil_sublist _)⟩
        · skip
          have HS0 := Lib.hid (show sizedB sets ways size = false from decide_eq_false (by omega))
          go_enter Try.func15, Try.ntmps15
          have H := HS.start NoD w
          go_upto_region 1 with fail
          generalize hwb : w.alloc _ = w1
          replace H := HS.eqW hwb H.alloc
          try simp only [World.size_alloc, List.nil_append, List.cons_append, List.append_assoc] at H
          clear hwb
          generalize w.heap.size = bR at H ⊢
          try clear C
          have C := H.cells
          try simp only [cellsOf, cellsM, apartOf, apartM, and_true] at C
          go_wp2_with fail
          generalize hwb : (((w1.setCell _ _).setCell _ _).setCell _ _).setCell _ _ = w2
          replace H := HS.eqW hwb (H.putAll (i := 0) rfl (vs := [.int .i64 0, .int .i64 0, .int .i64 0, .slice none 0 0]) rfl rfl)
          simp only [List.nil_append, List.cons_append, List.append_assoc, List.set_cons_succ, List.set_cons_zero] at H
          clear hwb
          try clear C
          try clear w1
          have C := H.cells
          try simp only [cellsOf, cellsM, apartOf, apartM, and_true] at C
          refine bodyPost_ret (by simp [results, Try.results15, go_sem, C]; try rfl) rfl ?_
          exact .inl ⟨HS0.out, rfl, HS.less (L' := []) H (List.nil_sublist _)⟩
      · skip
        have HS0 := Lib.hid (show sizedB sets ways size = false from decide_eq_false (by omega))
        go_enter Try.func15, Try.ntmps15
        have H := HS.start NoD w
        go_upto_region 1 with fail
        generalize hwb : w.alloc _ = w1
        replace H := HS.eqW hwb H.alloc
        try simp only [World.size_alloc, List.nil_append, List.cons_append, List.append_assoc] at H
        clear hwb
        generalize w.heap.size = bR at H ⊢
        try clear C
        have C := H.cells
        try simp only [cellsOf, cellsM, apartOf, apartM, and_true] at C
        go_wp2_with fail
        generalize hwb : (((w1.setCell _ _).setCell _ _).setCell _ _).setCell _ _ = w2
        replace H := HS.eqW hwb (H.putAll (i := 0) rfl (vs := [.int .i64 0, .int .i64 0, .int .i64 0, .slice none 0 0]) rfl rfl)
        simp only [List.nil_append, List.cons_append, List.append_assoc, List.set_cons_succ, List.set_cons_zero] at H
        clear hwb
        try clear C
        try clear w1
        have C := H.cells
        try simp only [cellsOf, cellsM, apartOf, apartM, and_true] at C
        refine bodyPost_ret (by simp [results, Try.results15, go_sem, C]; try rfl) rfl ?_
        exact .inl ⟨HS0.out, rfl, HS.less (L' := []) H (List.nil_sublist _)⟩
    · skip
      have HS0 := Lib.hid (show sizedB sets ways size = false from decide_eq_false (by omega))
      go_enter Try.func15, Try.ntmps15
      have H := HS.start NoD w
      go_upto_region 1 with fail
      generalize hwb : w.alloc _ = w1
      replace H := HS.eqW hwb H.alloc
      try simp only [World.size_alloc, List.nil_append, List.cons_append, List.append_assoc] at H
      clear hwb
      generalize w.heap.size = bR at H ⊢
      try clear C
      have C := H.cells
      try simp only [cellsOf, cellsM, apartOf, apartM, and_true] at C
      go_wp2_with fail
      generalize hwb : (((w1.setCell _ _).setCell _ _).setCell _ _).setCell _ _ = w2
      replace H := HS.eqW hwb (H.putAll (i := 0) rfl (vs := [.int .i64 0, .int .i64 0, .int .i64 0, .slice none 0 0]) rfl rfl)
      simp only [List.nil_append, List.cons_append, List.append_assoc, List.set_cons_succ, List.set_cons_zero] at H
      clear hwb
      try clear C
      try clear w1
      have C := H.cells
      try simp only [cellsOf, cellsM, apartOf, apartM, and_true] at C
      refine bodyPost_ret (by simp [results, Try.results15, go_sem, C]; try rfl) rfl ?_
      exact .inl ⟨HS0.out, rfl, HS.less (L' := []) H (List.nil_sublist _)⟩
  · skip
    have HS0 := Lib.hid (show sizedB sets ways size = false from decide_eq_false (by omega))
    go_enter Try.func15, Try.ntmps15
    have H := HS.start NoD w
    go_upto_region 1 with fail
    generalize hwb : w.alloc _ = w1
    replace H := HS.eqW hwb H.alloc
    try simp only [World.size_alloc, List.nil_append, List.cons_append, List.append_assoc] at H
    clear hwb
    generalize w.heap.size = bR at H ⊢
    try clear C
    have C := H.cells
    try simp only [cellsOf, cellsM, apartOf, apartM, and_true] at C
    go_wp2_with fail
    generalize hwb : (((w1.setCell _ _).setCell _ _).setCell _ _).setCell _ _ = w2
    replace H := HS.eqW hwb (H.putAll (i := 0) rfl (vs := [.int .i64 0, .int .i64 0, .int .i64 0, .slice none 0 0]) rfl rfl)
    simp only [List.nil_append, List.cons_append, List.append_assoc, List.set_cons_succ, List.set_cons_zero] at H
    clear hwb
    try clear C
    try clear w1
    have C := H.cells
    try simp only [cellsOf, cellsM, apartOf, apartM, and_true] at C
    refine bodyPost_ret (by simp [results, Try.results15, go_sem, C]; try rfl) rfl ?_
    exact .inl ⟨HS0.out, rfl, HS.less (L' := []) H (List.nil_sublist _)⟩
end Go.Proofs.Ytfmcicmbehjdcaa
