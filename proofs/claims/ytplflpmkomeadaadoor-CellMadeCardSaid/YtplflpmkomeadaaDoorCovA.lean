/- Covered, of package part and of the specification of layer 9, for any shape and fault. -/
import Derived.Test.YtplflpmkomeadaaDoorK6
import Derived.Test.YtplflpmkomeadaaDoorCovd
import Derived.Test.YtplflpmkomeadaaDoorK1
namespace Go.Proofs.YtplflpmkomeadaaDoor
set_option linter.unusedSimpArgs false
set_option linter.unusedVariables false
open Go.RowKit
set_option maxRecDepth 100000
attribute [local go_sem] lt_more ne_more ne_more'
attribute [local irreducible] wpX

theorem elemInt : Elem Tryd.prog 22 3 (.int .i64 0) 1 8 := Elem.mk' Tryd.underlying22 infoInt rfl (by decide)
theorem covers_all (k p0 p1 p2 p3 p4 p5 ch ms vl q0 q1 q2 q3 q4 q5 : Int) (hd : Bool) (w : World) (hN : Nm w) :
    Calls Tryd.prog 22 #[vF k p0 p1 p2 p3 p4 p5 ch ms vl hd, v6 q0 q1 q2 q3 q4 q5] w (Gives (.bool (decide ((1 ≤ k ∧ k ≤ 6) ∧ CV k p0 p1 p2 p3 p4 p5 q0 q1 q2 q3 q4 q5))) w) := by
  by_cases hk : 1 ≤ k ∧ k ≤ 6
  · have := covers_yes k p0 p1 p2 p3 p4 p5 ch ms vl q0 q1 q2 q3 q4 q5 hd hk w hN
    simpa [hk] using this
  · have := covers_no k p0 p1 p2 p3 p4 p5 ch ms vl q0 q1 q2 q3 q4 q5 hd hk w
    simpa [hk] using this
theorem rcovers_all (k p0 p1 p2 p3 p4 p5 ch ms vl q0 q1 q2 q3 q4 q5 : Int) (hd : Bool) (w : World) :
    Calls Tryd.prog 95 #[vF k p0 p1 p2 p3 p4 p5 ch ms vl hd, v6 q0 q1 q2 q3 q4 q5] w (Gives (.bool (decide ((1 ≤ k ∧ k ≤ 6) ∧ CV k p0 p1 p2 p3 p4 p5 q0 q1 q2 q3 q4 q5))) w) := by
  by_cases hk : 1 ≤ k ∧ k ≤ 6
  · have := rcovers_yes k p0 p1 p2 p3 p4 p5 ch ms vl q0 q1 q2 q3 q4 q5 hd hk w
    simpa [hk] using this
  · have := rcovers_no k p0 p1 p2 p3 p4 p5 ch ms vl q0 q1 q2 q3 q4 q5 hd hk w
    simpa [hk] using this
/-- How many words a shape has. -/
def sizeN (a0 a1 a2 a3 a4 a5 : Int) : Nat := if SV a0 a1 a2 a3 a4 a5 then 2 ^ (a0 + a1 + a2 + a3 + a4 + a5).toNat else 0
theorem sizeN_yes {a0 a1 a2 a3 a4 a5 : Int} (h : SV a0 a1 a2 a3 a4 a5) : ((sizeN a0 a1 a2 a3 a4 a5 : Nat) : Int) = 2 ^ (a0 + a1 + a2 + a3 + a4 + a5).toNat := by unfold sizeN; rw [if_pos h]; simp
theorem sizeN_le (a0 a1 a2 a3 a4 a5 : Int) : sizeN a0 a1 a2 a3 a4 a5 ≤ 4096 := by
  by_cases h : SV a0 a1 a2 a3 a4 a5
  · have := sizeN_yes h
    have := pw_12 (a := a0 + a1 + a2 + a3 + a4 + a5) h.sum
    omega
  · unfold sizeN; rw [if_neg h]; omega
theorem size_all (a0 a1 a2 a3 a4 a5 : Int) (w : World) : Calls Tryd.prog 49 #[v6 a0 a1 a2 a3 a4 a5] w (Gives (.int .i64 (sizeN a0 a1 a2 a3 a4 a5)) w) := by
  by_cases h : SV a0 a1 a2 a3 a4 a5
  · rw [sizeN_yes h]; exact size_yes h w
  · have e : sizeN a0 a1 a2 a3 a4 a5 = 0 := by unfold sizeN; rw [if_neg h]
    rw [e]; exact size_no h w
theorem rsize_all (a0 a1 a2 a3 a4 a5 : Int) (w : World) : Calls Tryd.prog 17 #[v6 a0 a1 a2 a3 a4 a5] w (Gives (.int .i64 (sizeN a0 a1 a2 a3 a4 a5)) w) := by
  by_cases h : SV a0 a1 a2 a3 a4 a5
  · rw [sizeN_yes h]; exact rsize_yes h w
  · have e : sizeN a0 a1 a2 a3 a4 a5 = 0 := by unfold sizeN; rw [if_neg h]
    rw [e]; exact rsize_no h w
theorem SV_of_lt {a0 a1 a2 a3 a4 a5 : Int} {i : Nat} (h : i < sizeN a0 a1 a2 a3 a4 a5) : SV a0 a1 a2 a3 a4 a5 := by
  refine Decidable.byContradiction fun hn => ?_
  unfold sizeN at h; rw [if_neg hn] at h; omega
theorem rat_is {a0 a1 a2 a3 a4 a5 i : Int} (h : SV a0 a1 a2 a3 a4 a5) (hi0 : 0 ≤ i) (hi1 : i < 2 ^ (a0 + a1 + a2 + a3 + a4 + a5).toNat) (w : World) :
    Calls Tryd.prog 94 #[v6 a0 a1 a2 a3 a4 a5, .int .i64 i] w (Gives (.tuple #[v6P (atF a0 a1 a2 a3 a4 a5 i), .int .i64 0]) w) := by
  obtain ⟨x1, x2, x3, x4, x5, x6, h5, h4, h3, h2, h1, h0, hall⟩ := atF_steps h hi0 hi1
  exact rat_yes h hi0 hi1 h5 h4 h3 h2 h1 h0 w

/-- Does a fault of any kind cover the word with the index i? -/
def cvB (a0 a1 a2 a3 a4 a5 k p0 p1 p2 p3 p4 p5 : Int) (i : Nat) : Bool :=
  decide ((1 ≤ k ∧ k ≤ 6) ∧ CV k p0 p1 p2 p3 p4 p5 (atF a0 a1 a2 a3 a4 a5 i).a (atF a0 a1 a2 a3 a4 a5 i).b (atF a0 a1 a2 a3 a4 a5 i).c (atF a0 a1 a2 a3 a4 a5 i).d (atF a0 a1 a2 a3 a4 a5 i).e (atF a0 a1 a2 a3 a4 a5 i).f)
def cvL (a0 a1 a2 a3 a4 a5 k p0 p1 p2 p3 p4 p5 : Int) (n : Nat) : List Nat := (List.range n).filter (cvB a0 a1 a2 a3 a4 a5 k p0 p1 p2 p3 p4 p5)
theorem cvL_yes {a0 a1 a2 a3 a4 a5 k p0 p1 p2 p3 p4 p5 : Int} {n : Nat} (h : cvB a0 a1 a2 a3 a4 a5 k p0 p1 p2 p3 p4 p5 n = true) : cvL a0 a1 a2 a3 a4 a5 k p0 p1 p2 p3 p4 p5 (n + 1) = cvL a0 a1 a2 a3 a4 a5 k p0 p1 p2 p3 p4 p5 n ++ [n] := by
  unfold cvL; rw [List.range_succ, List.filter_append]; simp [h]
theorem cvL_no {a0 a1 a2 a3 a4 a5 k p0 p1 p2 p3 p4 p5 : Int} {n : Nat} (h : cvB a0 a1 a2 a3 a4 a5 k p0 p1 p2 p3 p4 p5 n = false) : cvL a0 a1 a2 a3 a4 a5 k p0 p1 p2 p3 p4 p5 (n + 1) = cvL a0 a1 a2 a3 a4 a5 k p0 p1 p2 p3 p4 p5 n := by
  unfold cvL; rw [List.range_succ, List.filter_append]; simp [h]
theorem cvL_len (a0 a1 a2 a3 a4 a5 k p0 p1 p2 p3 p4 p5 : Int) (n : Nat) : (cvL a0 a1 a2 a3 a4 a5 k p0 p1 p2 p3 p4 p5 n).length ≤ n := by
  unfold cvL; have := List.length_filter_le (cvB a0 a1 a2 a3 a4 a5 k p0 p1 p2 p3 p4 p5) (List.range n); simpa using this
/-- The list as an item of the bundle. -/
@[reducible] def rowI (v : Value) (l : List Nat) : Item := .row v 3 1 l.length (l.map intV)
theorem rowI_snoc (v : Value) (l : List Nat) (n : Nat) : Item.row v 3 1 (l.length + 1) (l.map intV ++ [.int .i64 n]) = rowI v (l ++ [n]) := by simp [rowI, intV]

set_option maxHeartbeats 8000000 in
theorem rcovered_any (a0 a1 a2 a3 a4 a5 k p0 p1 p2 p3 p4 p5 ch ms vl : Int) (hd : Bool) (w : World) :
    Calls Tryd.prog 73 #[v6 a0 a1 a2 a3 a4 a5, vF k p0 p1 p2 p3 p4 p5 ch ms vl hd] w (GivesRow (cvL a0 a1 a2 a3 a4 a5 k p0 p1 p2 p3 p4 p5 (sizeN a0 a1 a2 a3 a4 a5)) w) := by
  obtain ⟨n, hn⟩ : ∃ n : Nat, n = sizeN a0 a1 a2 a3 a4 a5 := ⟨_, rfl⟩
  have hsz : ∀ w, Calls Tryd.prog 17 #[v6 a0 a1 a2 a3 a4 a5] w (Gives (.int .i64 n) w) := fun w => by rw [hn]; exact rsize_all _ _ _ _ _ _ w
  have hn12 := sizeN_le a0 a1 a2 a3 a4 a5
  have HSZ := Lib.hid hsz
  have hsv : ∀ i, i < n → SV a0 a1 a2 a3 a4 a5 := fun i hi => SV_of_lt (hn ▸ hi)
  have HSV := Lib.hid hsv
  have hlt : ∀ i : Nat, i < n → (i : Int) < 2 ^ (a0 + a1 + a2 + a3 + a4 + a5).toNat := fun i hi => by rw [← sizeN_yes (hsv i hi), ← hn]; omega
  have HLT := Lib.hid hlt
  rw [← hn] at hn12 ⊢
  clear hsz hn hsv hlt
  go_enter Tryd.func73, Tryd.ntmps73
  have H := HS.start NoD w
  go_wp2_with fail
  generalize hwb : (w.alloc _).alloc _ = w1
  replace H := HS.eqW hwb H.alloc.alloc
  try simp only [World.size_alloc, List.nil_append, List.cons_append, List.append_assoc] at H
  clear hwb
  generalize w.heap.size + 1 = bF at H ⊢
  generalize w.heap.size = bS at H ⊢
  try clear C
  have C := H.cells
  try simp only [cellsOf, cellsM, apartOf, apartM, and_true] at C
  try clear C
  replace H := H.nilRow 3 1
  simp only [List.cons_append, List.nil_append] at H
  go_loopw [5, 6] (fun v c wr => ∃ j : Nat, j ≤ n ∧ c = .int .i64 j ∧ HS NoD w [.blk bS #[.int .i64 a0, .int .i64 a1, .int .i64 a2, .int .i64 a3, .int .i64 a4, .int .i64 a5] 28, .blk bF #[.int .i64 k, .int .i64 p0, .int .i64 p1, .int .i64 p2, .int .i64 p3, .int .i64 p4, .int .i64 p5, .int .i64 ch, .int .u8 ms, .int .u8 vl, .bool hd] 38, rowI v (cvL a0 a1 a2 a3 a4 a5 k p0 p1 p2 p3 p4 p5 j)] wr) (fun _ c _ => n - (intOf c).toNat)
  case atStart => exact ⟨0, Nat.zero_le _, rfl, H⟩
  case round =>
    clear H w1
    obtain ⟨j, hj, rfl, H⟩ := hrel
    skip
    try clear C
    try simp only [World.size_alloc, List.nil_append, List.cons_append, List.append_assoc] at H
    have C := H.cells
    try simp only [cellsOf, cellsM, apartOf, apartM, and_true] at C
    by_cases hjn : j < n
    · have hat := Lib.hid (fun w => rat_is (HSV.out j hjn) (Int.natCast_nonneg j) (HLT.out j hjn) w)
      have hcv : ∀ w, Calls Tryd.prog 95 #[vF k p0 p1 p2 p3 p4 p5 ch ms vl hd, v6P (atF a0 a1 a2 a3 a4 a5 j)] w (Gives (.bool (cvB a0 a1 a2 a3 a4 a5 k p0 p1 p2 p3 p4 p5 j)) w) := fun w => rcovers_all k p0 p1 p2 p3 p4 p5 ch ms vl _ _ _ _ _ _ hd w
      have hll := cvL_len a0 a1 a2 a3 a4 a5 k p0 p1 p2 p3 p4 p5 j
      cases hc : cvB a0 a1 a2 a3 a4 a5 k p0 p1 p2 p3 p4 p5 j
      all_goals
        rw [hc] at hcv
        have HCV := Lib.hid hcv
        have HC := Lib.hid hc
        clear hcv hc
        go_wp2_with fail
        refine (HSZ.out _).mono ?_
        rintro _ w2 ⟨rfl, hb⟩
        replace H := H.below hb
        clear hb
        try clear C
        try simp only [World.size_alloc, List.nil_append, List.cons_append, List.append_assoc] at H
        try clear wr
        have C := H.cells
        try simp only [cellsOf, cellsM, apartOf, apartM, and_true] at C
        dsimp only
        go_wp2_with fail
        refine (hat.out _).mono ?_
        rintro _ w3 ⟨rfl, hb⟩
        replace H := H.below hb
        clear hb
        try clear C
        try simp only [World.size_alloc, List.nil_append, List.cons_append, List.append_assoc] at H
        try clear w2
        have C := H.cells
        try simp only [cellsOf, cellsM, apartOf, apartM, and_true] at C
        dsimp only
        go_wp2_with fail
        refine (HCV.out _).mono ?_
        rintro _ w4 ⟨rfl, hb⟩
        replace H := H.alloc.below hb
        clear hb
        try clear C
        try simp only [World.size_alloc, List.nil_append, List.cons_append, List.append_assoc] at H
        generalize w3.heap.size = bP at H ⊢
        try clear w3
        have C := H.cells
        try simp only [cellsOf, cellsM, apartOf, apartM, and_true] at C
        dsimp only
      · go_wp2_with fail
        replace H := H.less (L' := [.blk bS _ _, .blk bF _ _, .row _ _ _ _ _]) (by repeat (first | exact .slnil | refine .cons_cons _ ?_ | refine .cons _ ?_))
        try clear C
        go_roundw
        case rel => exact ⟨j + 1, by omega, by go_num, by rw [cvL_no HC.out]; exact H⟩
        case measure => simp [intOf]; omega
      · go_wp2_with (at_builtin; refine wpList_append_H rfl (.tmp 24) (.tmp 26) 22 rfl elemInt H.alloc 2 rfl rfl 4 rfl rfl rfl rfl (by decide) (by unfold maxLen; omega) (by omega) (fun g cap wz HZ => ?_); clear H C)
        have H := HZ
        clear HZ
        skip
        simp only [List.cons_append, List.nil_append, List.set_cons_succ, List.set_cons_zero] at H
        rw [rowI_snoc] at H
        go_wp2_with fail
        replace H := H.less (L' := [.blk bS _ _, .blk bF _ _, .row _ _ _ _ _]) (by repeat (first | exact .slnil | refine .cons_cons _ ?_ | refine .cons _ ?_))
        try clear C
        go_roundw
        case rel => exact ⟨j + 1, by omega, by go_num, by rw [cvL_yes HC.out]; exact H⟩
        case measure => simp [intOf]; omega
    · have hjn' : j = n := by omega
      go_wp2_with fail
      refine (HSZ.out _).mono ?_
      rintro _ w5 ⟨rfl, hb⟩
      replace H := H.below hb
      clear hb
      try clear C
      try simp only [World.size_alloc, List.nil_append, List.cons_append, List.append_assoc] at H
      try clear wz
      have C := H.cells
      try simp only [cellsOf, cellsM, apartOf, apartM, and_true] at C
      dsimp only
      go_wp2_with fail
      go_ret
      exact ⟨_, rfl, by rw [← hjn']; exact H.rowOut 2 rfl, H.done⟩

set_option maxHeartbeats 8000000 in
theorem covered_any (a0 a1 a2 a3 a4 a5 k p0 p1 p2 p3 p4 p5 ch ms vl : Int) (hd : Bool) (w : World) (hN : Nm w) :
    Calls Tryd.prog 78 #[v6 a0 a1 a2 a3 a4 a5, vF k p0 p1 p2 p3 p4 p5 ch ms vl hd] w (GivesRow (cvL a0 a1 a2 a3 a4 a5 k p0 p1 p2 p3 p4 p5 (sizeN a0 a1 a2 a3 a4 a5)) w) := by
  have HN := Lib.hid hN
  clear hN
  obtain ⟨n, hn⟩ : ∃ n : Nat, n = sizeN a0 a1 a2 a3 a4 a5 := ⟨_, rfl⟩
  have hsz : ∀ w, Calls Tryd.prog 49 #[v6 a0 a1 a2 a3 a4 a5] w (Gives (.int .i64 n) w) := fun w => by rw [hn]; exact size_all _ _ _ _ _ _ w
  have hn12 := sizeN_le a0 a1 a2 a3 a4 a5
  have HSZ := Lib.hid hsz
  have hsv : ∀ i, i < n → SV a0 a1 a2 a3 a4 a5 := fun i hi => SV_of_lt (hn ▸ hi)
  have HSV := Lib.hid hsv
  have hlt : ∀ i : Nat, i < n → (i : Int) < 2 ^ (a0 + a1 + a2 + a3 + a4 + a5).toNat := fun i hi => by rw [← sizeN_yes (hsv i hi), ← hn]; omega
  have HLT := Lib.hid hlt
  rw [← hn] at hn12 ⊢
  clear hsz hn hsv hlt
  go_enter Tryd.func78, Tryd.ntmps78
  have H := HS.start NoD w
  go_wp2_with fail
  refine (HSZ.out _).mono ?_
  rintro _ w1 ⟨rfl, hb⟩
  replace H := H.alloc.alloc.below hb
  clear hb
  try clear C
  try simp only [World.size_alloc, List.nil_append, List.cons_append, List.append_assoc] at H
  generalize w.heap.size + 1 = bF at H ⊢
  generalize w.heap.size = bS at H ⊢
  have C := H.cells
  try simp only [cellsOf, cellsM, apartOf, apartM, and_true] at C
  dsimp only
  go_wp2_with fail
  try clear C
  replace H := H.nilRow 3 1
  simp only [List.cons_append, List.nil_append] at H
  go_loopw [5, 11] (fun v c wr => ∃ j : Nat, j ≤ n ∧ c = .int .i64 j ∧ HS NoD w [.blk bS #[.int .i64 a0, .int .i64 a1, .int .i64 a2, .int .i64 a3, .int .i64 a4, .int .i64 a5] 28, .blk bF #[.int .i64 k, .int .i64 p0, .int .i64 p1, .int .i64 p2, .int .i64 p3, .int .i64 p4, .int .i64 p5, .int .i64 ch, .int .u8 ms, .int .u8 vl, .bool hd] 38, rowI v (cvL a0 a1 a2 a3 a4 a5 k p0 p1 p2 p3 p4 p5 j)] wr) (fun _ c _ => n - (intOf c).toNat)
  case atStart => exact ⟨0, Nat.zero_le _, rfl, H⟩
  case round =>
    clear H w1
    obtain ⟨j, hj, rfl, H⟩ := hrel
    skip
    try clear C
    try simp only [World.size_alloc, List.nil_append, List.cons_append, List.append_assoc] at H
    have C := H.cells
    try simp only [cellsOf, cellsM, apartOf, apartM, and_true] at C
    by_cases hjn : j < n
    · have hat := Lib.hid (fun w => at_is (HSV.out j hjn) (Int.natCast_nonneg j) (HLT.out j hjn) w)
      have hcv : ∀ w, Nm w → Calls Tryd.prog 22 #[vF k p0 p1 p2 p3 p4 p5 ch ms vl hd, v6P (atF a0 a1 a2 a3 a4 a5 j)] w (Gives (.bool (cvB a0 a1 a2 a3 a4 a5 k p0 p1 p2 p3 p4 p5 j)) w) := fun w hw => covers_all k p0 p1 p2 p3 p4 p5 ch ms vl _ _ _ _ _ _ hd w hw
      have hll := cvL_len a0 a1 a2 a3 a4 a5 k p0 p1 p2 p3 p4 p5 j
      cases hc : cvB a0 a1 a2 a3 a4 a5 k p0 p1 p2 p3 p4 p5 j
      all_goals
        rw [hc] at hcv
        have HCV := Lib.hid hcv
        have HC := Lib.hid hc
        clear hcv hc
        go_wp2_with fail
        refine (hat.out _).mono ?_
        rintro _ w2 ⟨rfl, hb⟩
        replace H := H.below hb
        clear hb
        try clear C
        try simp only [World.size_alloc, List.nil_append, List.cons_append, List.append_assoc] at H
        try clear wr
        have C := H.cells
        try simp only [cellsOf, cellsM, apartOf, apartM, and_true] at C
        dsimp only
        go_wp2_with fail
        refine (HCV.out _ (HN.out.below H.alloc.done)).mono ?_
        rintro _ w3 ⟨rfl, hb⟩
        replace H := H.alloc.below hb
        clear hb
        try clear C
        try simp only [World.size_alloc, List.nil_append, List.cons_append, List.append_assoc] at H
        generalize w2.heap.size = bP at H ⊢
        try clear w2
        have C := H.cells
        try simp only [cellsOf, cellsM, apartOf, apartM, and_true] at C
        dsimp only
      · go_wp2_with fail
        replace H := H.less (L' := [.blk bS _ _, .blk bF _ _, .row _ _ _ _ _]) (by repeat (first | exact .slnil | refine .cons_cons _ ?_ | refine .cons _ ?_))
        try clear C
        go_roundw
        case rel => exact ⟨j + 1, by omega, by go_num, by rw [cvL_no HC.out]; exact H⟩
        case measure => simp [intOf]; omega
      · go_wp2_with (at_builtin; refine wpList_append_H rfl (.tmp 23) (.tmp 25) 22 rfl elemInt H.alloc 2 rfl rfl 4 rfl rfl rfl rfl (by decide) (by unfold maxLen; omega) (by omega) (fun g cap wz HZ => ?_); clear H C)
        have H := HZ
        clear HZ
        skip
        simp only [List.cons_append, List.nil_append, List.set_cons_succ, List.set_cons_zero] at H
        rw [rowI_snoc] at H
        go_wp2_with fail
        replace H := H.less (L' := [.blk bS _ _, .blk bF _ _, .row _ _ _ _ _]) (by repeat (first | exact .slnil | refine .cons_cons _ ?_ | refine .cons _ ?_))
        try clear C
        go_roundw
        case rel => exact ⟨j + 1, by omega, by go_num, by rw [cvL_yes HC.out]; exact H⟩
        case measure => simp [intOf]; omega
    · have hjn' : j = n := by omega
      go_wp2_with fail
      go_ret
      exact ⟨_, rfl, by rw [← hjn']; exact H.rowOut 2 rfl, H.done⟩
end Go.Proofs.YtplflpmkomeadaaDoor
