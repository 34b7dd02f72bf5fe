/- Package rate: Valid; comparing, the binary search, and the insertion at the end. -/
import Derived.Test.YtdcieajdgmopkaaRate2
namespace Go.Proofs.Ytdcieajdgmopkaa
set_option linter.unusedSimpArgs false
set_option linter.unusedVariables false
open Go.RowKit
set_option maxRecDepth 100000
attribute [local go_sem] lt_more ne_more ne_more'

/-- Parts ascend, from above last on; levels and times are within bounds. -/
def okF (last : Int) : List G3 → Bool
  | [] => true
  | x :: xs => decide (last < x.p) && decide (1 ≤ x.l ∧ x.l ≤ 1048576) && decide (0 ≤ x.t ∧ x.t ≤ 1099511627776) && okF x.p xs
def rvB (P L : Int) (xs : List G3) : Bool := okF (-1) xs && (decide (1 ≤ P ∧ P ≤ 1099511627776) && decide (1 ≤ L ∧ L ≤ 1048576) && decide (xs.length ≤ 64))
set_option maxHeartbeats 4000000 in
theorem rvalid_any (P L : Int) {sa : Option Addr} (c : Nat) {xs : List G3} (hx : xs.length ≤ 100000) (w : World) (hl : Lies w w.heap.size sa 3 xs.length (fun j => gC xs[j]!)) :
    Calls Try.prog 12 #[vG P L (.slice sa xs.length c)] w (Gives (.bool (rvB P L xs)) w) := by
  have HL := Lib.hid hl
  clear hl
  go_enter Try.func12, Try.ntmps12
  have H := HS.start NoD w
  go_wp2_with fail
  generalize hwb : w.alloc _ = w1
  replace H := HS.eqW hwb H.alloc
  try simp only [World.size_alloc, List.nil_append, List.cons_append, List.append_assoc] at H
  clear hwb
  generalize w.heap.size = bG at H ⊢
  try clear C
  have C := H.cells
  try simp only [cellsOf, apartOf, and_true] at C
  go_loopw [3, 9] (fun l i wr => ∃ (j : Nat) (last : Int), i = .int .i64 j ∧ l = .int .i64 last ∧ j ≤ xs.length ∧ Hid (okF (-1) xs = okF last (xs.drop j)) ∧ HS NoD w [.blk bG #[.int .i64 P, .int .i64 L, .slice sa xs.length c] 24] wr) (fun _ i _ => xs.length - (intOf i).toNat)
  case atStart => exact ⟨0, -1, rfl, rfl, Nat.zero_le _, rfl, H⟩
  case round =>
    clear H C w1
    obtain ⟨j, last, rfl, rfl, hj, HF, H⟩ := hrel
    skip
    try clear C
    try simp only [World.size_alloc, List.nil_append, List.cons_append, List.append_assoc] at H
    have C := H.cells
    try simp only [cellsOf, apartOf, and_true] at C
    by_cases hlt : j < xs.length
    · obtain ⟨b, o, rfl, hb, hc⟩ := (H.lies HL.out).at hlt
      have hdr := HF.out
      rw [List.drop_eq_getElem_cons hlt, ← getElem!_pos xs j hlt] at hdr
      obtain ⟨x, hxj⟩ : ∃ x, x = xs[j]! := ⟨_, rfl⟩
      rw [← hxj] at hc hdr
      obtain ⟨p, l, t⟩ := x
      have c0 : wr.cell? ⟨b, o + j * 3, none⟩ = some (.int .i64 p) := hc 0 _ rfl
      have c1 : wr.cell? ⟨b, o + j * 3 + 1, none⟩ = some (.int .i64 l) := hc 1 _ rfl
      have c2 : wr.cell? ⟨b, o + j * 3 + 2, none⟩ = some (.int .i64 t) := hc 2 _ rfl
      simp only [okF] at hdr
      clear hc hxj HF
      have HW1 := Lib.hid (fun (d : Bool) (e : decide (1 ≤ l ∧ l ≤ 1048576) = d) => fun w => (by have := within_any l 1 1048576 w; rw [e] at this; exact this : Calls Try.prog 16 #[.int .i64 l, .int .i64 1, .int .i64 1048576] w (Gives (.bool d) w)))
      have HW2 := Lib.hid (fun (d : Bool) (e : decide (0 ≤ t ∧ t ≤ 1099511627776) = d) => fun w => (by have := within_any t 0 1099511627776 w; rw [e] at this; exact this : Calls Try.prog 16 #[.int .i64 t, .int .i64 0, .int .i64 1099511627776] w (Gives (.bool d) w)))
      by_cases h1 : last < p
      · rw [decide_eq_true h1, Bool.true_and] at hdr
        cases h2 : decide (1 ≤ l ∧ l ≤ 1048576) with
        | false =>
          rw [h2, Bool.false_and, Bool.false_and] at hdr
          have HA := Lib.hid (HW1.out _ h2)
          have HB := Lib.hid hdr
          clear HW1 HW2 h2 hdr
          go_wp2_with fail
          refine (HA.out _).mono ?_
          rintro _ w2 ⟨rfl, hb⟩
          replace H := H.alloc.below hb
          clear hb
          try clear C
          try simp only [World.size_alloc, List.nil_append, List.cons_append, List.append_assoc] at H
          generalize wr.heap.size = bx at H ⊢
          try clear wr
          have C := H.cells
          try simp only [cellsOf, apartOf, and_true] at C
          dsimp only
          go_wp2_with fail
          go_ret
          exact ⟨by unfold rvB; rw [HB.out]; rfl, H.done⟩
        | true =>
          rw [h2, Bool.true_and] at hdr
          have HA := Lib.hid (HW1.out _ h2)
          clear HW1 h2
          cases h3 : decide (0 ≤ t ∧ t ≤ 1099511627776) with
          | false =>
            rw [h3, Bool.false_and] at hdr
            have HB := Lib.hid hdr
            have HA2 := Lib.hid (HW2.out _ h3)
            clear HW2 hdr h3
            skip
            go_wp2_with fail
            refine (HA.out _).mono ?_
            rintro _ w3 ⟨rfl, hb⟩
            replace H := H.alloc.below hb
            clear hb
            try clear C
            try simp only [World.size_alloc, List.nil_append, List.cons_append, List.append_assoc] at H
            generalize wr.heap.size = bx at H ⊢
            try clear wr
            have C := H.cells
            try simp only [cellsOf, apartOf, and_true] at C
            dsimp only
            go_wp2_with fail
            refine (HA2.out _).mono ?_
            rintro _ w4 ⟨rfl, hb⟩
            replace H := H.below hb
            clear hb
            try clear C
            try simp only [World.size_alloc, List.nil_append, List.cons_append, List.append_assoc] at H
            try clear w3
            have C := H.cells
            try simp only [cellsOf, apartOf, and_true] at C
            dsimp only
            go_wp2_with fail
            go_ret
            exact ⟨by unfold rvB; rw [HB.out]; rfl, H.done⟩
          | true =>
            rw [h3, Bool.true_and] at hdr
            have HB := Lib.hid hdr
            have HA2 := Lib.hid (HW2.out _ h3)
            clear HW2 hdr h3
            skip
            go_wp2_with fail
            refine (HA.out _).mono ?_
            rintro _ w5 ⟨rfl, hb⟩
            replace H := H.alloc.below hb
            clear hb
            try clear C
            try simp only [World.size_alloc, List.nil_append, List.cons_append, List.append_assoc] at H
            generalize wr.heap.size = bx at H ⊢
            try clear wr
            have C := H.cells
            try simp only [cellsOf, apartOf, and_true] at C
            dsimp only
            go_wp2_with fail
            refine (HA2.out _).mono ?_
            rintro _ w6 ⟨rfl, hb⟩
            replace H := H.below hb
            clear hb
            try clear C
            try simp only [World.size_alloc, List.nil_append, List.cons_append, List.append_assoc] at H
            try clear w5
            have C := H.cells
            try simp only [cellsOf, apartOf, and_true] at C
            dsimp only
            go_wp2_with fail
            go_roundw
            case rel => exact ⟨j + 1, p, by go_num, rfl, by omega, HB, H.less (by repeat (first | exact .slnil | refine .cons_cons _ ?_ | refine .cons _ ?_))⟩
            case measure => simp [intOf]; omega
      · rw [decide_eq_false h1, Bool.false_and, Bool.false_and, Bool.false_and] at hdr
        have HB := Lib.hid hdr
        clear hdr HW1 HW2
        skip
        go_wp2_with fail
        go_ret
        exact ⟨by unfold rvB; rw [HB.out]; rfl, H.alloc.done⟩
    · have hd : okF (-1) xs = true := by rw [HF.out, List.drop_eq_nil_of_le (by omega)]; rfl
      have HB := Lib.hid hd
      clear hd HF
      have HW1 := Lib.hid (fun (d : Bool) (e : decide (1 ≤ P ∧ P ≤ 1099511627776) = d) => fun w => (by have := within_any P 1 1099511627776 w; rw [e] at this; exact this : Calls Try.prog 16 #[.int .i64 P, .int .i64 1, .int .i64 1099511627776] w (Gives (.bool d) w)))
      have HW2 := Lib.hid (fun (d : Bool) (e : decide (1 ≤ L ∧ L ≤ 1048576) = d) => fun w => (by have := within_any L 1 1048576 w; rw [e] at this; exact this : Calls Try.prog 16 #[.int .i64 L, .int .i64 1, .int .i64 1048576] w (Gives (.bool d) w)))
      cases h2 : decide (1 ≤ P ∧ P ≤ 1099511627776) with
      | false =>
        have HA := Lib.hid (HW1.out _ h2)
        have H2 := Lib.hid h2
        clear HW1 HW2 h2
        skip
        go_wp2_with fail
        refine (HA.out _).mono ?_
        rintro _ w7 ⟨rfl, hb⟩
        replace H := H.below hb
        clear hb
        try clear C
        try simp only [World.size_alloc, List.nil_append, List.cons_append, List.append_assoc] at H
        try clear wr
        have C := H.cells
        try simp only [cellsOf, apartOf, and_true] at C
        dsimp only
        go_wp2_with fail
        go_ret
        exact ⟨by unfold rvB; rw [HB.out, H2.out]; rfl, H.done⟩
      | true =>
        have HA := Lib.hid (HW1.out _ h2)
        have H2 := Lib.hid h2
        clear HW1 h2
        cases h3 : decide (1 ≤ L ∧ L ≤ 1048576) with
        | false =>
          have HA2 := Lib.hid (HW2.out _ h3)
          have H3 := Lib.hid h3
          clear HW2 h3
          skip
          go_wp2_with fail
          refine (HA.out _).mono ?_
          rintro _ w8 ⟨rfl, hb⟩
          replace H := H.below hb
          clear hb
          try clear C
          try simp only [World.size_alloc, List.nil_append, List.cons_append, List.append_assoc] at H
          try clear wr
          have C := H.cells
          try simp only [cellsOf, apartOf, and_true] at C
          dsimp only
          go_wp2_with fail
          refine (HA2.out _).mono ?_
          rintro _ w9 ⟨rfl, hb⟩
          replace H := H.below hb
          clear hb
          try clear C
          try simp only [World.size_alloc, List.nil_append, List.cons_append, List.append_assoc] at H
          try clear w8
          have C := H.cells
          try simp only [cellsOf, apartOf, and_true] at C
          dsimp only
          go_wp2_with fail
          go_ret
          exact ⟨by unfold rvB; rw [HB.out, H2.out, H3.out]; rfl, H.done⟩
        | true =>
          have HA2 := Lib.hid (HW2.out _ h3)
          have H3 := Lib.hid h3
          clear HW2 h3
          skip
          go_wp2_with fail
          refine (HA.out _).mono ?_
          rintro _ w10 ⟨rfl, hb⟩
          replace H := H.below hb
          clear hb
          try clear C
          try simp only [World.size_alloc, List.nil_append, List.cons_append, List.append_assoc] at H
          try clear wr
          have C := H.cells
          try simp only [cellsOf, apartOf, and_true] at C
          dsimp only
          go_wp2_with fail
          refine (HA2.out _).mono ?_
          rintro _ w11 ⟨rfl, hb⟩
          replace H := H.below hb
          clear hb
          try clear C
          try simp only [World.size_alloc, List.nil_append, List.cons_append, List.append_assoc] at H
          try clear w10
          have C := H.cells
          try simp only [cellsOf, apartOf, and_true] at C
          dsimp only
          go_wp2_with fail
          go_ret
          refine ⟨?_, H.done⟩
          unfold rvB
          rw [HB.out, H2.out, H3.out]
          simp
          omega

theorem isnan_any (n : Int) (w : World) : Calls Try.prog 26 #[.int .i64 n] w (Gives (.bool false) w) := by
  go_enter Try.func26, Try.ntmps26
  have H := HS.start NoD w
  go_wp2_with fail
  go_ret
  exact ⟨by simp, H.done⟩
def cmpI (a b : Int) : Int := if a < b then -1 else if b < a then 1 else 0
theorem cmp_any (a b : Int) (w : World) : Calls Try.prog 22 #[.int .i64 a, .int .i64 b] w (Gives (.int .i64 (cmpI a b)) w) := by
  go_enter Try.func22, Try.ntmps22
  have H := HS.start NoD w
  go_wp2_with fail
  refine (isnan_any _ _).mono ?_
  rintro _ w1 ⟨rfl, hb⟩
  replace H := H.below hb
  clear hb
  try clear C
  try simp only [World.size_alloc, List.nil_append, List.cons_append, List.append_assoc] at H
  have C := H.cells
  try simp only [cellsOf, apartOf, and_true] at C
  dsimp only
  go_wp2_with fail
  refine (isnan_any _ _).mono ?_
  rintro _ w2 ⟨rfl, hb⟩
  replace H := H.below hb
  clear hb
  try clear C
  try simp only [World.size_alloc, List.nil_append, List.cons_append, List.append_assoc] at H
  try clear w1
  have C := H.cells
  try simp only [cellsOf, apartOf, and_true] at C
  dsimp only
  by_cases h1 : a < b
  · skip
    go_wp2_with fail
    go_ret
    exact ⟨by unfold cmpI; rw [if_pos h1]; rfl, H.done⟩
  · by_cases h2 : b < a
    · skip
      go_wp2_with fail
      go_ret
      exact ⟨by unfold cmpI; rw [if_neg (by omega), if_pos h2]; rfl, H.done⟩
    · skip
      go_wp2_with fail
      go_ret
      exact ⟨by unfold cmpI; rw [if_neg (by omega), if_neg (by omega)]; rfl, H.done⟩
theorem note1_any (x : G3) (T : Int) (b : Nat) (w : World) (hb : w.cell? ⟨b, 0, none⟩ = some (.int .i64 T)) (hlt : b < w.heap.size) : Calls Try.prog 18 #[.agg (gC x).toArray, .pointer (some ⟨b, 0, none⟩)] w (Gives (.bool (decide (T < x.t))) w) := by
  obtain ⟨p, l, t⟩ := x
  have hne : (w.heap.size = b) = False := eq_false (by omega)
  have hne' : (b = w.heap.size) = False := eq_false (by omega)
  show Calls Try.prog 18 #[.agg #[.int .i64 p, .int .i64 l, .int .i64 t], .pointer (some ⟨b, 0, none⟩)] w _
  go_enter Try.func18, Try.ntmps18
  have H := HS.start NoD w
  go_wp2_with fail
  go_ret
  exact ⟨rfl, H.alloc.done⟩
theorem note2_any (x : G3) (n : Int) (w : World) : Calls Try.prog 21 #[.agg (gC x).toArray, .int .i64 n] w (Gives (.int .i64 (cmpI x.p n)) w) := by
  obtain ⟨p, l, t⟩ := x
  show Calls Try.prog 21 #[.agg #[.int .i64 p, .int .i64 l, .int .i64 t], .int .i64 n] w _
  go_enter Try.func21, Try.ntmps21
  have H := HS.start NoD w
  go_wp2_with fail
  refine (cmp_any _ _ _).mono ?_
  rintro _ w1 ⟨rfl, hb⟩
  replace H := H.alloc.below hb
  clear hb
  try clear C
  try simp only [World.size_alloc, List.nil_append, List.cons_append, List.append_assoc] at H
  generalize w.heap.size = bx at H ⊢
  have C := H.cells
  try simp only [cellsOf, apartOf, and_true] at C
  dsimp only
  go_wp2_with fail
  go_ret
  exact ⟨rfl, H.done⟩
theorem sorted_of : ∀ {xs : List G3} {last : Int}, okF last xs = true → (∀ x ∈ xs, last < x.p ∧ 1 ≤ x.l ∧ x.l ≤ 1048576 ∧ 0 ≤ x.t ∧ x.t ≤ 1099511627776) ∧ xs.Pairwise fun x y => x.p < y.p
  | [], _, _ => ⟨by simp, .nil⟩
  | x :: xs, last, h => by
    simp only [okF, Bool.and_eq_true, decide_eq_true_eq] at h
    obtain ⟨⟨⟨h1, h2⟩, h3⟩, h4⟩ := h
    obtain ⟨i1, i2⟩ := sorted_of h4
    refine ⟨fun y hy => ?_, List.pairwise_cons.2 ⟨fun y hy => (i1 y hy).1, i2⟩⟩
    rcases List.mem_cons.1 hy with rfl | hy
    · exact ⟨h1, h2.1, h2.2, h3.1, h3.2⟩
    · have := i1 y hy
      exact ⟨by omega, this.2⟩
/-- Where a part belongs: how many are less. -/
def SearchPost (n : Int) (xs : List G3) (w : World) (e : Ending) (w' : World) : Prop :=
  ∃ i : Nat, i ≤ xs.length ∧ (∀ k, k < i → xs[k]!.p < n) ∧ (∀ k, i ≤ k → k < xs.length → n ≤ xs[k]!.p) ∧ e = .returned (.tuple #[.int .i64 i, .bool (decide (i < xs.length ∧ xs[i]!.p = n))]) ∧ Below w.heap.size w w'
set_option maxHeartbeats 4000000 in
theorem bsearch_any (n : Int) {sa : Option Addr} (c : Nat) {xs : List G3} (hx : xs.length ≤ 100000) (hs : xs.Pairwise fun x y => x.p < y.p) (w : World) (hl : Lies w w.heap.size sa 3 xs.length (fun j => gC xs[j]!)) :
    Calls Try.prog 20 #[.slice sa xs.length c, .int .i64 n, .func (.func 21) #[] #[]] w (SearchPost n xs w) := by
  have HL := Lib.hid hl
  have HS' := Lib.hid hs
  clear hl hs
  go_enter Try.func20, Try.ntmps20
  have H := HS.start NoD w
  go_wp2_with fail
  go_loopw [9, 10] (fun i j wr => ∃ (a b : Nat), i = .int .i64 a ∧ j = .int .i64 b ∧ a ≤ b ∧ b ≤ xs.length ∧ Hid ((∀ k, k < a → xs[k]!.p < n) ∧ (∀ k, b ≤ k → k < xs.length → n ≤ xs[k]!.p)) ∧ HS NoD w [] wr) (fun i j _ => (intOf j - intOf i).toNat)
  case atStart => exact ⟨0, xs.length, rfl, rfl, Nat.zero_le _, Nat.le_refl _, ⟨fun k hk => absurd hk (Nat.not_lt_zero _), fun k h1 h2 => by omega⟩, H⟩
  case round =>
    clear H
    obtain ⟨a, b, rfl, rfl, hab, hb, HF, H⟩ := hrel
    skip
    by_cases hlt : a < b
    · go_upto_region 5 with fail
      obtain ⟨m, hm⟩ : ∃ m : Nat, m = (a + b) / 2 := ⟨_, rfl⟩
      have hmi : ((a : Int) + (b : Int)) / 2 = (m : Int) := by omega
      rw [hmi]
      have hm1 : a ≤ m := by omega
      have hm2 : m < b := by omega
      clear hm hmi
      obtain ⟨bl, o, rfl, hbl, hc⟩ := (H.lies HL.out).at (show m < xs.length by omega)
      have hcall := Lib.hid (fun w => note2_any xs[m]! n w)
      obtain ⟨x, hxj⟩ : ∃ x, x = xs[m]! := ⟨_, rfl⟩
      rw [← hxj] at hc hcall
      have c0 : wr.cell? ⟨bl, o + m * 3, none⟩ = _ := hc 0 _ rfl
      have c1 : wr.cell? ⟨bl, o + m * 3 + 1, none⟩ = _ := hc 1 _ rfl
      have c2 : wr.cell? ⟨bl, o + m * 3 + 2, none⟩ = _ := hc 2 _ rfl
      have hmlen : m < xs.length := by omega
      obtain ⟨v, hv⟩ : ∃ v, v = cmpI x.p n := ⟨_, rfl⟩
      rw [← hv] at hcall
      have HX := Lib.hid hxj
      by_cases hp : x.p < n
      · have : v = -1 := by rw [hv]; unfold cmpI; rw [if_pos hp]
        subst this
        have HP := Lib.hid hp
        clear hc hxj hp hv
        go_wp2_with fail
        refine (hcall.out _).mono ?_
        rintro _ w1 ⟨rfl, hb⟩
        replace H := H.below hb
        clear hb
        try clear C
        try simp only [World.size_alloc, List.nil_append, List.cons_append, List.append_assoc] at H
        try clear wr
        have C := H.cells
        try simp only [cellsOf, apartOf, and_true] at C
        dsimp only
        go_wp2_with fail
        go_roundw
        case rel =>
          refine ⟨m + 1, b, by go_num, rfl, by omega, hb, (show Hid _ from ⟨fun k hk => ?_, HF.out.2⟩), H⟩
          by_cases e : k = m
          · subst e; rw [← HX.out]; exact HP.out
          · have h1 := List.pairwise_iff_getElem.1 HS'.out k m (by omega) hmlen (by omega)
            rw [← getElem!_pos xs k (by omega), ← getElem!_pos xs m hmlen, ← HX.out] at h1
            have := HP.out
            omega
        case measure => simp [intOf]; omega
      · have hv0 : 0 ≤ v := by rw [hv]; unfold cmpI; rw [if_neg hp]; split <;> decide
        have HP := Lib.hid hp
        clear hc hxj hp hv
        skip
        go_wp2_with fail
        refine (hcall.out _).mono ?_
        rintro _ w2 ⟨rfl, hb⟩
        replace H := H.below hb
        clear hb
        try clear C
        try simp only [World.size_alloc, List.nil_append, List.cons_append, List.append_assoc] at H
        try clear wr
        have C := H.cells
        try simp only [cellsOf, apartOf, and_true] at C
        dsimp only
        go_wp2_with fail
        go_roundw
        case rel =>
          refine ⟨a, m, rfl, rfl, by omega, by omega, (show Hid _ from ⟨HF.out.1, fun k hk1 hk2 => ?_⟩), H⟩
          have := HP.out
          by_cases e : k = m
          · subst e; rw [← HX.out]; omega
          · have h1 := List.pairwise_iff_getElem.1 HS'.out m k hmlen hk2 (by omega)
            rw [← getElem!_pos xs k hk2, ← getElem!_pos xs m hmlen, ← HX.out] at h1
            omega
        case measure => simp [intOf]; omega
    · have hab' : a = b := by omega
      subst hab'
      by_cases hal : a < xs.length
      · obtain ⟨bl, o, rfl, hbl, hc⟩ := (H.lies HL.out).at hal
        have hcall := Lib.hid (fun w => note2_any xs[a]! n w)
        have hge := HF.out.2 a (Nat.le_refl _) hal
        obtain ⟨x, hxj⟩ : ∃ x, x = xs[a]! := ⟨_, rfl⟩
        rw [← hxj] at hc hcall hge
        have c0 : wr.cell? ⟨bl, o + a * 3, none⟩ = _ := hc 0 _ rfl
        have c1 : wr.cell? ⟨bl, o + a * 3 + 1, none⟩ = _ := hc 1 _ rfl
        have c2 : wr.cell? ⟨bl, o + a * 3 + 2, none⟩ = _ := hc 2 _ rfl
        obtain ⟨v, hv⟩ : ∃ v, v = cmpI x.p n := ⟨_, rfl⟩
        rw [← hv] at hcall
        have HX := Lib.hid hxj
        have hv0 : v = 0 ↔ x.p = n := by rw [hv]; unfold cmpI; rw [if_neg (by omega)]; split <;> omega
        have HV := Lib.hid hv0
        have HG := Lib.hid hge
        clear hc hxj hv hv0 hge
        skip
        go_wp2_with fail
        refine (hcall.out _).mono ?_
        rintro _ w3 ⟨rfl, hb⟩
        replace H := H.below hb
        clear hb
        try clear C
        try simp only [World.size_alloc, List.nil_append, List.cons_append, List.append_assoc] at H
        try clear wr
        have C := H.cells
        try simp only [cellsOf, apartOf, and_true] at C
        dsimp only
        go_wp2_with fail
        go_ret2
        refine ⟨a, by omega, HF.out.1, HF.out.2, ?_, H.done⟩
        rw [← HX.out]
        have hd : decide (v = 0) = decide (a < xs.length ∧ x.p = n) := decide_eq_decide.2 ⟨fun e => ⟨hal, HV.out.1 e⟩, fun e => HV.out.2 e.2⟩
        rw [← hd]
        rfl
      · skip
        go_wp2_with fail
        go_ret2
        refine ⟨a, by omega, HF.out.1, HF.out.2, ?_, H.done⟩
        rw [decide_eq_false (fun h => hal h.1)]
        rfl
end Go.Proofs.Ytdcieajdgmopkaa
