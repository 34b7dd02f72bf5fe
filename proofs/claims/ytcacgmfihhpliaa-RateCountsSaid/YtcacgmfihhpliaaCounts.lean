/- The statement RateCounts: its walk. -/
import Derived.Test.YtcacgmfihhpliaaRate5
import Derived.Test.YtcacgmfihhpliaaDice
namespace Go.Proofs.Ytcacgmfihhpliaa
set_option linter.unusedSimpArgs false
set_option linter.unusedVariables false
open Go.RowKit
set_option maxRecDepth 100000
attribute [local go_sem] lt_more ne_more ne_more'
attribute [local irreducible] Calls

theorem newG_nil (P T part n : Int) : newG P T part n [] = ⟨part, n, T⟩ := rfl
theorem newG_one (P T part n l t : Int) : newG P T part n [⟨part, l, t⟩] = if 0 < l - leakN P T ⟨part, l, t⟩ then ⟨part, min (l - leakN P T ⟨part, l, t⟩ + n) 1048576, t + leakN P T ⟨part, l, t⟩ * P⟩ else ⟨part, n, T⟩ := by
  unfold newG leakL
  rw [List.filterMap_cons]
  unfold leakG
  by_cases h : 0 < l - leakN P T ⟨part, l, t⟩
  · rw [if_pos h, if_pos h]
  · rw [if_neg h, if_neg h]; rfl
/-- One sighting: the level grows by one, and when it will be empty. -/
theorem one_step {p T l t : Int} (hp : 1 ≤ p) (hl : 1 ≤ l ∧ l ≤ 1000) (ht : t ≤ T) : ∃ l' t', newG p T 4 1 [⟨4, l, t⟩] = ⟨4, l', t'⟩ ∧ 1 ≤ l' ∧ l' ≤ l + 1 ∧ t ≤ t' ∧ t' ≤ T ∧ T < t' + p ∧ ((t + l * p ≤ T ∧ l' = 1 ∧ t' = T) ∨ (T < t + l * p ∧ t' + l' * p = t + l * p + p)) := by
  obtain ⟨n, hn⟩ : ∃ n, n = leakN p T ⟨4, l, t⟩ := ⟨_, rfl⟩
  have h1 := leakN_in (x := ⟨4, l, t⟩) hp ht
  rw [newG_one, ← hn]
  rw [← hn] at h1
  dsimp only at h1
  have hlt : T - t < n * p + p := by
    have e : n = (T - t) / p := by rw [hn]; unfold leakN; rw [if_pos ht]
    have h2 := Int.emod_add_mul_ediv (T - t) p
    have h3 := Int.emod_lt_of_pos (T - t) (show 0 < p by omega)
    rw [← e, Int.mul_comm] at h2
    omega
  have hle := h1.2.2.2.1
  by_cases hpos : 0 < l - n
  · rw [if_pos hpos, show min (l - n + 1) 1048576 = l - n + 1 by omega]
    have hE : T < t + l * p := by
      have : (n + 1) * p ≤ l * p := Int.mul_le_mul_of_nonneg_right (by omega) (by omega)
      rw [Int.add_mul, Int.one_mul] at this
      omega
    refine ⟨_, _, rfl, by omega, by omega, by omega, by omega, by omega, .inr ⟨hE, ?_⟩⟩
    rw [show l - n + 1 = (l + 1) - n by omega, Int.sub_mul, Int.add_mul, Int.one_mul]
    omega
  · rw [if_neg hpos]
    have hE : t + l * p ≤ T := by
      have : l * p ≤ n * p := Int.mul_le_mul_of_nonneg_right (by omega) (by omega)
      omega
    exact ⟨_, _, rfl, by omega, by omega, by omega, by omega, by omega, .inl ⟨hE, rfl, rfl⟩⟩
/-- Two gauges of the same sightings, with periods p ≤ q, behind the sighting at the time T. -/
structure CI (p q T la ta lb tb : Int) : Prop where
  la1 : 1 ≤ la
  lb1 : 1 ≤ lb
  ta1 : ta ≤ T
  ta2 : T < ta + p
  tb1 : tb ≤ T
  tb2 : T < tb + q
  ineq : (ta + la * p - T) * q ≤ (tb + lb * q - T) * p
theorem CI.step {p q T d la ta lb tb : Int} (hp : 1 ≤ p) (hpq : p ≤ q) (hd : 0 ≤ d) (ha : la ≤ 1000) (hb : lb ≤ 1000) (h : CI p q T la ta lb tb) :
    ∃ la' ta' lb' tb', newG p (T + d) 4 1 [⟨4, la, ta⟩] = ⟨4, la', ta'⟩ ∧ newG q (T + d) 4 1 [⟨4, lb, tb⟩] = ⟨4, lb', tb'⟩ ∧ la' ≤ la + 1 ∧ lb' ≤ lb + 1 ∧ ta ≤ ta' ∧ tb ≤ tb' ∧ la' ≤ lb' ∧ CI p q (T + d) la' ta' lb' tb' := by
  obtain ⟨la', ta', e1, a1, a2, a3, a4, a5, a6⟩ := one_step (T := T + d) (t := ta) hp ⟨h.la1, ha⟩ (by have := h.ta1; omega)
  obtain ⟨lb', tb', e2, b1, b2, b3, b4, b5, b6⟩ := one_step (T := T + d) (p := q) (t := tb) (by omega) ⟨h.lb1, hb⟩ (by have := h.tb1; omega)
  have hdq : d * p ≤ d * q := Int.mul_le_mul_of_nonneg_left hpq hd
  have h0 := h.ineq
  -- what is left of each, in time
  obtain ⟨A, hA⟩ : ∃ A, A = ta + la * p - T := ⟨_, rfl⟩
  obtain ⟨B, hB⟩ : ∃ B, B = tb + lb * q - T := ⟨_, rfl⟩
  rw [← hA, ← hB] at h0
  obtain ⟨X, hX⟩ : ∃ X, X = ta' + la' * p - (T + d) := ⟨_, rfl⟩
  obtain ⟨Y, hY⟩ : ∃ Y, Y = tb' + lb' * q - (T + d) := ⟨_, rfl⟩
  have hX1 : X = max (A - d) 0 + p := by
    rcases a6 with ⟨c1, c2, c3⟩ | ⟨c1, c2⟩
    · subst c2 c3; rw [hX, Int.one_mul]; omega
    · omega
  have hY1 : Y = max (B - d) 0 + q := by
    rcases b6 with ⟨c1, c2, c3⟩ | ⟨c1, c2⟩
    · subst c2 c3; rw [hY, Int.one_mul]; omega
    · omega
  have hXY : max (A - d) 0 * q ≤ max (B - d) 0 * p := by
    have hY0 : 0 ≤ max (B - d) 0 * p := Int.mul_nonneg (by omega) (by omega)
    by_cases hc : A - d ≤ 0
    · rw [show max (A - d) 0 = 0 by omega, Int.zero_mul]; exact hY0
    · have h1 : (B - d) * p ≤ max (B - d) 0 * p := Int.mul_le_mul_of_nonneg_right (by omega) (by omega)
      rw [show max (A - d) 0 = A - d by omega, Int.sub_mul]
      rw [Int.sub_mul] at h1
      omega
  have hineq : X * q ≤ Y * p := by
    rw [hX1, hY1, Int.add_mul, Int.add_mul, Int.mul_comm p q]
    omega
  refine ⟨la', ta', lb', tb', e1, e2, a2, b2, a3, b3, ?_, ⟨a1, b1, a4, a5, b4, b5, by rw [← hX, ← hY]; exact hineq⟩⟩
  rcases Int.lt_or_le lb' la' with hc | hc
  · exfalso
    -- (la' - 1) p < X, and Y ≤ lb' q
    have c1 : (la' - 1) * p < X := by rw [hX, Int.sub_mul, Int.one_mul]; omega
    have c2 : Y ≤ lb' * q := by rw [hY]; omega
    have c3 : lb' * p ≤ (la' - 1) * p := Int.mul_le_mul_of_nonneg_right (by omega) (by omega)
    have c4 : lb' * p * q < X * q := Int.mul_lt_mul_of_pos_right (by omega) (by omega)
    have c5 : Y * p ≤ lb' * q * p := Int.mul_le_mul_of_nonneg_right c2 (by omega)
    rw [Int.mul_assoc, Int.mul_comm q p, ← Int.mul_assoc] at c5
    omega
  · exact hc
/-- Where the three gauges stand behind j sightings, the last at the time T. -/
def CSt (p q : Int) (j : Nat) (T : Int) (xa xb xz : List G3) : Prop :=
  (j = 0 ∧ xa = [] ∧ xb = [] ∧ xz = []) ∨ ∃ la ta lb tb tz, xa = [⟨4, la, ta⟩] ∧ xb = [⟨4, lb, tb⟩] ∧ xz = [⟨4, j, tz⟩] ∧ CI p q T la ta lb tb ∧ la ≤ j ∧ lb ≤ j ∧ 0 ≤ ta ∧ 0 ≤ tb ∧ 0 ≤ tz ∧ tz ≤ T ∧ 1 ≤ j
theorem CSt.one {p q T : Int} {j : Nat} {xa xb xz : List G3} (h : CSt p q j T xa xb xz) (hj : j ≤ 100) : xa.length ≤ 1 ∧ xb.length ≤ 1 ∧ xz.length ≤ 1 ∧ (∀ T', T ≤ T' → T ≤ 1000 → (∀ x ∈ xa, x.p = 4 ∧ x.t ≤ T') ∧ (∀ x ∈ xb, x.p = 4 ∧ x.t ≤ T') ∧ (∀ x ∈ xz, x.p = 4 ∧ x.t ≤ T') ∧ ∀ P L : Int, 1 ≤ P ∧ P ≤ 1099511627776 → 1 ≤ L ∧ L ≤ 1048576 → rvB P L xa = true ∧ rvB P L xb = true ∧ rvB P L xz = true) := by
  rcases h with ⟨-, rfl, rfl, rfl⟩ | ⟨la, ta, lb, tb, tz, rfl, rfl, rfl, h, h1, h2, h3, h4, h5, h6, h7⟩
  · refine ⟨by simp, by simp, by simp, fun T' _ _ => ⟨by simp, by simp, by simp, fun P L hP hL => ?_⟩⟩
    simp [rvB, okF, hP, hL]
  · refine ⟨by simp, by simp, by simp, fun T' hT hT2 => ⟨?_, ?_, ?_, fun P L hP hL => ?_⟩⟩
    · simp; have := h.ta1; omega
    · simp; have := h.tb1; omega
    · simp; omega
    · have := h.la1; have := h.lb1; have := h.ta1; have := h.tb1
      simp only [rvB, okF, Bool.and_true, Bool.and_eq_true, decide_eq_true_eq, List.length_singleton]
      omega
theorem still_one {T tz M : Int} {j : Nat} (hM : 1000 < M) (h : 0 ≤ tz ∧ tz ≤ T ∧ T ≤ 1000) (hj : j ≤ 100) : newG M T 4 1 [⟨4, j, tz⟩] = ⟨4, ((j + 1 : Nat) : Int), tz⟩ ∨ j = 0 := by
  by_cases h0 : j = 0
  · exact .inr h0
  · left
    have hz : leakN M T ⟨4, j, tz⟩ = 0 := by
      unfold leakN
      rw [if_pos (by dsimp only; omega)]
      exact Int.ediv_eq_zero_of_lt (by dsimp only; omega) (by dsimp only; omega)
    rw [newG_one, hz, if_pos (by omega), Int.zero_mul, Int.add_zero, Int.sub_zero, show min ((j : Int) + 1) 1048576 = ((j + 1 : Nat) : Int) by omega]
theorem CSt.step {p q T d : Int} {j : Nat} {xa xb xz : List G3} (hp : 1 ≤ p) (hpq : p ≤ q) (hd : 0 ≤ d) (hT : 0 ≤ T ∧ T + d ≤ 1000) (hj : j ≤ 100) (h : CSt p q j T xa xb xz) :
    CSt p q (j + 1) (T + d) [newG p (T + d) 4 1 xa] [newG q (T + d) 4 1 xb] [newG 1099511627776 (T + d) 4 1 xz] ∧ (newG p (T + d) 4 1 xa).l ≤ (newG q (T + d) 4 1 xb).l ∧ (newG 1099511627776 (T + d) 4 1 xz).l = j + 1 := by
  rcases h with ⟨rfl, rfl, rfl, rfl⟩ | ⟨la, ta, lb, tb, tz, rfl, rfl, rfl, h, h1, h2, h3, h4, h5, h6, h7⟩
  · refine ⟨.inr ⟨1, T + d, 1, T + d, T + d, rfl, rfl, rfl, ⟨by omega, by omega, by omega, by omega, by omega, by omega, ?_⟩, by omega, by omega, by omega, by omega, by omega, by omega, by omega⟩, Int.le_refl _, rfl⟩
    rw [show T + d + 1 * p - (T + d) = p by omega, show T + d + 1 * q - (T + d) = q by omega, Int.mul_comm]
    exact Int.le_refl _
  · obtain ⟨la', ta', lb', tb', e1, e2, c1, c2, c3, c4, c5, c6⟩ := h.step hp hpq hd (by omega) (by omega)
    have e3 := (still_one (T := T + d) (tz := tz) (M := 1099511627776) (j := j) (by decide) (by omega) hj).resolve_right (by omega)
    rw [e1, e2, e3]
    exact ⟨.inr ⟨la', ta', lb', tb', tz, rfl, rfl, rfl, c6, by omega, by omega, by omega, by omega, by omega, by omega, by omega⟩, c5, by dsimp only; omega⟩
/-- A slice of bytes in memory. -/
def U8s (w : World) (sa : Option Addr) (len : Nat) : Prop := ∀ j, j < len → ∃ a n, sa = some a ∧ w.cell? (a.add j) = some (.int .u8 n) ∧ 0 ≤ n ∧ n < 256
theorem gives_of {n : Nat} {args : Array Value} {v : Value} {w : World} (h : Calls Try.prog n args w fun e w' => e = .returned v ∧ w = w') : Calls Try.prog n args w (Gives v w) :=
  h.mono fun e w' ⟨h1, h2⟩ => ⟨h1, h2 ▸ Below.refl _ _⟩
set_option maxHeartbeats 8000000 in
theorem counts_walk (sa : Option Addr) (len cap : Nat) (hl : len ≤ maxLen) (period limit : Int) (w : World) (hI : U8s w sa len) :
    Calls Try.prog 11 #[.slice sa len cap, .int .i64 period, .int .i64 limit] w (Gives (.bool true) w) := by
  have HI := Lib.hid hI
  clear hI
  unfold maxLen at hl
  by_cases h60 : len ≤ 60
  · have m1 := modF_in (n := period) (m := 20) (by decide) (by decide)
    have m2 := modF_in (n := limit) (m := 20) (by decide) (by decide)
    have m3 := modF_in (n := limit) (m := 9) (by decide) (by decide)
    have M1 := Lib.hid (fun w => gives_of (mod_any period 20 w))
    have M2 := Lib.hid (fun w => gives_of (mod_any limit 20 w))
    have M3 := Lib.hid (fun w => gives_of (mod_any limit 9 w))
    generalize modF period 20 = a at *
    generalize modF limit 20 = b at *
    generalize modF limit 9 = c at *
    obtain ⟨p, hp⟩ : ∃ p, p = 1 + a := ⟨_, rfl⟩
    obtain ⟨q, hq⟩ : ∃ q, q = p + b := ⟨_, rfl⟩
    obtain ⟨L, hL⟩ : ∃ L, L = 1 + c := ⟨_, rfl⟩
    have q1 : wrap64 (1 + a) = p := by rw [hp]; exact IntWalk.wrap64_in _ (by omega)
    have q2 : wrap64 (p + b) = q := by rw [hq]; exact IntWalk.wrap64_in _ (by omega)
    have q3 : wrap64 (1 + c) = L := by rw [hL]; exact IntWalk.wrap64_in _ (by omega)
    have hp1 : 1 ≤ p ∧ p ≤ 20 := by omega
    have hq1 : p ≤ q ∧ q ≤ 40 := by omega
    have hL1 : 1 ≤ L ∧ L ≤ 9 := by omega
    clear hp hq hL m1 m2 m3
    go_enter Try.func11, Try.ntmps11
    have H := HS.start NoD w
    go_wp2_with fail
    refine (M1.out _).mono ?_
    rintro _ w1 ⟨rfl, hb⟩
    replace H := H.below hb
    clear hb
    try clear C
    try simp only [World.size_alloc, List.nil_append, List.cons_append, List.append_assoc] at H
    have C := H.cells
    try simp only [cellsOf, apartOf, and_true] at C
    dsimp only
    go_wp2_with fail
    refine (M2.out _).mono ?_
    rintro _ w2 ⟨rfl, hb⟩
    replace H := H.below hb
    clear hb
    try clear C
    try simp only [World.size_alloc, List.nil_append, List.cons_append, List.append_assoc] at H
    try clear w1
    have C := H.cells
    try simp only [cellsOf, apartOf, and_true] at C
    dsimp only
    go_wp2_with fail
    refine (M3.out _).mono ?_
    rintro _ w3 ⟨rfl, hb⟩
    replace H := H.below hb
    clear hb
    try clear C
    try simp only [World.size_alloc, List.nil_append, List.cons_append, List.append_assoc] at H
    try clear w2
    have C := H.cells
    try simp only [cellsOf, apartOf, and_true] at C
    dsimp only
    go_wp2_with fail
    generalize hwb : ((w3.alloc _).alloc _).alloc _ = w4
    replace H := HS.eqW hwb H.alloc.alloc.alloc
    try simp only [World.size_alloc, List.nil_append, List.cons_append, List.append_assoc] at H
    clear hwb
    generalize w3.heap.size + 2 = bZ at H ⊢
    generalize w3.heap.size + 1 = bB at H ⊢
    generalize w3.heap.size = bA at H ⊢
    try clear C
    try clear w3
    have C := H.cells
    try simp only [cellsOf, apartOf, and_true] at C
    clear q1 q2 q3
    have hn := ((H.nilRow 66 3).nilRow 66 3).nilRow 66 3
    clear H
    have H := hn
    clear hn
    try simp only [List.nil_append, List.cons_append] at H
    go_loopw [12, 49] (fun tm i wr => ∃ (j : Nat) (T : Int) (xa xb xz : List G3) (va vb vz : Value), i = .int .i64 j ∧ tm = .int .i64 T ∧ j ≤ len ∧ 0 ≤ T ∧ T ≤ 7 * j ∧ Hid (CSt p q j T xa xb xz) ∧ HS NoD w [.blk bA #[.int .i64 p, .int .i64 L, va] 63, .blk bB #[.int .i64 q, .int .i64 L, vb] 63, .blk bZ #[.int .i64 1099511627776, .int .i64 L, vz] 63, .row va 66 3 xa.length (xa.flatMap gC), .row vb 66 3 xb.length (xb.flatMap gC), .row vz 66 3 xz.length (xz.flatMap gC)] wr) (fun _ i _ => len - (intOf i).toNat)
    case atStart => exact ⟨0, 0, [], [], [], _, _, _, rfl, rfl, Nat.zero_le _, by decide, by decide, .inl ⟨rfl, rfl, rfl, rfl⟩, H⟩
    case round =>
      clear H C w4
      obtain ⟨j, T, xa, xb, xz, va, vb, vz, rfl, rfl, hj, hT0, hT7, HC, H⟩ := hrel
      obtain ⟨s1, d1, rfl⟩ := ownsRow_slice (H.at 3 rfl)
      obtain ⟨s2, d2, rfl⟩ := ownsRow_slice (H.at 4 rfl)
      obtain ⟨s3, d3, rfl⟩ := ownsRow_slice (H.at 5 rfl)
      skip
      try clear C
      try simp only [World.size_alloc, List.nil_append, List.cons_append, List.append_assoc] at H
      have C := H.cells
      try simp only [cellsOf, apartOf, and_true] at C
      by_cases hlt : j < len
      · obtain ⟨a, n, rfl, hcell, hn⟩ := HI.out j hlt
        have hblt := World.block_lt_of_cell? (w := w) (a := a.add j) hcell
        have hc := (H.was (p := a.add j) hblt id).trans hcell
        clear hcell hblt
        obtain ⟨d, hd⟩ : ∃ d, d = n % 8 := ⟨_, rfl⟩
        have hd1 : 0 ≤ d ∧ d < 8 := by omega
        have q1 : n.tmod 8 = d := by rw [hd]; exact Int.tmod_eq_emod_of_nonneg hn.1
        have q2 : n % 8 = d := hd.symm
        clear hd
        obtain ⟨T', hT'⟩ : ∃ T', T' = T + d := ⟨_, rfl⟩
        have q3 : wrap64 (T + d) = T' := by rw [hT']; exact IntWalk.wrap64_in _ (by omega)
        have hst := HC.out.step (d := d) hp1.1 hq1.1 (by omega) (by omega) (by omega)
        have hone := HC.out.one (by omega)
        rw [← hT'] at hst
        obtain ⟨o1, o2, o3, o4⟩ := hone
        obtain ⟨o5, o6, o7, o8⟩ := o4 T' (by omega) (by omega)
        have hT2 : 0 ≤ T' ∧ T' ≤ 7 * ((j + 1 : Nat) : Int) := by omega
        have NA := Lib.hid (fun w hl => note_one (sa := s1) d1 (o8 p L (by omega) (by omega)).1 (by decide) (T := T') (n := 1) (by omega) (by decide) o1 o5 w hl)
        have NB := Lib.hid (fun w hl => note_one (sa := s2) d2 (o8 q L (by omega) (by omega)).2.1 (by decide) (T := T') (n := 1) (by omega) (by decide) o2 o6 w hl)
        have NZ := Lib.hid (fun w hl => note_one (sa := s3) d3 (o8 1099511627776 L (by omega) (by omega)).2.2 (by decide) (T := T') (n := 1) (by omega) (by decide) o3 o7 w hl)
        obtain ⟨st1, st2, st3⟩ := hst
        have HST := Lib.hid st1
        clear st1 o1 o2 o3 o4 o5 o6 o7 o8
        subst hT'
        clear q3
        generalize newG p (T + d) 4 1 xa = ya at *
        generalize newG q (T + d) 4 1 xb = yb at *
        generalize newG 1099511627776 (T + d) 4 1 xz = yz at *
        rw [st3] at NZ
        obtain ⟨oa, hoa⟩ : ∃ oa, oa = decide (L ≤ ya.l) := ⟨_, rfl⟩
        obtain ⟨ob, hob⟩ : ∃ ob, ob = decide (L ≤ yb.l) := ⟨_, rfl⟩
        rw [← hoa] at NA
        rw [← hob] at NB
        have hab : (oa = true ∧ L ≤ ya.l ∧ ob = true) ∨ (oa = false ∧ ¬ L ≤ ya.l) := by
          by_cases h : L ≤ ya.l
          · exact .inl ⟨by rw [hoa]; exact decide_eq_true h, h, by rw [hob]; exact decide_eq_true (by omega)⟩
          · exact .inr ⟨by rw [hoa]; exact decide_eq_false h, h⟩
        have hjj : (j : Int) + 1 = ((j + 1 : Nat) : Int) := by omega
        have HAB := Lib.hid hab
        have HJJ := Lib.hid hjj
        clear hoa hob hab hjj st2
        have HST3 := Lib.hid st3
        clear st3
        go_wp2_with fail
        clear hc hn
        refine (NA.out _ (H.rowLies 3 gC_len rfl rfl)).mono ?_
        rintro _ w5 ⟨s4, d4, rfl, hr, hb⟩
        replace H := (H).getsRow hb hr
        clear hb hr
        try clear C
        try simp only [World.size_alloc, List.nil_append, List.cons_append, List.append_assoc] at H
        try clear wr
        have C := H.cells
        try simp only [cellsOf, apartOf, and_true] at C
        dsimp only
        go_wp2_with fail
        refine (NB.out _ (H.alloc.rowLies 4 gC_len rfl rfl)).mono ?_
        rintro _ w6 ⟨s5, d5, rfl, hr, hb⟩
        replace H := (H.alloc).getsRow hb hr
        clear hb hr
        try clear C
        try simp only [World.size_alloc, List.nil_append, List.cons_append, List.append_assoc] at H
        generalize w5.heap.size = bXa at H ⊢
        try clear w5
        have C := H.cells
        try simp only [cellsOf, apartOf, and_true] at C
        dsimp only
        go_wp2_with fail
        refine (NZ.out _ (H.alloc.rowLies 5 gC_len rfl rfl)).mono ?_
        rintro _ w7 ⟨s6, d6, rfl, hr, hb⟩
        replace H := (H.alloc).getsRow hb hr
        clear hb hr
        try clear C
        try simp only [World.size_alloc, List.nil_append, List.cons_append, List.append_assoc] at H
        generalize w6.heap.size = bXb at H ⊢
        try clear w6
        have C := H.cells
        try simp only [cellsOf, apartOf, and_true] at C
        dsimp only
        go_upto_region 16 with fail
        generalize hwb : w7.alloc _ = w8
        replace H := HS.eqW hwb H.alloc
        try simp only [World.size_alloc, List.nil_append, List.cons_append, List.append_assoc] at H
        clear hwb
        generalize w7.heap.size = bXz at H ⊢
        try clear C
        try clear w7
        have C := H.cells
        try simp only [cellsOf, apartOf, and_true] at C
        obtain ⟨gz, oz, rfl, hgz, hcz⟩ := (H.rowLies 10 gC_len rfl rfl).at (show 0 < 1 by decide)
        have cz : w8.cell? ⟨gz, oz + 1, none⟩ = some (.int .i64 ((j : Int) + 1)) := by rw [← HST3.out]; simpa using hcz 1 _ rfl
        obtain ⟨gx, ox, rfl, hgx, hcx⟩ := (H.rowLies 6 gC_len rfl rfl).at (show 0 < 1 by decide)
        have cx : w8.cell? ⟨gx, ox + 1, none⟩ = some (.int .i64 ya.l) := by simpa using hcx 1 _ rfl
        clear hcx hcz
        have k1 : w8.cell? ⟨bA, 1, none⟩ = some (.int .i64 L) := by simpa using (H.at 0 rfl : Blk _ _ _ _).cell 1
        have k2 : w8.cell? ⟨bXa, 2, none⟩ = some (.slice (some ⟨gx, ox, none⟩) 1 d4) := by simpa using (H.at 7 rfl : Blk _ _ _ _).cell 2
        have k3 : w8.cell? ⟨bXb, 2, none⟩ = some (.slice s5 1 d5) := by simpa using (H.at 9 rfl : Blk _ _ _ _).cell 2
        have k4 : w8.cell? ⟨bXz, 2, none⟩ = some (.slice (some ⟨gz, oz, none⟩) 1 d6) := by simpa using (H.at 11 rfl : Blk _ _ _ _).cell 2
        have HH := Lib.hid H
        clear H C NA NB NZ M1 M2 M3 hgx hgz
        rcases HAB.out with ⟨rfl, hle, rfl⟩ | ⟨rfl, hle⟩
        all_goals
          clear HAB
          go_upto_region 18 with fail
          go_region
          go_upto_region 20 with fail
          generalize hwb : World.drew _ = wd
          have H := HS.eqW hwb HH.out.drew
          clear hwb HH k1 k2 k3 k4 cx cz
          skip
          try clear C
          try simp only [World.size_alloc, List.nil_append, List.cons_append, List.append_assoc] at H
          have C := H.cells
          try simp only [cellsOf, apartOf, and_true] at C
          go_region
          generalize hwb : World.drew _ = we
          have H := HS.eqW hwb (((H.putAll (i := 0) rfl (vs := [.int .i64 p, .int .i64 L, .slice (some ⟨gx, ox, none⟩) 1 d4]) rfl rfl).putAll (i := 1) rfl (vs := [.int .i64 q, .int .i64 L, .slice s5 1 d5]) rfl rfl).putAll (i := 2) rfl (vs := [.int .i64 1099511627776, .int .i64 L, .slice (some ⟨gz, oz, none⟩) 1 d6]) rfl rfl).drew
          clear hwb C
          go_step
          go_wp2_with fail
          go_roundw
          case rel => exact ⟨j + 1, T + d, [ya], [yb], [yz], .slice (some ⟨gx, ox, none⟩) 1 d4, .slice s5 1 d5, .slice (some ⟨gz, oz, none⟩) 1 d6, by go_num, rfl, by omega, by omega, by omega, HST, H.less (by repeat (first | exact .slnil | refine .cons_cons _ ?_ | refine .cons _ ?_))⟩
          case measure => simp [intOf]; omega
      · go_wp2_with fail
        refine (awake26 _).mono ?_
        rintro _ w9 ⟨rfl, hb⟩
        replace H := H.below hb
        clear hb
        try clear C
        try simp only [World.size_alloc, List.nil_append, List.cons_append, List.append_assoc] at H
        try clear wd
        have C := H.cells
        try simp only [cellsOf, apartOf, and_true] at C
        dsimp only
        go_wp2_with fail
        go_ret
        exact ⟨rfl, H.done⟩
  · go_enter Try.func11, Try.ntmps11
    have H := HS.start NoD w
    go_wp2_with fail
    refine (awake26 _).mono ?_
    rintro _ w1 ⟨rfl, hb⟩
    replace H := H.below hb
    clear hb
    try clear C
    try simp only [World.size_alloc, List.nil_append, List.cons_append, List.append_assoc] at H
    have C := H.cells
    try simp only [cellsOf, apartOf, and_true] at C
    dsimp only
    go_wp2_with fail
    go_ret
    exact ⟨rfl, H.done⟩
end Go.Proofs.Ytcacgmfihhpliaa
