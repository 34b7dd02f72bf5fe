/- Several texts in one: Num, Part2, Part3. -/
import Derived.Test.YtplflpmkomeadaaDoorPart
import Derived.LoopTactic
/- Plain facts on powers of two, and on the numbers that a place and its index are made of. No program in sight. -/
namespace Go.Proofs.YtplflpmkomeadaaDoor
set_option linter.unusedSimpArgs false
set_option linter.unusedVariables false
open Go.RowKit

theorem pw_pos (a : Int) : (1 : Int) ≤ 2 ^ a.toNat := by
  have : (0 : Int) < 2 ^ a.toNat := Int.pow_pos (by decide)
  omega
theorem pw_add {a b : Int} (ha : 0 ≤ a) (hb : 0 ≤ b) : (2 : Int) ^ a.toNat * 2 ^ b.toNat = 2 ^ (a + b).toNat := by
  rw [← Int.pow_add, Int.toNat_add ha hb]
theorem pw_le {a b : Int} (h : a ≤ b) : (2 : Int) ^ a.toNat ≤ 2 ^ b.toNat := by
  have h1 : a.toNat ≤ b.toNat := by omega
  have h2 : (2 : Nat) ^ a.toNat ≤ 2 ^ b.toNat := Nat.pow_le_pow_right (by decide) h1
  have := Int.ofNat_le.2 h2
  simpa using this
theorem pw_12 {a : Int} (h : a ≤ 12) : (2 : Int) ^ a.toNat ≤ 4096 := by
  have := pw_le h
  simpa using this
theorem wrap_pw {a : Int} (h : a ≤ 12) : wrap64 (2 ^ a.toNat) = 2 ^ a.toNat := by
  have h1 := pw_pos a
  have h2 := pw_12 h
  exact IntWalk.wrap64_in _ (by omega)
theorem size_math {a b c d e f : Int} (h : SV a b c d e f) :
    wrap64 (wrap64 (wrap64 (wrap64 (wrap64 (wrap64 (2 ^ a.toNat) * 2 ^ b.toNat) * 2 ^ c.toNat) * 2 ^ d.toNat) * 2 ^ e.toNat) * 2 ^ f.toNat) = 2 ^ (a + b + c + d + e + f).toNat := by
  obtain ⟨ha, hb, hc, hd, he, hf, hs⟩ := h
  rw [wrap_pw (by omega), pw_add (by omega) (by omega), wrap_pw (by omega), pw_add (by omega) (by omega), wrap_pw (by omega), pw_add (by omega) (by omega), wrap_pw (by omega), pw_add (by omega) (by omega), wrap_pw (by omega), pw_add (by omega) (by omega), wrap_pw (by omega)]

/-- The index of a place: the numbers one behind the other, as bits. -/
def idx (b c d e f p0 p1 p2 p3 p4 p5 : Int) : Int := ((((p0 * 2 ^ b.toNat + p1) * 2 ^ c.toNat + p2) * 2 ^ d.toNat + p3) * 2 ^ e.toNat + p4) * 2 ^ f.toNat + p5
/-- A place of the shape. -/
structure PV (a b c d e f p0 p1 p2 p3 p4 p5 : Int) : Prop where
  h0 : 0 ≤ p0 ∧ p0 < 2 ^ a.toNat
  h1 : 0 ≤ p1 ∧ p1 < 2 ^ b.toNat
  h2 : 0 ≤ p2 ∧ p2 < 2 ^ c.toNat
  h3 : 0 ≤ p3 ∧ p3 < 2 ^ d.toNat
  h4 : 0 ≤ p4 ∧ p4 < 2 ^ e.toNat
  h5 : 0 ≤ p5 ∧ p5 < 2 ^ f.toNat
instance (a b c d e f p0 p1 p2 p3 p4 p5 : Int) : Decidable (PV a b c d e f p0 p1 p2 p3 p4 p5) :=
  decidable_of_iff ((0 ≤ p0 ∧ p0 < 2 ^ a.toNat) ∧ (0 ≤ p1 ∧ p1 < 2 ^ b.toNat) ∧ (0 ≤ p2 ∧ p2 < 2 ^ c.toNat) ∧ (0 ≤ p3 ∧ p3 < 2 ^ d.toNat) ∧ (0 ≤ p4 ∧ p4 < 2 ^ e.toNat) ∧ (0 ≤ p5 ∧ p5 < 2 ^ f.toNat))
    ⟨fun ⟨a, b, c, d, e, f⟩ => ⟨a, b, c, d, e, f⟩, fun ⟨a, b, c, d, e, f⟩ => ⟨a, b, c, d, e, f⟩⟩
theorem not_PV {a b c d e f p0 p1 p2 p3 p4 p5 : Int} (h : ¬ ((0 ≤ p0 ∧ p0 < 2 ^ a.toNat) ∧ (0 ≤ p1 ∧ p1 < 2 ^ b.toNat) ∧ (0 ≤ p2 ∧ p2 < 2 ^ c.toNat) ∧ (0 ≤ p3 ∧ p3 < 2 ^ d.toNat) ∧ (0 ≤ p4 ∧ p4 < 2 ^ e.toNat) ∧ (0 ≤ p5 ∧ p5 < 2 ^ f.toNat))) : ¬ PV a b c d e f p0 p1 p2 p3 p4 p5 :=
  fun ⟨a, b, c, d, e, f⟩ => h ⟨a, b, c, d, e, f⟩

theorem div_lt {x a b : Int} (ha : 0 ≤ a) (hb : 0 ≤ b) (hx : 0 ≤ x ∧ x < 2 ^ (a + b).toNat) : (0 ≤ x / 2 ^ b.toNat ∧ x / 2 ^ b.toNat < 2 ^ a.toNat) ∧ (0 ≤ x % 2 ^ b.toNat ∧ x % 2 ^ b.toNat < 2 ^ b.toNat) ∧ (x / 2 ^ b.toNat) * 2 ^ b.toNat + x % 2 ^ b.toNat = x := by
  have h1 := pw_pos b
  rw [← pw_add ha hb] at hx
  refine ⟨⟨Int.ediv_nonneg hx.1 (by omega), Int.ediv_lt_of_lt_mul (by omega) hx.2⟩, ⟨Int.emod_nonneg _ (by omega), Int.emod_lt_of_pos _ (by omega)⟩, ?_⟩
  have := Int.mul_ediv_add_emod x (2 ^ b.toNat)
  rw [Int.mul_comm]; exact this

theorem ofInt_i64 (a : Nat) (ha : a < 9223372036854775808) : (BitVec.ofInt 64 (a : Int)).toNat = a := by
  rw [BitVec.ofInt_natCast, BitVec.toNat_ofNat]; exact Nat.mod_eq_of_lt (by omega)
theorem i64_and_nat (a b : Nat) (ha : a < 9223372036854775808) (hb : b < 9223372036854775808) : bits .and .i64 (a : Int) (b : Int) = ((a &&& b : Nat) : Int) := by
  have hx : a &&& b < 2 ^ 63 := Nat.and_lt_two_pow _ (by omega)
  show IntKind.i64.wrap ((BitVec.ofInt 64 (a : Int) &&& BitVec.ofInt 64 (b : Int)).toNat : Int) = _
  rw [BitVec.toNat_and, ofInt_i64 a ha, ofInt_i64 b hb, IntKind.wrap_i64]
  omega
/-- And with a row of ones is the remainder. -/
theorem and_mod {x : Int} {b : Int} (hx : 0 ≤ x) (hb : 0 ≤ b ∧ b ≤ 12) (hx2 : x ≤ 4611686018427387904) : bits BinOp.and IntKind.i64 x (2 ^ b.toNat - 1) = x % 2 ^ b.toNat := by
  obtain ⟨m, rfl⟩ := Int.eq_ofNat_of_zero_le hx
  have h1 := pw_pos b
  have h2 := pw_12 hb.2
  have h3 : 1 ≤ 2 ^ b.toNat := Nat.one_le_two_pow
  have e : ((2 : Int) ^ b.toNat - 1) = ((2 ^ b.toNat - 1 : Nat) : Int) := by
    rw [Int.ofNat_sub h3]; simp
  have e2 : (2 : Int) ^ b.toNat = ((2 ^ b.toNat : Nat) : Int) := by simp
  rw [e2] at h2
  rw [e, i64_and_nat _ _ (by omega) (by omega), Nat.and_two_pow_sub_one_eq_mod, e2]
  rfl
theorem fdiv_pw (p a : Int) : (0 ≤ p ∧ p < 2 ^ a.toNat ∧ p / 2 ^ a.toNat = 0) ∨ p < 0 ∨ (2 ^ a.toNat ≤ p ∧ ¬ p / 2 ^ a.toNat = 0) := by
  have h1 := pw_pos a
  by_cases h : p < 0
  · exact .inr (.inl h)
  · by_cases h2 : p < 2 ^ a.toNat
    · exact .inl ⟨by omega, h2, Int.ediv_eq_zero_of_lt (by omega) h2⟩
    · refine .inr (.inr ⟨by omega, fun h0 => ?_⟩)
      have := Int.ediv_le_ediv (c := 2 ^ a.toNat) (by omega) (show (2 : Int) ^ a.toNat ≤ p by omega)
      rw [Int.ediv_self (by omega), h0] at this
      omega
/-- One step of At: what is taken off the index x at a number of b bits, and what is left. -/
structure AtEq (b x y m : Int) : Prop where
  div : x / 2 ^ b.toNat = y
  band : bits BinOp.and IntKind.i64 x (wrap64 (wrap64 (2 ^ b.toNat) - 1)) = m
  mod : x.tmod (wrap64 (2 ^ b.toNat)) = m
  quo : x.tdiv (wrap64 (2 ^ b.toNat)) = y
theorem AtEq.mk' {b x : Int} (hx : 0 ≤ x) (hb : 0 ≤ b ∧ b ≤ 12) (hx2 : x ≤ 4611686018427387904) : AtEq b x (x / 2 ^ b.toNat) (x % 2 ^ b.toNat) := by
  have h1 := pw_pos b
  have h2 := pw_12 hb.2
  have hw : wrap64 (2 ^ b.toNat) = 2 ^ b.toNat := IntWalk.wrap64_in _ (by omega)
  refine ⟨rfl, ?_, ?_, ?_⟩
  · rw [hw, IntWalk.wrap64_in _ (by omega), and_mod hx hb hx2]
  · rw [hw, Int.tmod_eq_emod_of_nonneg hx]
  · rw [hw, Int.tdiv_eq_ediv_of_nonneg hx]
/-- The place with an index. -/
structure AtAll (a0 a1 a2 a3 a4 a5 i m0 m1 m2 m3 m4 m5 : Int) : Prop where
  place : PV a0 a1 a2 a3 a4 a5 m0 m1 m2 m3 m4 m5
  index : idx a1 a2 a3 a4 a5 m0 m1 m2 m3 m4 m5 = i
theorem at_steps {a0 a1 a2 a3 a4 a5 i : Int} (h : SV a0 a1 a2 a3 a4 a5) (hi0 : 0 ≤ i) (hi1 : i < 2 ^ (a0 + a1 + a2 + a3 + a4 + a5).toNat) :
    ∃ x1 x2 x3 x4 x5 x6 m0 m1 m2 m3 m4 m5 : Int, AtEq a5 i x1 m5 ∧ AtEq a4 x1 x2 m4 ∧ AtEq a3 x2 x3 m3 ∧ AtEq a2 x3 x4 m2 ∧ AtEq a1 x4 x5 m1 ∧ AtEq a0 x5 x6 m0 ∧ AtAll a0 a1 a2 a3 a4 a5 i m0 m1 m2 m3 m4 m5 := by
  obtain ⟨ha, hb, hc, hd, he, hf, hs⟩ := h
  have b5 := pw_12 (a := a0 + a1 + a2 + a3 + a4 + a5) (by omega)
  have b4 := pw_12 (a := a0 + a1 + a2 + a3 + a4) (by omega)
  have b3 := pw_12 (a := a0 + a1 + a2 + a3) (by omega)
  have b2 := pw_12 (a := a0 + a1 + a2) (by omega)
  have b1 := pw_12 (a := a0 + a1) (by omega)
  have b0 := pw_12 (a := a0) (by omega)
  obtain ⟨d1, r5, e5⟩ := div_lt (a := a0 + a1 + a2 + a3 + a4) (b := a5) (by omega) (by omega) ⟨hi0, hi1⟩
  obtain ⟨d2, r4, e4⟩ := div_lt (a := a0 + a1 + a2 + a3) (b := a4) (by omega) (by omega) d1
  obtain ⟨d3, r3, e3⟩ := div_lt (a := a0 + a1 + a2) (b := a3) (by omega) (by omega) d2
  obtain ⟨d4, r2, e2⟩ := div_lt (a := a0 + a1) (b := a2) (by omega) (by omega) d3
  obtain ⟨d5, r1, e1⟩ := div_lt (a := a0) (b := a1) (by omega) (by omega) d4
  have hz : i / 2 ^ a5.toNat / 2 ^ a4.toNat / 2 ^ a3.toNat / 2 ^ a2.toNat / 2 ^ a1.toNat % 2 ^ a0.toNat = i / 2 ^ a5.toNat / 2 ^ a4.toNat / 2 ^ a3.toNat / 2 ^ a2.toNat / 2 ^ a1.toNat := Int.emod_eq_of_lt d5.1 d5.2
  refine ⟨_, _, _, _, _, _, _, _, _, _, _, _, AtEq.mk' hi0 hf (by omega), AtEq.mk' d1.1 he (by omega), AtEq.mk' d2.1 hd (by omega), AtEq.mk' d3.1 hc (by omega), AtEq.mk' d4.1 hb (by omega), AtEq.mk' d5.1 ha (by omega), ⟨by rw [hz]; exact d5, r1, r2, r3, r4, r5⟩, ?_⟩
  unfold idx
  rw [hz, e1, e2, e3, e4, e5]
/-- Six numbers. -/
structure P6 where
  a : Int
  b : Int
  c : Int
  d : Int
  e : Int
  f : Int
  deriving DecidableEq
/-- The place with the index i in a shape. -/
def atF (a0 a1 a2 a3 a4 a5 i : Int) : P6 :=
  ⟨i / 2 ^ a5.toNat / 2 ^ a4.toNat / 2 ^ a3.toNat / 2 ^ a2.toNat / 2 ^ a1.toNat % 2 ^ a0.toNat, i / 2 ^ a5.toNat / 2 ^ a4.toNat / 2 ^ a3.toNat / 2 ^ a2.toNat % 2 ^ a1.toNat,
    i / 2 ^ a5.toNat / 2 ^ a4.toNat / 2 ^ a3.toNat % 2 ^ a2.toNat, i / 2 ^ a5.toNat / 2 ^ a4.toNat % 2 ^ a3.toNat, i / 2 ^ a5.toNat % 2 ^ a4.toNat, i % 2 ^ a5.toNat⟩
theorem atF_steps {a0 a1 a2 a3 a4 a5 i : Int} (h : SV a0 a1 a2 a3 a4 a5) (hi0 : 0 ≤ i) (hi1 : i < 2 ^ (a0 + a1 + a2 + a3 + a4 + a5).toNat) :
    ∃ x1 x2 x3 x4 x5 x6 : Int, AtEq a5 i x1 (atF a0 a1 a2 a3 a4 a5 i).f ∧ AtEq a4 x1 x2 (atF a0 a1 a2 a3 a4 a5 i).e ∧ AtEq a3 x2 x3 (atF a0 a1 a2 a3 a4 a5 i).d ∧ AtEq a2 x3 x4 (atF a0 a1 a2 a3 a4 a5 i).c ∧ AtEq a1 x4 x5 (atF a0 a1 a2 a3 a4 a5 i).b ∧ AtEq a0 x5 x6 (atF a0 a1 a2 a3 a4 a5 i).a ∧
      AtAll a0 a1 a2 a3 a4 a5 i (atF a0 a1 a2 a3 a4 a5 i).a (atF a0 a1 a2 a3 a4 a5 i).b (atF a0 a1 a2 a3 a4 a5 i).c (atF a0 a1 a2 a3 a4 a5 i).d (atF a0 a1 a2 a3 a4 a5 i).e (atF a0 a1 a2 a3 a4 a5 i).f := by
  obtain ⟨x1, x2, x3, x4, x5, x6, m0, m1, m2, m3, m4, m5, h5, h4, h3, h2, h1, h0, hall⟩ := at_steps h hi0 hi1
  have hb5 := pw_12 (a := a0 + a1 + a2 + a3 + a4 + a5) (by have := h.sum; omega)
  have e5 : m5 = (atF a0 a1 a2 a3 a4 a5 i).f := h5.band.symm.trans (AtEq.mk' hi0 h.hf (by omega)).band
  have d1 : i / 2 ^ a5.toNat = x1 := h5.div
  have d2 : x1 / 2 ^ a4.toNat = x2 := h4.div
  have d3 : x2 / 2 ^ a3.toNat = x3 := h3.div
  have d4 : x3 / 2 ^ a2.toNat = x4 := h2.div
  have d5 : x4 / 2 ^ a1.toNat = x5 := h1.div
  have hx1 : 0 ≤ x1 ∧ x1 ≤ i := by rw [← d1]; exact ⟨Int.ediv_nonneg hi0 (by have := pw_pos a5; omega), Int.ediv_le_self _ hi0⟩
  have hx2 : 0 ≤ x2 ∧ x2 ≤ x1 := by rw [← d2]; exact ⟨Int.ediv_nonneg hx1.1 (by have := pw_pos a4; omega), Int.ediv_le_self _ hx1.1⟩
  have hx3 : 0 ≤ x3 ∧ x3 ≤ x2 := by rw [← d3]; exact ⟨Int.ediv_nonneg hx2.1 (by have := pw_pos a3; omega), Int.ediv_le_self _ hx2.1⟩
  have hx4 : 0 ≤ x4 ∧ x4 ≤ x3 := by rw [← d4]; exact ⟨Int.ediv_nonneg hx3.1 (by have := pw_pos a2; omega), Int.ediv_le_self _ hx3.1⟩
  have hx5 : 0 ≤ x5 ∧ x5 ≤ x4 := by rw [← d5]; exact ⟨Int.ediv_nonneg hx4.1 (by have := pw_pos a1; omega), Int.ediv_le_self _ hx4.1⟩
  have e4 : m4 = (atF a0 a1 a2 a3 a4 a5 i).e := by rw [← h4.band, (AtEq.mk' hx1.1 h.he (by omega)).band]; simp only [atF, d1]
  have e3 : m3 = (atF a0 a1 a2 a3 a4 a5 i).d := by rw [← h3.band, (AtEq.mk' hx2.1 h.hd (by omega)).band]; simp only [atF, d1, d2]
  have e2 : m2 = (atF a0 a1 a2 a3 a4 a5 i).c := by rw [← h2.band, (AtEq.mk' hx3.1 h.hc (by omega)).band]; simp only [atF, d1, d2, d3]
  have e1 : m1 = (atF a0 a1 a2 a3 a4 a5 i).b := by rw [← h1.band, (AtEq.mk' hx4.1 h.hb (by omega)).band]; simp only [atF, d1, d2, d3, d4]
  have e0 : m0 = (atF a0 a1 a2 a3 a4 a5 i).a := by rw [← h0.band, (AtEq.mk' hx5.1 h.ha (by omega)).band]; simp only [atF, d1, d2, d3, d4, d5]
  rw [← e0, ← e1, ← e2, ← e3, ← e4, ← e5]
  exact ⟨x1, x2, x3, x4, x5, x6, h5, h4, h3, h2, h1, h0, hall⟩
end Go.Proofs.YtplflpmkomeadaaDoor

/- Package part: Size, ValidPlace, Index, At. -/
namespace Go.Proofs.YtplflpmkomeadaaDoor
set_option linter.unusedSimpArgs false
set_option linter.unusedVariables false
open Go.RowKit
set_option maxRecDepth 100000
attribute [local go_sem] lt_more ne_more ne_more' ix0 ix1 ix2 ix3 ix4 ix5

theorem valid_yes {a b c d e f : Int} (h : SV a b c d e f) (w : World) : Calls Tryd.prog 48 #[v6 a b c d e f] w (Gives (.bool true) w) := by
  have := valid_any a b c d e f w
  rwa [decide_eq_true h] at this
theorem valid_no {a b c d e f : Int} (h : ¬ SV a b c d e f) (w : World) : Calls Tryd.prog 48 #[v6 a b c d e f] w (Gives (.bool false) w) := by
  have := valid_any a b c d e f w
  rwa [decide_eq_false h] at this

set_option maxHeartbeats 4000000 in
theorem size_yes {a b c d e f : Int} (h : SV a b c d e f) (w : World) : Calls Tryd.prog 49 #[v6 a b c d e f] w (Gives (.int .i64 (2 ^ (a + b + c + d + e + f).toNat)) w) := by
  obtain ⟨ha, hb, hc, hd, he, hf, hs⟩ := id h
  go_enter Tryd.func49, Tryd.ntmps49
  go_wp2_with (first | (go_at_call 48; refine (valid_yes h _).mono ?_; rintro _ w1 ⟨rfl, hb1⟩; have hzw1 := hb1.size; (try simp only [World.size_alloc, World.size_setCell, World.size_drew] at hzw1); have cw1_0 := fun o => hb1.cell (p := ⟨w.heap.size, o, none⟩) (by dsimp only; (try simp only [World.size_alloc, World.size_setCell, World.size_drew]); omega); have fw1_0 := fun o => hb1.frozen (p := ⟨w.heap.size, o, none⟩) (by dsimp only; (try simp only [World.size_alloc, World.size_setCell, World.size_drew]); omega); have lw1_0 : w.heap.size < w1.heap.size := (by omega); have nw1_0 : (w.heap.size = w1.heap.size) = False := eq_false (by omega); have mw1_0 : (w1.heap.size = w.heap.size) = False := eq_false (by omega)) | (go_at_call 50; refine (widths_any _ _ _ _ _ _ _).mono ?_; rintro _ w2 ⟨rfl, hb2⟩; have hzw2 := hb2.size; (try simp only [World.size_alloc, World.size_setCell, World.size_drew] at hzw2); have cw2_0 := fun o => hb2.cell (p := ⟨w.heap.size, o, none⟩) (by dsimp only; (try simp only [World.size_alloc, World.size_setCell, World.size_drew]); omega); have fw2_0 := fun o => hb2.frozen (p := ⟨w.heap.size, o, none⟩) (by dsimp only; (try simp only [World.size_alloc, World.size_setCell, World.size_drew]); omega); have lw2_0 : w.heap.size < w2.heap.size := (by omega); have nw2_0 : (w.heap.size = w2.heap.size) = False := eq_false (by omega); have mw2_0 : (w2.heap.size = w.heap.size) = False := eq_false (by omega)))
  go_rounds 7
  go_ret
  refine ⟨ret_int (size_math h), ?_⟩
  have h0 : Below w.heap.size w w1 := ((Below.refl _ _).alloc (Nat.le_refl _) _).trans (hb1.mono (by simp))
  exact h0.trans (hb2.mono (by omega))

set_option maxHeartbeats 4000000 in
theorem validPlace_any {a0 a1 a2 a3 a4 a5 p0 p1 p2 p3 p4 p5 : Int} (h : SV a0 a1 a2 a3 a4 a5) (w : World) : Calls Tryd.prog 77 #[v6 a0 a1 a2 a3 a4 a5, v6 p0 p1 p2 p3 p4 p5] w (Gives (.bool (decide (PV a0 a1 a2 a3 a4 a5 p0 p1 p2 p3 p4 p5))) w) := by
  obtain ⟨ha, hb, hc, hd, he, hf, hs⟩ := id h
  go_enter Tryd.func77, Tryd.ntmps77
  go_wp2_with (first | (go_at_call 48; refine (valid_yes h _).mono ?_; rintro _ w1 ⟨rfl, hb1⟩; have hzw1 := hb1.size; (try simp only [World.size_alloc, World.size_setCell, World.size_drew] at hzw1); have cw1_0 := fun o => hb1.cell (p := ⟨w.heap.size, o, none⟩) (by dsimp only; (try simp only [World.size_alloc, World.size_setCell, World.size_drew]); omega); have fw1_0 := fun o => hb1.frozen (p := ⟨w.heap.size, o, none⟩) (by dsimp only; (try simp only [World.size_alloc, World.size_setCell, World.size_drew]); omega); have lw1_0 : w.heap.size < w1.heap.size := (by omega); have nw1_0 : (w.heap.size = w1.heap.size) = False := eq_false (by omega); have mw1_0 : (w1.heap.size = w.heap.size) = False := eq_false (by omega); have cw1_1 := fun o => hb1.cell (p := ⟨w.heap.size + 1, o, none⟩) (by dsimp only; (try simp only [World.size_alloc, World.size_setCell, World.size_drew]); omega); have fw1_1 := fun o => hb1.frozen (p := ⟨w.heap.size + 1, o, none⟩) (by dsimp only; (try simp only [World.size_alloc, World.size_setCell, World.size_drew]); omega); have lw1_1 : w.heap.size + 1 < w1.heap.size := (by omega); have nw1_1 : (w.heap.size + 1 = w1.heap.size) = False := eq_false (by omega); have mw1_1 : (w1.heap.size = w.heap.size + 1) = False := eq_false (by omega)) | (go_at_call 50; refine (widths_any _ _ _ _ _ _ _).mono ?_; rintro _ w2 ⟨rfl, hb2⟩; have hzw2 := hb2.size; (try simp only [World.size_alloc, World.size_setCell, World.size_drew] at hzw2); have cw2_0 := fun o => hb2.cell (p := ⟨w.heap.size, o, none⟩) (by dsimp only; (try simp only [World.size_alloc, World.size_setCell, World.size_drew]); omega); have fw2_0 := fun o => hb2.frozen (p := ⟨w.heap.size, o, none⟩) (by dsimp only; (try simp only [World.size_alloc, World.size_setCell, World.size_drew]); omega); have lw2_0 : w.heap.size < w2.heap.size := (by omega); have nw2_0 : (w.heap.size = w2.heap.size) = False := eq_false (by omega); have mw2_0 : (w2.heap.size = w.heap.size) = False := eq_false (by omega); have cw2_1 := fun o => hb2.cell (p := ⟨w.heap.size + 1, o, none⟩) (by dsimp only; (try simp only [World.size_alloc, World.size_setCell, World.size_drew]); omega); have fw2_1 := fun o => hb2.frozen (p := ⟨w.heap.size + 1, o, none⟩) (by dsimp only; (try simp only [World.size_alloc, World.size_setCell, World.size_drew]); omega); have lw2_1 : w.heap.size + 1 < w2.heap.size := (by omega); have nw2_1 : (w.heap.size + 1 = w2.heap.size) = False := eq_false (by omega); have mw2_1 : (w2.heap.size = w.heap.size + 1) = False := eq_false (by omega)) | (go_at_call 57; refine (numbers_any _ _ _ _ _ _ _).mono ?_; rintro _ w3 ⟨rfl, hb3⟩; have hzw3 := hb3.size; (try simp only [World.size_alloc, World.size_setCell, World.size_drew] at hzw3); have cw3_0 := fun o => hb3.cell (p := ⟨w.heap.size, o, none⟩) (by dsimp only; (try simp only [World.size_alloc, World.size_setCell, World.size_drew]); omega); have fw3_0 := fun o => hb3.frozen (p := ⟨w.heap.size, o, none⟩) (by dsimp only; (try simp only [World.size_alloc, World.size_setCell, World.size_drew]); omega); have lw3_0 : w.heap.size < w3.heap.size := (by omega); have nw3_0 : (w.heap.size = w3.heap.size) = False := eq_false (by omega); have mw3_0 : (w3.heap.size = w.heap.size) = False := eq_false (by omega); have cw3_1 := fun o => hb3.cell (p := ⟨w.heap.size + 1, o, none⟩) (by dsimp only; (try simp only [World.size_alloc, World.size_setCell, World.size_drew]); omega); have fw3_1 := fun o => hb3.frozen (p := ⟨w.heap.size + 1, o, none⟩) (by dsimp only; (try simp only [World.size_alloc, World.size_setCell, World.size_drew]); omega); have lw3_1 : w.heap.size + 1 < w3.heap.size := (by omega); have nw3_1 : (w.heap.size + 1 = w3.heap.size) = False := eq_false (by omega); have mw3_1 : (w3.heap.size = w.heap.size + 1) = False := eq_false (by omega); have cw3_2 := fun o => hb3.cell (p := ⟨w2.heap.size, o, none⟩) (by dsimp only; (try simp only [World.size_alloc, World.size_setCell, World.size_drew]); omega); have fw3_2 := fun o => hb3.frozen (p := ⟨w2.heap.size, o, none⟩) (by dsimp only; (try simp only [World.size_alloc, World.size_setCell, World.size_drew]); omega); have lw3_2 : w2.heap.size < w3.heap.size := (by omega); have nw3_2 : (w2.heap.size = w3.heap.size) = False := eq_false (by omega); have mw3_2 : (w3.heap.size = w2.heap.size) = False := eq_false (by omega)))
  have hB : Below w.heap.size w w3 := by
    have h0 : Below w.heap.size w w1 := (((Below.refl _ _).alloc (Nat.le_refl _) _).alloc (by simp) _).trans (hb1.mono (by simp; omega))
    exact (h0.trans (hb2.mono (by omega))).trans (((Below.refl _ _).alloc (by omega) _).trans (hb3.mono (by simp; omega)))
  clear hb1 hb2 hb3
  go_rounds 7
  all_goals go_ret
  all_goals refine ⟨ret_bool ?_, hB⟩
  all_goals
    have f0 := fdiv_pw p0 a0
    have f1 := fdiv_pw p1 a1
    have f2 := fdiv_pw p2 a2
    have f3 := fdiv_pw p3 a3
    have f4 := fdiv_pw p4 a4
    have f5 := fdiv_pw p5 a5
  all_goals try simp only [bne_iff_ne, ne_eq, bne_eq_false_iff_eq] at *
  all_goals first
    | (refine (decide_eq_false (not_PV ?_)).symm; omega)
    | (refine (decide_eq_true ⟨?_, ?_, ?_, ?_, ?_, ?_⟩).symm <;> omega)
end Go.Proofs.YtplflpmkomeadaaDoor

/- Package part: At. -/
namespace Go.Proofs.YtplflpmkomeadaaDoor
set_option linter.unusedSimpArgs false
set_option linter.unusedVariables false
open Go.RowKit
set_option maxRecDepth 100000
attribute [local go_sem] lt_more ne_more ne_more' ix0 ix1 ix2 ix3 ix4 ix5

/-- Where the loop of At stands: its counter, what is left of the index, and the numbers that are found. -/
def AtRel (x0 x1 x2 x3 x4 x5 x6 m0 m1 m2 m3 m4 m5 : Int) (n : Nat) (v i : Value) (w : World) : Prop :=
  (i = .int .i64 5 ∧ v = .int .i64 x0 ∧ Blk w n #[.int .i64 0, .int .i64 0, .int .i64 0, .int .i64 0, .int .i64 0, .int .i64 0] 79) ∨
  (i = .int .i64 4 ∧ v = .int .i64 x1 ∧ Blk w n #[.int .i64 0, .int .i64 0, .int .i64 0, .int .i64 0, .int .i64 0, .int .i64 m5] 79) ∨
  (i = .int .i64 3 ∧ v = .int .i64 x2 ∧ Blk w n #[.int .i64 0, .int .i64 0, .int .i64 0, .int .i64 0, .int .i64 m4, .int .i64 m5] 79) ∨
  (i = .int .i64 2 ∧ v = .int .i64 x3 ∧ Blk w n #[.int .i64 0, .int .i64 0, .int .i64 0, .int .i64 m3, .int .i64 m4, .int .i64 m5] 79) ∨
  (i = .int .i64 1 ∧ v = .int .i64 x4 ∧ Blk w n #[.int .i64 0, .int .i64 0, .int .i64 m2, .int .i64 m3, .int .i64 m4, .int .i64 m5] 79) ∨
  (i = .int .i64 0 ∧ v = .int .i64 x5 ∧ Blk w n #[.int .i64 0, .int .i64 m1, .int .i64 m2, .int .i64 m3, .int .i64 m4, .int .i64 m5] 79) ∨
  (i = .int .i64 (-1) ∧ v = .int .i64 x6 ∧ Blk w n #[.int .i64 m0, .int .i64 m1, .int .i64 m2, .int .i64 m3, .int .i64 m4, .int .i64 m5] 79)

set_option maxHeartbeats 4000000 in
theorem at_yes {a0 a1 a2 a3 a4 a5 i : Int} (h : SV a0 a1 a2 a3 a4 a5) (hi0 : 0 ≤ i) (hi1 : i < 2 ^ (a0 + a1 + a2 + a3 + a4 + a5).toNat) {x1 x2 x3 x4 x5 x6 m0 m1 m2 m3 m4 m5 : Int}
    (H5 : AtEq a5 i x1 m5) (H4 : AtEq a4 x1 x2 m4) (H3 : AtEq a3 x2 x3 m3) (H2 : AtEq a2 x3 x4 m2) (H1 : AtEq a1 x4 x5 m1) (H0 : AtEq a0 x5 x6 m0) (w : World) : Calls Tryd.prog 18 #[v6 a0 a1 a2 a3 a4 a5, .int .i64 i] w (Gives (.tuple #[v6 m0 m1 m2 m3 m4 m5, .int .i64 0]) w) := by
  obtain ⟨ha, hb, hc, hd, he, hf, hs⟩ := id h
  go_enter Tryd.func18, Tryd.ntmps18
  go_wp2_with (first | (go_at_call 48; refine (valid_yes h _).mono ?_; rintro _ w1 ⟨rfl, hb1⟩; have hzw1 := hb1.size; (try simp only [World.size_alloc, World.size_setCell, World.size_drew] at hzw1); have cw1_0 := fun o => hb1.cell (p := ⟨w.heap.size, o, none⟩) (by dsimp only; (try simp only [World.size_alloc, World.size_setCell, World.size_drew]); omega); have fw1_0 := fun o => hb1.frozen (p := ⟨w.heap.size, o, none⟩) (by dsimp only; (try simp only [World.size_alloc, World.size_setCell, World.size_drew]); omega); have lw1_0 : w.heap.size < w1.heap.size := (by omega); have nw1_0 : (w.heap.size = w1.heap.size) = False := eq_false (by omega); have mw1_0 : (w1.heap.size = w.heap.size) = False := eq_false (by omega); have cw1_1 := fun o => hb1.cell (p := ⟨w.heap.size + 1, o, none⟩) (by dsimp only; (try simp only [World.size_alloc, World.size_setCell, World.size_drew]); omega); have fw1_1 := fun o => hb1.frozen (p := ⟨w.heap.size + 1, o, none⟩) (by dsimp only; (try simp only [World.size_alloc, World.size_setCell, World.size_drew]); omega); have lw1_1 : w.heap.size + 1 < w1.heap.size := (by omega); have nw1_1 : (w.heap.size + 1 = w1.heap.size) = False := eq_false (by omega); have mw1_1 : (w1.heap.size = w.heap.size + 1) = False := eq_false (by omega)) | (go_at_call 49; refine (size_yes h _).mono ?_; rintro _ w2 ⟨rfl, hb2⟩; have hzw2 := hb2.size; (try simp only [World.size_alloc, World.size_setCell, World.size_drew] at hzw2); have cw2_0 := fun o => hb2.cell (p := ⟨w.heap.size, o, none⟩) (by dsimp only; (try simp only [World.size_alloc, World.size_setCell, World.size_drew]); omega); have fw2_0 := fun o => hb2.frozen (p := ⟨w.heap.size, o, none⟩) (by dsimp only; (try simp only [World.size_alloc, World.size_setCell, World.size_drew]); omega); have lw2_0 : w.heap.size < w2.heap.size := (by omega); have nw2_0 : (w.heap.size = w2.heap.size) = False := eq_false (by omega); have mw2_0 : (w2.heap.size = w.heap.size) = False := eq_false (by omega); have cw2_1 := fun o => hb2.cell (p := ⟨w.heap.size + 1, o, none⟩) (by dsimp only; (try simp only [World.size_alloc, World.size_setCell, World.size_drew]); omega); have fw2_1 := fun o => hb2.frozen (p := ⟨w.heap.size + 1, o, none⟩) (by dsimp only; (try simp only [World.size_alloc, World.size_setCell, World.size_drew]); omega); have lw2_1 : w.heap.size + 1 < w2.heap.size := (by omega); have nw2_1 : (w.heap.size + 1 = w2.heap.size) = False := eq_false (by omega); have mw2_1 : (w2.heap.size = w.heap.size + 1) = False := eq_false (by omega)) | (go_at_call 50; refine (widths_any _ _ _ _ _ _ _).mono ?_; rintro _ w3 ⟨rfl, hb3⟩; have hzw3 := hb3.size; (try simp only [World.size_alloc, World.size_setCell, World.size_drew] at hzw3); have cw3_0 := fun o => hb3.cell (p := ⟨w.heap.size, o, none⟩) (by dsimp only; (try simp only [World.size_alloc, World.size_setCell, World.size_drew]); omega); have fw3_0 := fun o => hb3.frozen (p := ⟨w.heap.size, o, none⟩) (by dsimp only; (try simp only [World.size_alloc, World.size_setCell, World.size_drew]); omega); have lw3_0 : w.heap.size < w3.heap.size := (by omega); have nw3_0 : (w.heap.size = w3.heap.size) = False := eq_false (by omega); have mw3_0 : (w3.heap.size = w.heap.size) = False := eq_false (by omega); have cw3_1 := fun o => hb3.cell (p := ⟨w.heap.size + 1, o, none⟩) (by dsimp only; (try simp only [World.size_alloc, World.size_setCell, World.size_drew]); omega); have fw3_1 := fun o => hb3.frozen (p := ⟨w.heap.size + 1, o, none⟩) (by dsimp only; (try simp only [World.size_alloc, World.size_setCell, World.size_drew]); omega); have lw3_1 : w.heap.size + 1 < w3.heap.size := (by omega); have nw3_1 : (w.heap.size + 1 = w3.heap.size) = False := eq_false (by omega); have mw3_1 : (w3.heap.size = w.heap.size + 1) = False := eq_false (by omega); have cw3_2 := fun o => hb3.cell (p := ⟨w2.heap.size, o, none⟩) (by dsimp only; (try simp only [World.size_alloc, World.size_setCell, World.size_drew]); omega); have fw3_2 := fun o => hb3.frozen (p := ⟨w2.heap.size, o, none⟩) (by dsimp only; (try simp only [World.size_alloc, World.size_setCell, World.size_drew]); omega); have lw3_2 : w2.heap.size < w3.heap.size := (by omega); have nw3_2 : (w2.heap.size = w3.heap.size) = False := eq_false (by omega); have mw3_2 : (w3.heap.size = w2.heap.size) = False := eq_false (by omega)))
  have D6 : Blk w3 w2.heap.size #[.int .i64 0, .int .i64 0, .int .i64 0, .int .i64 0, .int .i64 0, .int .i64 0] 79 := (Blk.new w2 _ _).below hb3
  have D4 : Blk w3 (w.heap.size + 1) #[.int .i64 0, .int .i64 0, .int .i64 0, .int .i64 0, .int .i64 0, .int .i64 0] 36 := by
    refine Blk.below (Blk.alloc (Blk.below (Blk.below ?_ hb1) hb2) _) hb3
    have := Blk.new (w.alloc (.cells #[.int .i64 a0, .int .i64 a1, .int .i64 a2, .int .i64 a3, .int .i64 a4, .int .i64 a5] 28)) #[.int .i64 0, .int .i64 0, .int .i64 0, .int .i64 0, .int .i64 0, .int .i64 0] 36
    simpa using this
  have hB : Below w.heap.size w w3 := by
    have h0 : Below w.heap.size w w1 := (((Below.refl _ _).alloc (Nat.le_refl _) _).alloc (by simp) _).trans (hb1.mono (by simp; omega))
    exact ((h0.trans (hb2.mono (by omega))).trans (((Below.refl _ _).alloc (by omega) _).trans (hb3.mono (by simp; omega))))
  have hlt : w.heap.size + 1 < w2.heap.size ∧ w2.heap.size < w3.heap.size := ⟨by omega, by omega⟩
  go_loopw [1, 8] (fun v k wr => AtRel i x1 x2 x3 x4 x5 x6 m0 m1 m2 m3 m4 m5 w2.heap.size v k wr ∧ Blk wr w3.heap.size #[.int .i64 a0, .int .i64 a1, .int .i64 a2, .int .i64 a3, .int .i64 a4, .int .i64 a5] 79 ∧ Blk wr (w.heap.size + 1) #[.int .i64 0, .int .i64 0, .int .i64 0, .int .i64 0, .int .i64 0, .int .i64 0] 36 ∧ Below w.heap.size w wr) (fun _ k _ => (intOf k + 1).toNat)
  case atStart => exact ⟨.inl ⟨rfl, rfl, D6.alloc _⟩, Blk.new w3 _ _, D4.alloc _, hB.alloc (by omega) _⟩
  case round =>
    clear hb1 hb2 hb3 cw1_0 cw1_1 cw2_0 cw2_1 cw3_0 cw3_1 cw3_2 fw1_0 fw1_1 fw2_0 fw2_1 fw3_0 fw3_1 fw3_2 D6 D4 hB
    obtain ⟨hr, D7, D4, hB⟩ := hrel
    rcases hr with ⟨rfl, rfl, D6⟩ | ⟨rfl, rfl, D6⟩ | ⟨rfl, rfl, D6⟩ | ⟨rfl, rfl, D6⟩ | ⟨rfl, rfl, D6⟩ | ⟨rfl, rfl, D6⟩ | ⟨rfl, rfl, D6⟩
    all_goals
      have c7 := D7.cell
      have c6 := D6.cell
      have f6 := D6.free
      go_wp2_with fail
    · go_roundw
      case rel => exact ⟨.inr (.inl ⟨rfl, congrArg (Value.int .i64) H5.div, by rw [H5.band]; simpa using D6.set 5 (.int .i64 m5)⟩), D7.other (by simp; omega) _, D4.other (by simp; omega) _, hB.setCell (by simp; omega) _⟩
      case measure => simp [intOf]
    · go_roundw
      case rel => exact ⟨.inr (.inr (.inl ⟨rfl, congrArg (Value.int .i64) H4.div, by rw [H4.band]; simpa using D6.set 4 (.int .i64 m4)⟩)), D7.other (by simp; omega) _, D4.other (by simp; omega) _, hB.setCell (by simp; omega) _⟩
      case measure => simp [intOf]
    · go_roundw
      case rel => exact ⟨.inr (.inr (.inr (.inl ⟨rfl, congrArg (Value.int .i64) H3.div, by rw [H3.band]; simpa using D6.set 3 (.int .i64 m3)⟩))), D7.other (by simp; omega) _, D4.other (by simp; omega) _, hB.setCell (by simp; omega) _⟩
      case measure => simp [intOf]
    · go_roundw
      case rel => exact ⟨.inr (.inr (.inr (.inr (.inl ⟨rfl, congrArg (Value.int .i64) H2.div, by rw [H2.band]; simpa using D6.set 2 (.int .i64 m2)⟩)))), D7.other (by simp; omega) _, D4.other (by simp; omega) _, hB.setCell (by simp; omega) _⟩
      case measure => simp [intOf]
    · go_roundw
      case rel => exact ⟨.inr (.inr (.inr (.inr (.inr (.inl ⟨rfl, congrArg (Value.int .i64) H1.div, by rw [H1.band]; simpa using D6.set 1 (.int .i64 m1)⟩))))), D7.other (by simp; omega) _, D4.other (by simp; omega) _, hB.setCell (by simp; omega) _⟩
      case measure => simp [intOf]
    · go_roundw
      case rel => exact ⟨.inr (.inr (.inr (.inr (.inr (.inr ⟨rfl, congrArg (Value.int .i64) H0.div, by rw [H0.band]; simpa using D6.set 0 (.int .i64 m0)⟩))))), D7.other (by simp; omega) _, D4.other (by simp; omega) _, hB.setCell (by simp; omega) _⟩
      case measure => simp [intOf]
    · have c4 := D4.cell
      have f4 := D4.free
      have hz := D6.lt
      go_wp2_with (go_at_call 51; refine (place_of _ _ _ _ _ _ _).mono ?_; rintro _ w4 ⟨rfl, hb4⟩; have hzw4 := hb4.size; (try simp only [World.size_alloc, World.size_setCell, World.size_drew] at hzw4); have cw4_0 := fun o => hb4.cell (p := ⟨w.heap.size + 1, o, none⟩) (by dsimp only; (try simp only [World.size_alloc, World.size_setCell, World.size_drew]); omega); have fw4_0 := fun o => hb4.frozen (p := ⟨w.heap.size + 1, o, none⟩) (by dsimp only; (try simp only [World.size_alloc, World.size_setCell, World.size_drew]); omega); have lw4_0 : w.heap.size + 1 < w4.heap.size := (by omega); have nw4_0 : (w.heap.size + 1 = w4.heap.size) = False := eq_false (by omega); have mw4_0 : (w4.heap.size = w.heap.size + 1) = False := eq_false (by omega))
      refine bodyPost_ret (v := .tuple #[v6 m0 m1 m2 m3 m4 m5, .int .i64 0]) (by simp [results, Tryd.results18, go_sem, cw4_0, c4]) rfl ⟨rfl, ?_⟩
      have hB4 := hB.trans (hb4.mono (by omega))
      go_grown
end Go.Proofs.YtplflpmkomeadaaDoor
