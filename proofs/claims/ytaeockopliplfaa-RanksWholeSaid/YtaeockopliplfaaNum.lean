/- Plain facts on powers of two, and on the numbers that a place and its index are made of. No program in sight. -/
import Derived.Test.YtaeockopliplfaaPart
namespace Go.Proofs.Ytaeockopliplfaa
set_option linter.unusedSimpArgs false
set_option linter.unusedVariables false
open Go.RowKit

theorem pw_pos (a : Int) : (1 : Int) ≤ 2 ^ a.toNat := by
  have : (0 : Int) < 2 ^ a.toNat := Int.pow_pos (by decide)
  omega
theorem pw_add {a b : Int} (ha : 0 ≤ a) (hb : 0 ≤ b) : (2 : Int) ^ a.toNat * 2 ^ b.toNat = 2 ^ (a + b).toNat := by
  rw [← Int.pow_add, Int.toNat_add ha hb]
theorem pw_le {a b : Int} (h : a ≤ b) : (2 : Int) ^ a.toNat ≤ 2 ^ b.toNat := by
  have h1 : a.toNat ≤ b.toNat := by omega
  have h2 : (2 : Nat) ^ a.toNat ≤ 2 ^ b.toNat := Nat.pow_le_pow_right (by decide) h1
  have := Int.ofNat_le.2 h2
  simpa using this
theorem pw_12 {a : Int} (h : a ≤ 12) : (2 : Int) ^ a.toNat ≤ 4096 := by
  have := pw_le h
  simpa using this
theorem wrap_pw {a : Int} (h : a ≤ 12) : wrap64 (2 ^ a.toNat) = 2 ^ a.toNat := by
  have h1 := pw_pos a
  have h2 := pw_12 h
  exact IntWalk.wrap64_in _ (by omega)
theorem size_math {a b c d e f : Int} (h : SV a b c d e f) :
    wrap64 (wrap64 (wrap64 (wrap64 (wrap64 (wrap64 (2 ^ a.toNat) * 2 ^ b.toNat) * 2 ^ c.toNat) * 2 ^ d.toNat) * 2 ^ e.toNat) * 2 ^ f.toNat) = 2 ^ (a + b + c + d + e + f).toNat := by
  obtain ⟨ha, hb, hc, hd, he, hf, hs⟩ := h
  rw [wrap_pw (by omega), pw_add (by omega) (by omega), wrap_pw (by omega), pw_add (by omega) (by omega), wrap_pw (by omega), pw_add (by omega) (by omega), wrap_pw (by omega), pw_add (by omega) (by omega), wrap_pw (by omega), pw_add (by omega) (by omega), wrap_pw (by omega)]

/-- The index of a place: the numbers one behind the other, as bits. -/
def idx (b c d e f p0 p1 p2 p3 p4 p5 : Int) : Int := ((((p0 * 2 ^ b.toNat + p1) * 2 ^ c.toNat + p2) * 2 ^ d.toNat + p3) * 2 ^ e.toNat + p4) * 2 ^ f.toNat + p5
/-- A place of the shape. -/
structure PV (a b c d e f p0 p1 p2 p3 p4 p5 : Int) : Prop where
  h0 : 0 ≤ p0 ∧ p0 < 2 ^ a.toNat
  h1 : 0 ≤ p1 ∧ p1 < 2 ^ b.toNat
  h2 : 0 ≤ p2 ∧ p2 < 2 ^ c.toNat
  h3 : 0 ≤ p3 ∧ p3 < 2 ^ d.toNat
  h4 : 0 ≤ p4 ∧ p4 < 2 ^ e.toNat
  h5 : 0 ≤ p5 ∧ p5 < 2 ^ f.toNat
instance (a b c d e f p0 p1 p2 p3 p4 p5 : Int) : Decidable (PV a b c d e f p0 p1 p2 p3 p4 p5) :=
  decidable_of_iff ((0 ≤ p0 ∧ p0 < 2 ^ a.toNat) ∧ (0 ≤ p1 ∧ p1 < 2 ^ b.toNat) ∧ (0 ≤ p2 ∧ p2 < 2 ^ c.toNat) ∧ (0 ≤ p3 ∧ p3 < 2 ^ d.toNat) ∧ (0 ≤ p4 ∧ p4 < 2 ^ e.toNat) ∧ (0 ≤ p5 ∧ p5 < 2 ^ f.toNat))
    ⟨fun ⟨a, b, c, d, e, f⟩ => ⟨a, b, c, d, e, f⟩, fun ⟨a, b, c, d, e, f⟩ => ⟨a, b, c, d, e, f⟩⟩
theorem not_PV {a b c d e f p0 p1 p2 p3 p4 p5 : Int} (h : ¬ ((0 ≤ p0 ∧ p0 < 2 ^ a.toNat) ∧ (0 ≤ p1 ∧ p1 < 2 ^ b.toNat) ∧ (0 ≤ p2 ∧ p2 < 2 ^ c.toNat) ∧ (0 ≤ p3 ∧ p3 < 2 ^ d.toNat) ∧ (0 ≤ p4 ∧ p4 < 2 ^ e.toNat) ∧ (0 ≤ p5 ∧ p5 < 2 ^ f.toNat))) : ¬ PV a b c d e f p0 p1 p2 p3 p4 p5 :=
  fun ⟨a, b, c, d, e, f⟩ => h ⟨a, b, c, d, e, f⟩

/-- One step of an index: what was there, moved up, and the next number: it stays below the power of both. -/
theorem step_lt {x y : Int} {a b : Int} (ha : 0 ≤ a) (hb : 0 ≤ b) (hx : 0 ≤ x ∧ x < 2 ^ a.toNat) (hy : 0 ≤ y ∧ y < 2 ^ b.toNat) : 0 ≤ x * 2 ^ b.toNat + y ∧ x * 2 ^ b.toNat + y < 2 ^ (a + b).toNat := by
  have h1 := pw_pos b
  rw [← pw_add ha hb]
  have h2 : 0 ≤ x * 2 ^ b.toNat := Int.mul_nonneg hx.1 (by omega)
  have h3 : x * 2 ^ b.toNat ≤ (2 ^ a.toNat - 1) * 2 ^ b.toNat := Int.mul_le_mul_of_nonneg_right (by omega) (by omega)
  rw [Int.sub_mul] at h3
  omega
theorem idx_in {a b c d e f p0 p1 p2 p3 p4 p5 : Int} (h : SV a b c d e f) (hp : PV a b c d e f p0 p1 p2 p3 p4 p5) :
    0 ≤ idx b c d e f p0 p1 p2 p3 p4 p5 ∧ idx b c d e f p0 p1 p2 p3 p4 p5 < 2 ^ (a + b + c + d + e + f).toNat := by
  obtain ⟨ha, hb, hc, hd, he, hf, hs⟩ := h
  obtain ⟨h0, h1, h2, h3, h4, h5⟩ := hp
  unfold idx
  have s1 := step_lt ha.1 hb.1 h0 h1
  have s2 := step_lt (by omega) hc.1 s1 h2
  have s3 := step_lt (by omega) hd.1 s2 h3
  have s4 := step_lt (by omega) he.1 s3 h4
  exact step_lt (by omega) hf.1 s4 h5
/-- And back: the remainder and the quotient. -/
theorem step_div {x y b : Int} (hy : 0 ≤ y ∧ y < 2 ^ b.toNat) : (x * 2 ^ b.toNat + y) / 2 ^ b.toNat = x ∧ (x * 2 ^ b.toNat + y) % 2 ^ b.toNat = y := by
  have h1 := pw_pos b
  have hm : (x * 2 ^ b.toNat + y) = y + x * 2 ^ b.toNat := by omega
  constructor
  · rw [hm, Int.add_mul_ediv_right _ _ (by omega), Int.ediv_eq_zero_of_lt hy.1 hy.2]; omega
  · rw [hm, Int.add_mul_emod_self_right, Int.emod_eq_of_lt hy.1 hy.2]
theorem div_lt {x a b : Int} (ha : 0 ≤ a) (hb : 0 ≤ b) (hx : 0 ≤ x ∧ x < 2 ^ (a + b).toNat) : (0 ≤ x / 2 ^ b.toNat ∧ x / 2 ^ b.toNat < 2 ^ a.toNat) ∧ (0 ≤ x % 2 ^ b.toNat ∧ x % 2 ^ b.toNat < 2 ^ b.toNat) ∧ (x / 2 ^ b.toNat) * 2 ^ b.toNat + x % 2 ^ b.toNat = x := by
  have h1 := pw_pos b
  rw [← pw_add ha hb] at hx
  refine ⟨⟨Int.ediv_nonneg hx.1 (by omega), Int.ediv_lt_of_lt_mul (by omega) hx.2⟩, ⟨Int.emod_nonneg _ (by omega), Int.emod_lt_of_pos _ (by omega)⟩, ?_⟩
  have := Int.mul_ediv_add_emod x (2 ^ b.toNat)
  rw [Int.mul_comm]; exact this

theorem ofInt_i64 (a : Nat) (ha : a < 9223372036854775808) : (BitVec.ofInt 64 (a : Int)).toNat = a := by
  rw [BitVec.ofInt_natCast, BitVec.toNat_ofNat]; exact Nat.mod_eq_of_lt (by omega)
theorem i64_and_nat (a b : Nat) (ha : a < 9223372036854775808) (hb : b < 9223372036854775808) : bits .and .i64 (a : Int) (b : Int) = ((a &&& b : Nat) : Int) := by
  have hx : a &&& b < 2 ^ 63 := Nat.and_lt_two_pow _ (by omega)
  show IntKind.i64.wrap ((BitVec.ofInt 64 (a : Int) &&& BitVec.ofInt 64 (b : Int)).toNat : Int) = _
  rw [BitVec.toNat_and, ofInt_i64 a ha, ofInt_i64 b hb, IntKind.wrap_i64]
  omega
theorem i64_or_nat (a b : Nat) (ha : a < 9223372036854775808) (hb : b < 9223372036854775808) : bits .or .i64 (a : Int) (b : Int) = ((a ||| b : Nat) : Int) := by
  have hx : a ||| b < 2 ^ 63 := Nat.or_lt_two_pow (by omega) (by omega)
  show IntKind.i64.wrap ((BitVec.ofInt 64 (a : Int) ||| BitVec.ofInt 64 (b : Int)).toNat : Int) = _
  rw [BitVec.toNat_or, ofInt_i64 a ha, ofInt_i64 b hb, IntKind.wrap_i64]
  omega
/-- Or of numbers whose bits do not meet is the sum. -/
theorem or_add {x y : Int} {b : Int} (hx : 0 ≤ x) (hx2 : x * 2 ^ b.toNat + y ≤ 4611686018427387904) (hy : 0 ≤ y ∧ y < 2 ^ b.toNat) : bits BinOp.or IntKind.i64 (x * 2 ^ b.toNat) y = x * 2 ^ b.toNat + y := by
  obtain ⟨m, rfl⟩ := Int.eq_ofNat_of_zero_le hx
  obtain ⟨n, rfl⟩ := Int.eq_ofNat_of_zero_le hy.1
  have h2 : (n : Nat) < 2 ^ b.toNat := by
    have := hy.2
    exact Int.ofNat_lt.1 (by simpa using this)
  have e : ((m : Int) * 2 ^ b.toNat) = ((m * 2 ^ b.toNat : Nat) : Int) := by simp
  rw [e] at hx2 ⊢
  rw [i64_or_nat _ _ (by omega) (by omega), nat_join b.toNat _ _ (by simp) h2]
  simp
/-- And with a row of ones is the remainder. -/
theorem and_mod {x : Int} {b : Int} (hx : 0 ≤ x) (hb : 0 ≤ b ∧ b ≤ 12) (hx2 : x ≤ 4611686018427387904) : bits BinOp.and IntKind.i64 x (2 ^ b.toNat - 1) = x % 2 ^ b.toNat := by
  obtain ⟨m, rfl⟩ := Int.eq_ofNat_of_zero_le hx
  have h1 := pw_pos b
  have h2 := pw_12 hb.2
  have h3 : 1 ≤ 2 ^ b.toNat := Nat.one_le_two_pow
  have e : ((2 : Int) ^ b.toNat - 1) = ((2 ^ b.toNat - 1 : Nat) : Int) := by
    rw [Int.ofNat_sub h3]; simp
  have e2 : (2 : Int) ^ b.toNat = ((2 ^ b.toNat : Nat) : Int) := by simp
  rw [e2] at h2
  rw [e, i64_and_nat _ _ (by omega) (by omega), Nat.and_two_pow_sub_one_eq_mod, e2]
  rfl
theorem or_zero {p : Int} (hp : 0 ≤ p ∧ p ≤ 4611686018427387904) : bits BinOp.or IntKind.i64 0 p = p := by
  obtain ⟨m, rfl⟩ := Int.eq_ofNat_of_zero_le hp.1
  have := i64_or_nat 0 m (by omega) (by omega)
  simpa using this
theorem fdiv_pw (p a : Int) : (0 ≤ p ∧ p < 2 ^ a.toNat ∧ p / 2 ^ a.toNat = 0) ∨ p < 0 ∨ (2 ^ a.toNat ≤ p ∧ ¬ p / 2 ^ a.toNat = 0) := by
  have h1 := pw_pos a
  by_cases h : p < 0
  · exact .inr (.inl h)
  · by_cases h2 : p < 2 ^ a.toNat
    · exact .inl ⟨by omega, h2, Int.ediv_eq_zero_of_lt (by omega) h2⟩
    · refine .inr (.inr ⟨by omega, fun h0 => ?_⟩)
      have := Int.ediv_le_ediv (c := 2 ^ a.toNat) (by omega) (show (2 : Int) ^ a.toNat ≤ p by omega)
      rw [Int.ediv_self (by omega), h0] at this
      omega
theorem index_math {a0 a1 a2 a3 a4 a5 p0 p1 p2 p3 p4 p5 : Int} (h : SV a0 a1 a2 a3 a4 a5) (hp : PV a0 a1 a2 a3 a4 a5 p0 p1 p2 p3 p4 p5) :
    bits BinOp.or IntKind.i64 (wrap64 (bits BinOp.or IntKind.i64 (wrap64 (bits BinOp.or IntKind.i64 (wrap64 (bits BinOp.or IntKind.i64 (wrap64 (bits BinOp.or IntKind.i64 (wrap64 (bits BinOp.or IntKind.i64 0 p0 * 2 ^ a1.toNat)) p1 * 2 ^ a2.toNat)) p2 * 2 ^ a3.toNat)) p3 * 2 ^ a4.toNat)) p4 * 2 ^ a5.toNat)) p5 = idx a1 a2 a3 a4 a5 p0 p1 p2 p3 p4 p5 := by
  obtain ⟨ha, hb, hc, hd, he, hf, hs⟩ := h
  obtain ⟨h0, h1, h2, h3, h4, h5⟩ := hp
  have b0 := pw_12 (a := a0) (by omega)
  have s1 := step_lt ha.1 hb.1 h0 h1
  have s2 := step_lt (by omega) hc.1 s1 h2
  have s3 := step_lt (by omega) hd.1 s2 h3
  have s4 := step_lt (by omega) he.1 s3 h4
  have s5 := step_lt (by omega) hf.1 s4 h5
  have b1 := pw_12 (a := a0 + a1) (by omega)
  have b2 := pw_12 (a := a0 + a1 + a2) (by omega)
  have b3 := pw_12 (a := a0 + a1 + a2 + a3) (by omega)
  have b4 := pw_12 (a := a0 + a1 + a2 + a3 + a4) (by omega)
  have b5 := pw_12 (a := a0 + a1 + a2 + a3 + a4 + a5) (by omega)
  have hstep : ∀ (x y : Int) (b : Int), 0 ≤ x → (0 ≤ x * 2 ^ b.toNat + y ∧ x * 2 ^ b.toNat + y ≤ 4096) → (0 ≤ y ∧ y < 2 ^ b.toNat) → bits BinOp.or IntKind.i64 (wrap64 (x * 2 ^ b.toNat)) y = x * 2 ^ b.toNat + y := fun x y b hx h hy => by
    have hm : 0 ≤ x * 2 ^ b.toNat := Int.mul_nonneg hx (by have := pw_pos b; omega)
    rw [IntWalk.wrap64_in _ (by omega)]
    exact or_add hx (by omega) hy
  unfold idx
  rw [or_zero (by omega), hstep _ _ _ h0.1 (by omega) h1, hstep _ _ _ s1.1 (by omega) h2, hstep _ _ _ s2.1 (by omega) h3, hstep _ _ _ s3.1 (by omega) h4, hstep _ _ _ s4.1 (by omega) h5]
/-- One step of At: what is taken off the index x at a number of b bits, and what is left. -/
structure AtEq (b x y m : Int) : Prop where
  div : x / 2 ^ b.toNat = y
  band : bits BinOp.and IntKind.i64 x (wrap64 (wrap64 (2 ^ b.toNat) - 1)) = m
  mod : x.tmod (wrap64 (2 ^ b.toNat)) = m
  quo : x.tdiv (wrap64 (2 ^ b.toNat)) = y
theorem AtEq.mk' {b x : Int} (hx : 0 ≤ x) (hb : 0 ≤ b ∧ b ≤ 12) (hx2 : x ≤ 4611686018427387904) : AtEq b x (x / 2 ^ b.toNat) (x % 2 ^ b.toNat) := by
  have h1 := pw_pos b
  have h2 := pw_12 hb.2
  have hw : wrap64 (2 ^ b.toNat) = 2 ^ b.toNat := IntWalk.wrap64_in _ (by omega)
  refine ⟨rfl, ?_, ?_, ?_⟩
  · rw [hw, IntWalk.wrap64_in _ (by omega), and_mod hx hb hx2]
  · rw [hw, Int.tmod_eq_emod_of_nonneg hx]
  · rw [hw, Int.tdiv_eq_ediv_of_nonneg hx]
/-- The place with an index. -/
structure AtAll (a0 a1 a2 a3 a4 a5 i m0 m1 m2 m3 m4 m5 : Int) : Prop where
  place : PV a0 a1 a2 a3 a4 a5 m0 m1 m2 m3 m4 m5
  index : idx a1 a2 a3 a4 a5 m0 m1 m2 m3 m4 m5 = i
theorem at_steps {a0 a1 a2 a3 a4 a5 i : Int} (h : SV a0 a1 a2 a3 a4 a5) (hi0 : 0 ≤ i) (hi1 : i < 2 ^ (a0 + a1 + a2 + a3 + a4 + a5).toNat) :
    ∃ x1 x2 x3 x4 x5 x6 m0 m1 m2 m3 m4 m5 : Int, AtEq a5 i x1 m5 ∧ AtEq a4 x1 x2 m4 ∧ AtEq a3 x2 x3 m3 ∧ AtEq a2 x3 x4 m2 ∧ AtEq a1 x4 x5 m1 ∧ AtEq a0 x5 x6 m0 ∧ AtAll a0 a1 a2 a3 a4 a5 i m0 m1 m2 m3 m4 m5 := by
  obtain ⟨ha, hb, hc, hd, he, hf, hs⟩ := h
  have b5 := pw_12 (a := a0 + a1 + a2 + a3 + a4 + a5) (by omega)
  have b4 := pw_12 (a := a0 + a1 + a2 + a3 + a4) (by omega)
  have b3 := pw_12 (a := a0 + a1 + a2 + a3) (by omega)
  have b2 := pw_12 (a := a0 + a1 + a2) (by omega)
  have b1 := pw_12 (a := a0 + a1) (by omega)
  have b0 := pw_12 (a := a0) (by omega)
  obtain ⟨d1, r5, e5⟩ := div_lt (a := a0 + a1 + a2 + a3 + a4) (b := a5) (by omega) (by omega) ⟨hi0, hi1⟩
  obtain ⟨d2, r4, e4⟩ := div_lt (a := a0 + a1 + a2 + a3) (b := a4) (by omega) (by omega) d1
  obtain ⟨d3, r3, e3⟩ := div_lt (a := a0 + a1 + a2) (b := a3) (by omega) (by omega) d2
  obtain ⟨d4, r2, e2⟩ := div_lt (a := a0 + a1) (b := a2) (by omega) (by omega) d3
  obtain ⟨d5, r1, e1⟩ := div_lt (a := a0) (b := a1) (by omega) (by omega) d4
  have hz : i / 2 ^ a5.toNat / 2 ^ a4.toNat / 2 ^ a3.toNat / 2 ^ a2.toNat / 2 ^ a1.toNat % 2 ^ a0.toNat = i / 2 ^ a5.toNat / 2 ^ a4.toNat / 2 ^ a3.toNat / 2 ^ a2.toNat / 2 ^ a1.toNat := Int.emod_eq_of_lt d5.1 d5.2
  refine ⟨_, _, _, _, _, _, _, _, _, _, _, _, AtEq.mk' hi0 hf (by omega), AtEq.mk' d1.1 he (by omega), AtEq.mk' d2.1 hd (by omega), AtEq.mk' d3.1 hc (by omega), AtEq.mk' d4.1 hb (by omega), AtEq.mk' d5.1 ha (by omega), ⟨by rw [hz]; exact d5, r1, r2, r3, r4, r5⟩, ?_⟩
  unfold idx
  rw [hz, e1, e2, e3, e4, e5]
/-- A place is known by its index. -/
theorem idx_inj {a0 a1 a2 a3 a4 a5 p0 p1 p2 p3 p4 p5 q0 q1 q2 q3 q4 q5 : Int} (hp : PV a0 a1 a2 a3 a4 a5 p0 p1 p2 p3 p4 p5) (hq : PV a0 a1 a2 a3 a4 a5 q0 q1 q2 q3 q4 q5)
    (h : idx a1 a2 a3 a4 a5 p0 p1 p2 p3 p4 p5 = idx a1 a2 a3 a4 a5 q0 q1 q2 q3 q4 q5) : p0 = q0 ∧ p1 = q1 ∧ p2 = q2 ∧ p3 = q3 ∧ p4 = q4 ∧ p5 = q5 := by
  unfold idx at h
  have g : ∀ {x y x' y' b : Int}, (0 ≤ y ∧ y < 2 ^ b.toNat) → (0 ≤ y' ∧ y' < 2 ^ b.toNat) → x * 2 ^ b.toNat + y = x' * 2 ^ b.toNat + y' → x = x' ∧ y = y' := fun {x y x' y' b} hy hy' he => by
    have h1 := step_div (x := x) hy
    have h2 := step_div (x := x') hy'
    rw [he] at h1
    exact ⟨h1.1.symm.trans h2.1, h1.2.symm.trans h2.2⟩
  obtain ⟨h, e5⟩ := g hp.h5 hq.h5 h
  obtain ⟨h, e4⟩ := g hp.h4 hq.h4 h
  obtain ⟨h, e3⟩ := g hp.h3 hq.h3 h
  obtain ⟨h, e2⟩ := g hp.h2 hq.h2 h
  obtain ⟨e0, e1⟩ := g hp.h1 hq.h1 h
  exact ⟨e0, e1, e2, e3, e4, e5⟩
/-- Six numbers. -/
structure P6 where
  a : Int
  b : Int
  c : Int
  d : Int
  e : Int
  f : Int
  deriving DecidableEq
/-- The place with the index i in a shape. -/
def atF (a0 a1 a2 a3 a4 a5 i : Int) : P6 :=
  ⟨i / 2 ^ a5.toNat / 2 ^ a4.toNat / 2 ^ a3.toNat / 2 ^ a2.toNat / 2 ^ a1.toNat % 2 ^ a0.toNat, i / 2 ^ a5.toNat / 2 ^ a4.toNat / 2 ^ a3.toNat / 2 ^ a2.toNat % 2 ^ a1.toNat,
    i / 2 ^ a5.toNat / 2 ^ a4.toNat / 2 ^ a3.toNat % 2 ^ a2.toNat, i / 2 ^ a5.toNat / 2 ^ a4.toNat % 2 ^ a3.toNat, i / 2 ^ a5.toNat % 2 ^ a4.toNat, i % 2 ^ a5.toNat⟩
theorem atF_steps {a0 a1 a2 a3 a4 a5 i : Int} (h : SV a0 a1 a2 a3 a4 a5) (hi0 : 0 ≤ i) (hi1 : i < 2 ^ (a0 + a1 + a2 + a3 + a4 + a5).toNat) :
    ∃ x1 x2 x3 x4 x5 x6 : Int, AtEq a5 i x1 (atF a0 a1 a2 a3 a4 a5 i).f ∧ AtEq a4 x1 x2 (atF a0 a1 a2 a3 a4 a5 i).e ∧ AtEq a3 x2 x3 (atF a0 a1 a2 a3 a4 a5 i).d ∧ AtEq a2 x3 x4 (atF a0 a1 a2 a3 a4 a5 i).c ∧ AtEq a1 x4 x5 (atF a0 a1 a2 a3 a4 a5 i).b ∧ AtEq a0 x5 x6 (atF a0 a1 a2 a3 a4 a5 i).a ∧
      AtAll a0 a1 a2 a3 a4 a5 i (atF a0 a1 a2 a3 a4 a5 i).a (atF a0 a1 a2 a3 a4 a5 i).b (atF a0 a1 a2 a3 a4 a5 i).c (atF a0 a1 a2 a3 a4 a5 i).d (atF a0 a1 a2 a3 a4 a5 i).e (atF a0 a1 a2 a3 a4 a5 i).f := by
  obtain ⟨x1, x2, x3, x4, x5, x6, m0, m1, m2, m3, m4, m5, h5, h4, h3, h2, h1, h0, hall⟩ := at_steps h hi0 hi1
  have hb5 := pw_12 (a := a0 + a1 + a2 + a3 + a4 + a5) (by have := h.sum; omega)
  have e5 : m5 = (atF a0 a1 a2 a3 a4 a5 i).f := h5.band.symm.trans (AtEq.mk' hi0 h.hf (by omega)).band
  have d1 : i / 2 ^ a5.toNat = x1 := h5.div
  have d2 : x1 / 2 ^ a4.toNat = x2 := h4.div
  have d3 : x2 / 2 ^ a3.toNat = x3 := h3.div
  have d4 : x3 / 2 ^ a2.toNat = x4 := h2.div
  have d5 : x4 / 2 ^ a1.toNat = x5 := h1.div
  have hx1 : 0 ≤ x1 ∧ x1 ≤ i := by rw [← d1]; exact ⟨Int.ediv_nonneg hi0 (by have := pw_pos a5; omega), Int.ediv_le_self _ hi0⟩
  have hx2 : 0 ≤ x2 ∧ x2 ≤ x1 := by rw [← d2]; exact ⟨Int.ediv_nonneg hx1.1 (by have := pw_pos a4; omega), Int.ediv_le_self _ hx1.1⟩
  have hx3 : 0 ≤ x3 ∧ x3 ≤ x2 := by rw [← d3]; exact ⟨Int.ediv_nonneg hx2.1 (by have := pw_pos a3; omega), Int.ediv_le_self _ hx2.1⟩
  have hx4 : 0 ≤ x4 ∧ x4 ≤ x3 := by rw [← d4]; exact ⟨Int.ediv_nonneg hx3.1 (by have := pw_pos a2; omega), Int.ediv_le_self _ hx3.1⟩
  have hx5 : 0 ≤ x5 ∧ x5 ≤ x4 := by rw [← d5]; exact ⟨Int.ediv_nonneg hx4.1 (by have := pw_pos a1; omega), Int.ediv_le_self _ hx4.1⟩
  have e4 : m4 = (atF a0 a1 a2 a3 a4 a5 i).e := by rw [← h4.band, (AtEq.mk' hx1.1 h.he (by omega)).band]; simp only [atF, d1]
  have e3 : m3 = (atF a0 a1 a2 a3 a4 a5 i).d := by rw [← h3.band, (AtEq.mk' hx2.1 h.hd (by omega)).band]; simp only [atF, d1, d2]
  have e2 : m2 = (atF a0 a1 a2 a3 a4 a5 i).c := by rw [← h2.band, (AtEq.mk' hx3.1 h.hc (by omega)).band]; simp only [atF, d1, d2, d3]
  have e1 : m1 = (atF a0 a1 a2 a3 a4 a5 i).b := by rw [← h1.band, (AtEq.mk' hx4.1 h.hb (by omega)).band]; simp only [atF, d1, d2, d3, d4]
  have e0 : m0 = (atF a0 a1 a2 a3 a4 a5 i).a := by rw [← h0.band, (AtEq.mk' hx5.1 h.ha (by omega)).band]; simp only [atF, d1, d2, d3, d4, d5]
  rw [← e0, ← e1, ← e2, ← e3, ← e4, ← e5]
  exact ⟨x1, x2, x3, x4, x5, x6, h5, h4, h3, h2, h1, h0, hall⟩
end Go.Proofs.Ytaeockopliplfaa
