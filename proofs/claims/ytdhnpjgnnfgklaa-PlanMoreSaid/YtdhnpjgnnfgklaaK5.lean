/- Several texts in one: Num, Part2, Part3. -/
import Derived.Test.YtdhnpjgnnfgklaaPart
import Derived.LoopTactic
/- Plain facts on powers of two, and on the numbers that a place and its index are made of. No program in sight. -/
namespace Go.Proofs.Ytdhnpjgnnfgklaa
set_option linter.unusedSimpArgs false
set_option linter.unusedVariables false
open Go.RowKit

theorem pw_pos (a : Int) : (1 : Int) ≤ 2 ^ a.toNat := by
  have : (0 : Int) < 2 ^ a.toNat := Int.pow_pos (by decide)
  omega
theorem pw_le {a b : Int} (h : a ≤ b) : (2 : Int) ^ a.toNat ≤ 2 ^ b.toNat := by
  have h1 : a.toNat ≤ b.toNat := by omega
  have h2 : (2 : Nat) ^ a.toNat ≤ 2 ^ b.toNat := Nat.pow_le_pow_right (by decide) h1
  have := Int.ofNat_le.2 h2
  simpa using this
theorem pw_12 {a : Int} (h : a ≤ 12) : (2 : Int) ^ a.toNat ≤ 4096 := by
  have := pw_le h
  simpa using this
theorem wrap_pw {a : Int} (h : a ≤ 12) : wrap64 (2 ^ a.toNat) = 2 ^ a.toNat := by
  have h1 := pw_pos a
  have h2 := pw_12 h
  exact IntWalk.wrap64_in _ (by omega)
/-- The index of a place: the numbers one behind the other, as bits. -/
def idx (b c d e f p0 p1 p2 p3 p4 p5 : Int) : Int := ((((p0 * 2 ^ b.toNat + p1) * 2 ^ c.toNat + p2) * 2 ^ d.toNat + p3) * 2 ^ e.toNat + p4) * 2 ^ f.toNat + p5
/-- A place of the shape. -/
structure PV (a b c d e f p0 p1 p2 p3 p4 p5 : Int) : Prop where
  h0 : 0 ≤ p0 ∧ p0 < 2 ^ a.toNat
  h1 : 0 ≤ p1 ∧ p1 < 2 ^ b.toNat
  h2 : 0 ≤ p2 ∧ p2 < 2 ^ c.toNat
  h3 : 0 ≤ p3 ∧ p3 < 2 ^ d.toNat
  h4 : 0 ≤ p4 ∧ p4 < 2 ^ e.toNat
  h5 : 0 ≤ p5 ∧ p5 < 2 ^ f.toNat
instance (a b c d e f p0 p1 p2 p3 p4 p5 : Int) : Decidable (PV a b c d e f p0 p1 p2 p3 p4 p5) :=
  decidable_of_iff ((0 ≤ p0 ∧ p0 < 2 ^ a.toNat) ∧ (0 ≤ p1 ∧ p1 < 2 ^ b.toNat) ∧ (0 ≤ p2 ∧ p2 < 2 ^ c.toNat) ∧ (0 ≤ p3 ∧ p3 < 2 ^ d.toNat) ∧ (0 ≤ p4 ∧ p4 < 2 ^ e.toNat) ∧ (0 ≤ p5 ∧ p5 < 2 ^ f.toNat))
    ⟨fun ⟨a, b, c, d, e, f⟩ => ⟨a, b, c, d, e, f⟩, fun ⟨a, b, c, d, e, f⟩ => ⟨a, b, c, d, e, f⟩⟩
theorem not_PV {a b c d e f p0 p1 p2 p3 p4 p5 : Int} (h : ¬ ((0 ≤ p0 ∧ p0 < 2 ^ a.toNat) ∧ (0 ≤ p1 ∧ p1 < 2 ^ b.toNat) ∧ (0 ≤ p2 ∧ p2 < 2 ^ c.toNat) ∧ (0 ≤ p3 ∧ p3 < 2 ^ d.toNat) ∧ (0 ≤ p4 ∧ p4 < 2 ^ e.toNat) ∧ (0 ≤ p5 ∧ p5 < 2 ^ f.toNat))) : ¬ PV a b c d e f p0 p1 p2 p3 p4 p5 :=
  fun ⟨a, b, c, d, e, f⟩ => h ⟨a, b, c, d, e, f⟩

theorem ofInt_i64 (a : Nat) (ha : a < 9223372036854775808) : (BitVec.ofInt 64 (a : Int)).toNat = a := by
  rw [BitVec.ofInt_natCast, BitVec.toNat_ofNat]; exact Nat.mod_eq_of_lt (by omega)
theorem i64_and_nat (a b : Nat) (ha : a < 9223372036854775808) (hb : b < 9223372036854775808) : bits .and .i64 (a : Int) (b : Int) = ((a &&& b : Nat) : Int) := by
  have hx : a &&& b < 2 ^ 63 := Nat.and_lt_two_pow _ (by omega)
  show IntKind.i64.wrap ((BitVec.ofInt 64 (a : Int) &&& BitVec.ofInt 64 (b : Int)).toNat : Int) = _
  rw [BitVec.toNat_and, ofInt_i64 a ha, ofInt_i64 b hb, IntKind.wrap_i64]
  omega
/-- And with a row of ones is the remainder. -/
theorem and_mod {x : Int} {b : Int} (hx : 0 ≤ x) (hb : 0 ≤ b ∧ b ≤ 12) (hx2 : x ≤ 4611686018427387904) : bits BinOp.and IntKind.i64 x (2 ^ b.toNat - 1) = x % 2 ^ b.toNat := by
  obtain ⟨m, rfl⟩ := Int.eq_ofNat_of_zero_le hx
  have h1 := pw_pos b
  have h2 := pw_12 hb.2
  have h3 : 1 ≤ 2 ^ b.toNat := Nat.one_le_two_pow
  have e : ((2 : Int) ^ b.toNat - 1) = ((2 ^ b.toNat - 1 : Nat) : Int) := by
    rw [Int.ofNat_sub h3]; simp
  have e2 : (2 : Int) ^ b.toNat = ((2 ^ b.toNat : Nat) : Int) := by simp
  rw [e2] at h2
  rw [e, i64_and_nat _ _ (by omega) (by omega), Nat.and_two_pow_sub_one_eq_mod, e2]
  rfl
theorem fdiv_pw (p a : Int) : (0 ≤ p ∧ p < 2 ^ a.toNat ∧ p / 2 ^ a.toNat = 0) ∨ p < 0 ∨ (2 ^ a.toNat ≤ p ∧ ¬ p / 2 ^ a.toNat = 0) := by
  have h1 := pw_pos a
  by_cases h : p < 0
  · exact .inr (.inl h)
  · by_cases h2 : p < 2 ^ a.toNat
    · exact .inl ⟨by omega, h2, Int.ediv_eq_zero_of_lt (by omega) h2⟩
    · refine .inr (.inr ⟨by omega, fun h0 => ?_⟩)
      have := Int.ediv_le_ediv (c := 2 ^ a.toNat) (by omega) (show (2 : Int) ^ a.toNat ≤ p by omega)
      rw [Int.ediv_self (by omega), h0] at this
      omega
/-- One step of At: what is taken off the index x at a number of b bits, and what is left. -/
structure AtEq (b x y m : Int) : Prop where
  div : x / 2 ^ b.toNat = y
  band : bits BinOp.and IntKind.i64 x (wrap64 (wrap64 (2 ^ b.toNat) - 1)) = m
  mod : x.tmod (wrap64 (2 ^ b.toNat)) = m
  quo : x.tdiv (wrap64 (2 ^ b.toNat)) = y
theorem AtEq.mk' {b x : Int} (hx : 0 ≤ x) (hb : 0 ≤ b ∧ b ≤ 12) (hx2 : x ≤ 4611686018427387904) : AtEq b x (x / 2 ^ b.toNat) (x % 2 ^ b.toNat) := by
  have h1 := pw_pos b
  have h2 := pw_12 hb.2
  have hw : wrap64 (2 ^ b.toNat) = 2 ^ b.toNat := IntWalk.wrap64_in _ (by omega)
  refine ⟨rfl, ?_, ?_, ?_⟩
  · rw [hw, IntWalk.wrap64_in _ (by omega), and_mod hx hb hx2]
  · rw [hw, Int.tmod_eq_emod_of_nonneg hx]
  · rw [hw, Int.tdiv_eq_ediv_of_nonneg hx]
/-- The place with an index. -/
structure AtAll (a0 a1 a2 a3 a4 a5 i m0 m1 m2 m3 m4 m5 : Int) : Prop where
  place : PV a0 a1 a2 a3 a4 a5 m0 m1 m2 m3 m4 m5
  index : idx a1 a2 a3 a4 a5 m0 m1 m2 m3 m4 m5 = i
/-- Six numbers. -/
structure P6 where
  a : Int
  b : Int
  c : Int
  d : Int
  e : Int
  f : Int
  deriving DecidableEq
end Go.Proofs.Ytdhnpjgnnfgklaa

/- Package part: Size, ValidPlace, Index, At. -/
namespace Go.Proofs.Ytdhnpjgnnfgklaa
set_option linter.unusedSimpArgs false
set_option linter.unusedVariables false
open Go.RowKit
set_option maxRecDepth 100000
attribute [local go_sem] lt_more ne_more ne_more' ix0 ix1 ix2 ix3 ix4 ix5

theorem valid_yes {a b c d e f : Int} (h : SV a b c d e f) (w : World) : Calls Try.prog 39 #[v6 a b c d e f] w (Gives (.bool true) w) := by
  have := valid_any a b c d e f w
  rwa [decide_eq_true h] at this
theorem valid_no {a b c d e f : Int} (h : ¬ SV a b c d e f) (w : World) : Calls Try.prog 39 #[v6 a b c d e f] w (Gives (.bool false) w) := by
  have := valid_any a b c d e f w
  rwa [decide_eq_false h] at this

set_option maxHeartbeats 4000000 in
theorem validPlace_any {a0 a1 a2 a3 a4 a5 p0 p1 p2 p3 p4 p5 : Int} (h : SV a0 a1 a2 a3 a4 a5) (w : World) : Calls Try.prog 40 #[v6 a0 a1 a2 a3 a4 a5, v6 p0 p1 p2 p3 p4 p5] w (Gives (.bool (decide (PV a0 a1 a2 a3 a4 a5 p0 p1 p2 p3 p4 p5))) w) := by
  obtain ⟨ha, hb, hc, hd, he, hf, hs⟩ := id h
  go_enter Try.func40, Try.ntmps40
  go_wp2_with (first | (go_at_call 39; refine (valid_yes h _).mono ?_; rintro _ w1 ⟨rfl, hb1⟩; have hzw1 := hb1.size; (try simp only [World.size_alloc, World.size_setCell, World.size_drew] at hzw1); have cw1_0 := fun o => hb1.cell (p := ⟨w.heap.size, o, none⟩) (by dsimp only; (try simp only [World.size_alloc, World.size_setCell, World.size_drew]); omega); have fw1_0 := fun o => hb1.frozen (p := ⟨w.heap.size, o, none⟩) (by dsimp only; (try simp only [World.size_alloc, World.size_setCell, World.size_drew]); omega); have lw1_0 : w.heap.size < w1.heap.size := (by omega); have nw1_0 : (w.heap.size = w1.heap.size) = False := eq_false (by omega); have mw1_0 : (w1.heap.size = w.heap.size) = False := eq_false (by omega); have cw1_1 := fun o => hb1.cell (p := ⟨w.heap.size + 1, o, none⟩) (by dsimp only; (try simp only [World.size_alloc, World.size_setCell, World.size_drew]); omega); have fw1_1 := fun o => hb1.frozen (p := ⟨w.heap.size + 1, o, none⟩) (by dsimp only; (try simp only [World.size_alloc, World.size_setCell, World.size_drew]); omega); have lw1_1 : w.heap.size + 1 < w1.heap.size := (by omega); have nw1_1 : (w.heap.size + 1 = w1.heap.size) = False := eq_false (by omega); have mw1_1 : (w1.heap.size = w.heap.size + 1) = False := eq_false (by omega)) | (go_at_call 59; refine (widths_any _ _ _ _ _ _ _).mono ?_; rintro _ w2 ⟨rfl, hb2⟩; have hzw2 := hb2.size; (try simp only [World.size_alloc, World.size_setCell, World.size_drew] at hzw2); have cw2_0 := fun o => hb2.cell (p := ⟨w.heap.size, o, none⟩) (by dsimp only; (try simp only [World.size_alloc, World.size_setCell, World.size_drew]); omega); have fw2_0 := fun o => hb2.frozen (p := ⟨w.heap.size, o, none⟩) (by dsimp only; (try simp only [World.size_alloc, World.size_setCell, World.size_drew]); omega); have lw2_0 : w.heap.size < w2.heap.size := (by omega); have nw2_0 : (w.heap.size = w2.heap.size) = False := eq_false (by omega); have mw2_0 : (w2.heap.size = w.heap.size) = False := eq_false (by omega); have cw2_1 := fun o => hb2.cell (p := ⟨w.heap.size + 1, o, none⟩) (by dsimp only; (try simp only [World.size_alloc, World.size_setCell, World.size_drew]); omega); have fw2_1 := fun o => hb2.frozen (p := ⟨w.heap.size + 1, o, none⟩) (by dsimp only; (try simp only [World.size_alloc, World.size_setCell, World.size_drew]); omega); have lw2_1 : w.heap.size + 1 < w2.heap.size := (by omega); have nw2_1 : (w.heap.size + 1 = w2.heap.size) = False := eq_false (by omega); have mw2_1 : (w2.heap.size = w.heap.size + 1) = False := eq_false (by omega)) | (go_at_call 60; refine (numbers_any _ _ _ _ _ _ _).mono ?_; rintro _ w3 ⟨rfl, hb3⟩; have hzw3 := hb3.size; (try simp only [World.size_alloc, World.size_setCell, World.size_drew] at hzw3); have cw3_0 := fun o => hb3.cell (p := ⟨w.heap.size, o, none⟩) (by dsimp only; (try simp only [World.size_alloc, World.size_setCell, World.size_drew]); omega); have fw3_0 := fun o => hb3.frozen (p := ⟨w.heap.size, o, none⟩) (by dsimp only; (try simp only [World.size_alloc, World.size_setCell, World.size_drew]); omega); have lw3_0 : w.heap.size < w3.heap.size := (by omega); have nw3_0 : (w.heap.size = w3.heap.size) = False := eq_false (by omega); have mw3_0 : (w3.heap.size = w.heap.size) = False := eq_false (by omega); have cw3_1 := fun o => hb3.cell (p := ⟨w.heap.size + 1, o, none⟩) (by dsimp only; (try simp only [World.size_alloc, World.size_setCell, World.size_drew]); omega); have fw3_1 := fun o => hb3.frozen (p := ⟨w.heap.size + 1, o, none⟩) (by dsimp only; (try simp only [World.size_alloc, World.size_setCell, World.size_drew]); omega); have lw3_1 : w.heap.size + 1 < w3.heap.size := (by omega); have nw3_1 : (w.heap.size + 1 = w3.heap.size) = False := eq_false (by omega); have mw3_1 : (w3.heap.size = w.heap.size + 1) = False := eq_false (by omega); have cw3_2 := fun o => hb3.cell (p := ⟨w2.heap.size, o, none⟩) (by dsimp only; (try simp only [World.size_alloc, World.size_setCell, World.size_drew]); omega); have fw3_2 := fun o => hb3.frozen (p := ⟨w2.heap.size, o, none⟩) (by dsimp only; (try simp only [World.size_alloc, World.size_setCell, World.size_drew]); omega); have lw3_2 : w2.heap.size < w3.heap.size := (by omega); have nw3_2 : (w2.heap.size = w3.heap.size) = False := eq_false (by omega); have mw3_2 : (w3.heap.size = w2.heap.size) = False := eq_false (by omega)))
  have hB : Below w.heap.size w w3 := by
    have h0 : Below w.heap.size w w1 := (((Below.refl _ _).alloc (Nat.le_refl _) _).alloc (by simp) _).trans (hb1.mono (by simp; omega))
    exact (h0.trans (hb2.mono (by omega))).trans (((Below.refl _ _).alloc (by omega) _).trans (hb3.mono (by simp; omega)))
  clear hb1 hb2 hb3
  go_rounds 7
  all_goals go_ret
  all_goals refine ⟨ret_bool ?_, hB⟩
  all_goals
    have f0 := fdiv_pw p0 a0
    have f1 := fdiv_pw p1 a1
    have f2 := fdiv_pw p2 a2
    have f3 := fdiv_pw p3 a3
    have f4 := fdiv_pw p4 a4
    have f5 := fdiv_pw p5 a5
  all_goals try simp only [bne_iff_ne, ne_eq, bne_eq_false_iff_eq] at *
  all_goals first
    | (refine (decide_eq_false (not_PV ?_)).symm; omega)
    | (refine (decide_eq_true ⟨?_, ?_, ?_, ?_, ?_, ?_⟩).symm <;> omega)
end Go.Proofs.Ytdhnpjgnnfgklaa

/- Package part: At. -/
namespace Go.Proofs.Ytdhnpjgnnfgklaa
set_option linter.unusedSimpArgs false
set_option linter.unusedVariables false
open Go.RowKit
set_option maxRecDepth 100000
attribute [local go_sem] lt_more ne_more ne_more' ix0 ix1 ix2 ix3 ix4 ix5

end Go.Proofs.Ytdhnpjgnnfgklaa
