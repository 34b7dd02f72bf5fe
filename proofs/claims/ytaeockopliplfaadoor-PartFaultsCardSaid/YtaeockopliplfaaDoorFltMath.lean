/- Plain laws for the statement PartFaults: how many words a fault of each kind covers. -/
import Derived.Test.YtaeockopliplfaaDoorCovd
namespace Go.Proofs.YtaeockopliplfaaDoor
set_option linter.unusedSimpArgs false
set_option linter.unusedVariables false
open Go.RowKit
set_option maxRecDepth 100000

/-- Counting over two digits. -/
theorem count_two (f g : Nat → Bool) (B : Nat) : ∀ A, ((List.range (A * B)).filter fun i => f (i / B) && g (i % B)).length = ((List.range A).filter f).length * ((List.range B).filter g).length
  | 0 => by simp
  | A + 1 => by
    have hr : List.range ((A + 1) * B) = List.range (A * B) ++ (List.range B).map (A * B + ·) := by rw [Nat.add_mul, Nat.one_mul, List.range_add]
    rw [hr, List.filter_append, List.length_append, count_two f g B A, List.range_succ, List.filter_append, List.length_append, List.filter_map, List.length_map, Nat.add_mul]
    congr 1
    have hc : ∀ j ∈ List.range B, ((fun i => f (i / B) && g (i % B)) ∘ fun x => A * B + x) j = (f A && g j) := fun j hj => by
      have hj : j < B := by simpa using hj
      have h1 : (A * B + j) / B = A := by
        rw [Nat.mul_comm, Nat.mul_add_div (by omega), Nat.div_eq_of_lt hj]; omega
      have h2 : (A * B + j) % B = j := by rw [Nat.mul_comm, Nat.mul_add_mod, Nat.mod_eq_of_lt hj]
      simp only [Function.comp, h1, h2]
    rw [List.filter_congr hc]
    cases hA : f A <;> simp [hA]

/-- One digit: named, it is one of all; not named, any. -/
def dig (nm : Bool) (p : Int) (x : Nat) : Bool := !nm || decide (p = (x : Int))
theorem dig_count (nm : Bool) (p : Int) (n : Nat) (hp : 0 ≤ p ∧ p < n) : ((List.range n).filter (dig nm p)).length = if nm then 1 else n := by
  cases nm with
  | false =>
    have : (List.range n).filter (dig false p) = List.range n := List.filter_eq_self.2 (fun _ _ => rfl)
    rw [this]; simp
  | true =>
    obtain ⟨q, rfl⟩ := Int.eq_ofNat_of_zero_le hp.1
    have hq : q < n := by omega
    have : (List.range n).filter (dig true q) = [q] := by
      have h1 : ∀ j ∈ List.range n, dig true q j = (j == q) := fun j _ => by
        simp only [dig, Bool.not_true, Bool.false_or]
        apply Bool.eq_iff_iff.2
        simp
        omega
      rw [List.filter_congr h1]
      have : (List.range n).filter (fun j => j == q) = List.replicate ((List.range n).count q) q := List.filter_beq _
      rw [this, List.count_range]
      simp [hq]
    rw [this]; rfl

def namedB (k : Int) (i : Nat) : Bool := match i with
  | 0 => true
  | 1 => true
  | 2 => decide (k ≤ 5)
  | 3 => decide (k ≤ 4)
  | 4 => decide (k ≤ 2)
  | _ => decide (k = 1 ∨ k = 3)

theorem dlt {i X B : Nat} (h : i < X * B) : i / B < X := Nat.div_lt_of_lt_mul (Nat.mul_comm X B ▸ h)
theorem nat_pw {a : Int} : (2 : Int) ^ a.toNat = ((2 ^ a.toNat : Nat) : Int) := by simp
theorem cov_digits {a0 a1 a2 a3 a4 a5 k p0 p1 p2 p3 p4 p5 : Int} {i : Nat} (h : i / 2 ^ a5.toNat / 2 ^ a4.toNat / 2 ^ a3.toNat / 2 ^ a2.toNat / 2 ^ a1.toNat < 2 ^ a0.toNat) :
    covB a0 a1 a2 a3 a4 a5 k p0 p1 p2 p3 p4 p5 i = (((((dig (namedB k 0) p0 (i / 2 ^ a5.toNat / 2 ^ a4.toNat / 2 ^ a3.toNat / 2 ^ a2.toNat / 2 ^ a1.toNat) && dig (namedB k 1) p1 (i / 2 ^ a5.toNat / 2 ^ a4.toNat / 2 ^ a3.toNat / 2 ^ a2.toNat % 2 ^ a1.toNat)) &&
      dig (namedB k 2) p2 (i / 2 ^ a5.toNat / 2 ^ a4.toNat / 2 ^ a3.toNat % 2 ^ a2.toNat)) && dig (namedB k 3) p3 (i / 2 ^ a5.toNat / 2 ^ a4.toNat % 2 ^ a3.toNat)) && dig (namedB k 4) p4 (i / 2 ^ a5.toNat % 2 ^ a4.toNat)) && dig (namedB k 5) p5 (i % 2 ^ a5.toNat)) := by
  have e0 : ((i / 2 ^ a5.toNat / 2 ^ a4.toNat / 2 ^ a3.toNat / 2 ^ a2.toNat / 2 ^ a1.toNat : Nat) : Int) = (atF a0 a1 a2 a3 a4 a5 i).a := by
    unfold atF
    simp only [nat_pw, ← Int.natCast_ediv, ← Int.natCast_emod]
    rw [Nat.mod_eq_of_lt h]
  have e1 : ((i / 2 ^ a5.toNat / 2 ^ a4.toNat / 2 ^ a3.toNat / 2 ^ a2.toNat % 2 ^ a1.toNat : Nat) : Int) = (atF a0 a1 a2 a3 a4 a5 i).b := by
    unfold atF; simp only [nat_pw, ← Int.natCast_ediv, ← Int.natCast_emod]
  have e2 : ((i / 2 ^ a5.toNat / 2 ^ a4.toNat / 2 ^ a3.toNat % 2 ^ a2.toNat : Nat) : Int) = (atF a0 a1 a2 a3 a4 a5 i).c := by
    unfold atF; simp only [nat_pw, ← Int.natCast_ediv, ← Int.natCast_emod]
  have e3 : ((i / 2 ^ a5.toNat / 2 ^ a4.toNat % 2 ^ a3.toNat : Nat) : Int) = (atF a0 a1 a2 a3 a4 a5 i).d := by
    unfold atF; simp only [nat_pw, ← Int.natCast_ediv, ← Int.natCast_emod]
  have e4 : ((i / 2 ^ a5.toNat % 2 ^ a4.toNat : Nat) : Int) = (atF a0 a1 a2 a3 a4 a5 i).e := by
    unfold atF; simp only [nat_pw, ← Int.natCast_ediv, ← Int.natCast_emod]
  have e5 : ((i % 2 ^ a5.toNat : Nat) : Int) = (atF a0 a1 a2 a3 a4 a5 i).f := by
    unfold atF; simp only [nat_pw, ← Int.natCast_ediv, ← Int.natCast_emod]
  unfold covB dig namedB
  rw [e0, e1, e2, e3, e4, e5]
  apply Bool.eq_iff_iff.2
  simp only [decide_eq_true_eq, Bool.and_eq_true, Bool.or_eq_true, Bool.not_eq_true', decide_eq_false_iff_not]
  constructor
  · rintro ⟨h0, h1, h2, h3, h4, h5⟩
    refine ⟨⟨⟨⟨⟨.inr h0, .inr h1⟩, ?_⟩, ?_⟩, ?_⟩, ?_⟩
    · exact (Classical.em (k ≤ 5)).elim (fun h => .inr (h2 h)) .inl
    · exact (Classical.em (k ≤ 4)).elim (fun h => .inr (h3 h)) .inl
    · exact (Classical.em (k ≤ 2)).elim (fun h => .inr (h4 h)) .inl
    · exact (Classical.em (k = 1 ∨ k = 3)).elim (fun h => .inr (h5 h)) .inl
  · rintro ⟨⟨⟨⟨⟨h0, h1⟩, h2⟩, h3⟩, h4⟩, h5⟩
    exact ⟨h0.elim (fun x => by simp at x) id, h1.elim (fun x => by simp at x) id, fun h => h2.elim (fun x => absurd h x) id, fun h => h3.elim (fun x => absurd h x) id, fun h => h4.elim (fun x => absurd h x) id, fun h => h5.elim (fun x => absurd h x) id⟩

/-- The bits that a kind does not name. -/
def freeBits (a2 a3 a4 a5 k : Int) : Int := if k = 1 then 0 else if k = 2 then a5 else if k = 3 then a4 else if k = 4 then a4 + a5 else if k = 5 then a3 + a4 + a5 else a2 + a3 + a4 + a5

theorem pw_n {a b : Int} (ha : 0 ≤ a) (hb : 0 ≤ b) : (2 : Nat) ^ (a + b).toNat = 2 ^ a.toNat * 2 ^ b.toNat := by
  rw [Int.toNat_add ha hb, Nat.pow_add]

theorem cov_count {a0 a1 a2 a3 a4 a5 k p0 p1 p2 p3 p4 p5 : Int} (h : SV a0 a1 a2 a3 a4 a5) (hp : PV a0 a1 a2 a3 a4 a5 p0 p1 p2 p3 p4 p5) (hk : 1 ≤ k ∧ k ≤ 6) :
    (covL a0 a1 a2 a3 a4 a5 k p0 p1 p2 p3 p4 p5 (2 ^ (a0 + a1 + a2 + a3 + a4 + a5).toNat)).length = 2 ^ (freeBits a2 a3 a4 a5 k).toNat := by
  obtain ⟨ha, hb, hc, hd, he, hf, hs⟩ := h
  have hsz : (2 : Nat) ^ (a0 + a1 + a2 + a3 + a4 + a5).toNat = ((((2 ^ a0.toNat * 2 ^ a1.toNat) * 2 ^ a2.toNat) * 2 ^ a3.toNat) * 2 ^ a4.toNat) * 2 ^ a5.toNat := by
    rw [pw_n (by omega) hf.1, pw_n (by omega) he.1, pw_n (by omega) hd.1, pw_n (by omega) hc.1, pw_n ha.1 hb.1]
  have hcount : (covL a0 a1 a2 a3 a4 a5 k p0 p1 p2 p3 p4 p5 (2 ^ (a0 + a1 + a2 + a3 + a4 + a5).toNat)).length =
      (((((if namedB k 0 then 1 else 2 ^ a0.toNat) * (if namedB k 1 then 1 else 2 ^ a1.toNat)) * (if namedB k 2 then 1 else 2 ^ a2.toNat)) * (if namedB k 3 then 1 else 2 ^ a3.toNat)) * (if namedB k 4 then 1 else 2 ^ a4.toNat)) * (if namedB k 5 then 1 else 2 ^ a5.toNat) := by
    unfold covL
    rw [hsz]
    rw [List.filter_congr (q := fun i => (((((dig (namedB k 0) p0 (i / 2 ^ a5.toNat / 2 ^ a4.toNat / 2 ^ a3.toNat / 2 ^ a2.toNat / 2 ^ a1.toNat) && dig (namedB k 1) p1 (i / 2 ^ a5.toNat / 2 ^ a4.toNat / 2 ^ a3.toNat / 2 ^ a2.toNat % 2 ^ a1.toNat)) &&
      dig (namedB k 2) p2 (i / 2 ^ a5.toNat / 2 ^ a4.toNat / 2 ^ a3.toNat % 2 ^ a2.toNat)) && dig (namedB k 3) p3 (i / 2 ^ a5.toNat / 2 ^ a4.toNat % 2 ^ a3.toNat)) && dig (namedB k 4) p4 (i / 2 ^ a5.toNat % 2 ^ a4.toNat)) && dig (namedB k 5) p5 (i % 2 ^ a5.toNat)))
      (fun i hi => cov_digits (by
        have hi := List.mem_range.1 hi
        exact dlt (dlt (dlt (dlt (dlt hi))))))]
    rw [count_two (fun x => ((((dig (namedB k 0) p0 (x / 2 ^ a4.toNat / 2 ^ a3.toNat / 2 ^ a2.toNat / 2 ^ a1.toNat) && dig (namedB k 1) p1 (x / 2 ^ a4.toNat / 2 ^ a3.toNat / 2 ^ a2.toNat % 2 ^ a1.toNat)) &&
      dig (namedB k 2) p2 (x / 2 ^ a4.toNat / 2 ^ a3.toNat % 2 ^ a2.toNat)) && dig (namedB k 3) p3 (x / 2 ^ a4.toNat % 2 ^ a3.toNat)) && dig (namedB k 4) p4 (x % 2 ^ a4.toNat))) (dig (namedB k 5) p5)]
    rw [count_two (fun x => (((dig (namedB k 0) p0 (x / 2 ^ a3.toNat / 2 ^ a2.toNat / 2 ^ a1.toNat) && dig (namedB k 1) p1 (x / 2 ^ a3.toNat / 2 ^ a2.toNat % 2 ^ a1.toNat)) &&
      dig (namedB k 2) p2 (x / 2 ^ a3.toNat % 2 ^ a2.toNat)) && dig (namedB k 3) p3 (x % 2 ^ a3.toNat))) (dig (namedB k 4) p4)]
    rw [count_two (fun x => ((dig (namedB k 0) p0 (x / 2 ^ a2.toNat / 2 ^ a1.toNat) && dig (namedB k 1) p1 (x / 2 ^ a2.toNat % 2 ^ a1.toNat)) &&
      dig (namedB k 2) p2 (x % 2 ^ a2.toNat))) (dig (namedB k 3) p3)]
    rw [count_two (fun x => (dig (namedB k 0) p0 (x / 2 ^ a1.toNat) && dig (namedB k 1) p1 (x % 2 ^ a1.toNat))) (dig (namedB k 2) p2)]
    rw [count_two (fun x => dig (namedB k 0) p0 x) (dig (namedB k 1) p1)]
    rw [dig_count _ _ _ ⟨hp.h0.1, by rw [← nat_pw]; exact hp.h0.2⟩, dig_count _ _ _ ⟨hp.h1.1, by rw [← nat_pw]; exact hp.h1.2⟩, dig_count _ _ _ ⟨hp.h2.1, by rw [← nat_pw]; exact hp.h2.2⟩,
      dig_count _ _ _ ⟨hp.h3.1, by rw [← nat_pw]; exact hp.h3.2⟩, dig_count _ _ _ ⟨hp.h4.1, by rw [← nat_pw]; exact hp.h4.2⟩, dig_count _ _ _ ⟨hp.h5.1, by rw [← nat_pw]; exact hp.h5.2⟩]
  rw [hcount]
  have hcases : k = 1 ∨ k = 2 ∨ k = 3 ∨ k = 4 ∨ k = 5 ∨ k = 6 := by omega
  rcases hcases with rfl | rfl | rfl | rfl | rfl | rfl <;> simp [namedB, freeBits]
  · rw [pw_n he.1 hf.1]
  · rw [pw_n (by omega) hf.1, pw_n hd.1 he.1]
  · rw [pw_n (by omega) hf.1, pw_n (by omega) he.1, pw_n hc.1 hd.1]
end Go.Proofs.YtaeockopliplfaaDoor
