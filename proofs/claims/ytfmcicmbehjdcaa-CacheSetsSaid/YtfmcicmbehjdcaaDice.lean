/- The stream of numbers: made.Mod, Light, Roll, (*Dice).Next, One. -/
import Derived.Test.YtfmcicmbehjdcaaBase
import Derived.Handy
namespace Go.Proofs.Ytfmcicmbehjdcaa
set_option linter.unusedSimpArgs false
set_option linter.unusedVariables false
open Go.RowKit

def modF (n m : Int) : Int := if m < 1 then 0 else if n.tmod m < 0 then wrap64 (n.tmod m + m) else n.tmod m
theorem modF_low {n m : Int} (h : m < 1) : modF n m = 0 := by simp [modF, h]
theorem modF_in {n m : Int} (h : 1 ≤ m) (hm : m ≤ 4611686018427387904) : 0 ≤ modF n m ∧ modF n m < m := by
  unfold modF
  rw [if_neg (by omega)]
  have h1 : n.tmod m < m := Int.tmod_lt_of_pos n (by omega)
  have h2 : -m < n.tmod m := by
    have := Int.lt_tmod_of_pos n (b := m) (by omega)
    omega
  split
  · rw [IntWalk.wrap64_in _ (by omega)]; omega
  · omega

set_option maxHeartbeats 400000 in
theorem mod_any (n m : Int) (w : World) :
    Calls Try.prog 13 #[.int .i64 n, .int .i64 m] w fun e w' => e = .returned (.int .i64 (modF n m)) ∧ w = w' := by
  go_enter Try.func13, Try.ntmps13
  go_wp2
  all_goals go_ret
  · exact ⟨ret_int (by simp [modF, *]), rfl⟩
  · rename_i h1 h2; exact ⟨ret_int (by unfold modF; rw [if_neg (by omega), if_pos h2]), rfl⟩
  · rename_i h1 h2; exact ⟨ret_int (by unfold modF; rw [if_neg (by omega), if_neg (by omega)]), rfl⟩

set_option maxHeartbeats 400000 in
theorem light_any (sa : Option Addr) (len cap : Nat) (hl : len ≤ maxLen) (w : World) :
    Calls Try.prog 8 #[.slice sa len cap] w fun e w' => e = .returned (.bool (decide (len ≤ 400))) ∧ w = w' := by
  unfold maxLen at hl
  go_enter Try.func8, Try.ntmps8
  go_wp2
  go_ret
  exact ⟨by simp; omega, rfl⟩

/-- What Next(n) gives out: from 0 to n - 1; 0 where n is less than 1. -/
def Nextly (n : Int) (v : Int) : Prop := 0 ≤ v ∧ (v < n ∨ v = 0)
theorem Nextly.lt {n v : Int} (h : Nextly n v) (hn : 1 ≤ n) : v < n := by unfold Nextly at h; omega

theorem modF_nextly {n m : Int} (hn : n ≤ 1099511627776) : Nextly n (modF m n) := by
  by_cases h : n < 1
  · rw [modF_low h]; exact ⟨Int.le_refl _, .inr rfl⟩
  · have := modF_in (n := m) (m := n) (by omega) (by omega)
    exact ⟨this.1, .inl this.2⟩

theorem dice_step {B b : Nat} {w : World} {sa : Option Addr} {len cap k : Nat} (hd : Dice B w b) (h1 : w.heap[b]? = some (.cells #[.slice sa len cap, .int .i64 k] 61 (0, 0))) (hk : k < len) (nq : Nat) :
    Dice B ((w.drewN nq).setCell ⟨b, 1, none⟩ (.int .i64 ((k : Int) + 1))) b := by
  obtain ⟨sa', len', cap', k', h0, h1', h2, h3, h4⟩ := hd
  rw [h1] at h1'
  simp at h1'
  obtain ⟨⟨rfl, rfl, rfl⟩, h5⟩ := h1'
  obtain rfl : k = k' := by omega
  refine ⟨sa, len, cap, k + 1, h0, ?_, by omega, h3, fun j hj => ?_⟩
  · show (w.heap.modify b _)[b]? = _
    rw [Array.getElem?_modify]; simp [h1]
  · obtain ⟨a, n, e, hlt, hc⟩ := h4 j hj
    refine ⟨a, n, e, hlt, ?_⟩
    rw [World.cell?_setCell_other (h := by intro e; have := congrArg Addr.block e; rw [block_add] at this; simp at this; omega)]
    exact hc

def NextPost (n : Int) (B b : Nat) (w : World) (e : Ending) (w' : World) : Prop := ∃ v : Int, e = .returned (.int .i64 v) ∧ Nextly n v ∧ Dice B w' b ∧ Chg b w w'

set_option maxHeartbeats 1000000 in
theorem next_any (n : Int) (hn : n ≤ 1099511627776) (B b : Nat) (w : World) (hd : Dice B w b) :
    Calls Try.prog 19 #[.pointer (some ⟨b, 0, none⟩), .int .i64 n] w (NextPost n B b w) := by
  have hd0 := hd
  obtain ⟨sa, len, cap, k, h0, h1, h2, h3, h4⟩ := hd
  have hc0 : w.cell? ⟨b, 0, none⟩ = some (.slice sa len cap) := by simp [World.cell?, h1]
  have hc1 : w.cell? ⟨b, 1, none⟩ = some (.int .i64 k) := by simp [World.cell?, h1]
  have hf : w.frozen? ⟨b, 1, none⟩ = false := by simp [World.frozen?, h1]
  have H1 := Lib.hid h1
  clear h1
  by_cases hk : k < len
  · obtain ⟨a, m, rfl, halt, hcell⟩ := h4 k hk
    have H4 := Lib.hid h4
    clear h4
    have hcell' : (w.setCell ⟨b, 1, none⟩ (.int .i64 ((k : Int) + 1))).cell? (a.add k) = some (.int .i64 m) := by
      rw [World.cell?_setCell_other (h := by intro e; have := congrArg Addr.block e; rw [block_add] at this; simp at this; omega)]
      exact hcell
    clear hcell
    have hnew := dice_step hd0 H1.out hk
    have hgeq : decide ((len : Int) ≤ (k : Int)) = false := by simp; omega
    go_enter Try.func19, Try.ntmps19
    go_wp2_with fail
    go_quiet (fail)
    go_wp2_with fail
    obtain ⟨w1, hw1⟩ : ∃ w1, w1 = (w.drewN nq).setCell ⟨b, 1, none⟩ (.int .i64 ((k : Int) + 1)) := ⟨_, rfl⟩
    have g0 : w1.cell? ⟨b, 0, none⟩ = some (.slice (some a) len cap) := by
      rw [hw1, World.cell?_setCell_other (h := by simp)]; exact hc0
    have g1 : w1.cell? ⟨b, 1, none⟩ = some (.int .i64 ((k : Int) + 1)) := by
      rw [hw1]; exact World.cell?_setCell_same _ _ _ hc1
    have g2 : w1.cell? (a.add k) = some (.int .i64 m) := by rw [hw1]; exact hcell'
    have g3 : Dice B w1 b := by
      rw [hw1]; exact hnew nq
    have g4 : Chg b w w1 := by
      rw [hw1]; exact ((Chg.refl b w).drewN nq).setCell (.inl rfl) _
    rw [← hw1]
    clear hw1 hc0 hc1 hf hcell' hnew hgeq
    have e1 : IntKind.i64.wrap (k : Int) = k := IntWalk.i64_in _ (by omega)
    have e2 : (0 : Int) ≤ (k : Int) := by omega
    have e3 : (k : Int) < (len : Int) := by omega
    go_quiet ((go_at_call 13; exact quiet_eq (mod_any _ _ _)))
    go_wp2_with fail
    go_ret
    exact ⟨_, rfl, modF_nextly hn, g3.drewN _, g4.drewN _⟩
  · obtain rfl : k = len := by omega
    have H4 := Lib.hid h4
    clear h4
    go_enter Try.func19, Try.ntmps19
    go_wp2_with fail
    go_quiet (fail)
    go_wp2_with fail
    go_ret
    exact ⟨0, rfl, ⟨Int.le_refl _, .inr rfl⟩, hd0.drewN _, (Chg.refl b w).drewN _⟩

def OnePost (B b : Nat) (w : World) (e : Ending) (w' : World) : Prop := ∃ v : Bool, e = .returned (.bool v) ∧ Dice B w' b ∧ Chg b w w'


/-- What Roll leaves: new dice behind all that was. -/
def RollPost (w : World) (e : Ending) (w' : World) : Prop := ∃ b : Nat, e = .returned (.pointer (some ⟨b, 0, none⟩)) ∧ Dice w.heap.size w' b ∧ Below w.heap.size w w' ∧ w.heap.size ≤ b

/-- A slice of ints in memory. -/
def Ints (w : World) (sa : Option Addr) (len : Nat) : Prop := ∀ j, j < len → ∃ a n, sa = some a ∧ w.cell? (a.add j) = some (.int .i64 n)

set_option maxHeartbeats 1000000 in
theorem roll_any (sa : Option Addr) (len cap : Nat) (hl : len ≤ 400) (w : World) (hi : Ints w sa len) :
    Calls Try.prog 11 #[.slice sa len cap] w (RollPost w) := by
  have HI := Lib.hid hi
  clear hi
  go_enter Try.func11, Try.ntmps11
  go_wp2_with fail
  go_ret
  have hb : Below w.heap.size w (w.alloc (.cells #[.slice sa len cap, .int .i64 0] 61 (0, 0))) := (Below.refl _ _).alloc (Nat.le_refl _) _
  refine ⟨w.heap.size, rfl, ⟨sa, len, cap, 0, Nat.le_refl _, ?_, Nat.zero_le _, hl, fun j hj => ?_⟩, hb, Nat.le_refl _⟩
  · show (w.heap.push _)[w.heap.size]? = _
    simp
  · obtain ⟨a, n, e, hc⟩ := HI.out j hj
    have hlt := World.block_lt_of_cell? (w := w) (a := a.add j) hc
    rw [block_add] at hlt
    exact ⟨a, n, e, hlt, (hb.cell (p := a.add j) (by rw [block_add]; exact hlt)).trans hc⟩

def RollPostB (B : Nat) (w : World) (e : Ending) (w' : World) : Prop := ∃ b : Nat, e = .returned (.pointer (some ⟨b, 0, none⟩)) ∧ Dice B w' b ∧ Below w.heap.size w w' ∧ w.heap.size ≤ b
set_option maxHeartbeats 1000000 in
/-- The same where the list lies below a block B that is given. -/
theorem roll_at (B : Nat) (sa : Option Addr) (len cap : Nat) (hl : len ≤ 400) (w : World) (hB : B ≤ w.heap.size) (hi : ∀ j, j < len → ∃ a n, sa = some a ∧ a.block < B ∧ w.cell? (a.add j) = some (.int .i64 n)) :
    Calls Try.prog 11 #[.slice sa len cap] w (RollPostB B w) := by
  have HI := Lib.hid hi
  clear hi
  go_enter Try.func11, Try.ntmps11
  go_wp2_with fail
  go_ret
  have hb : Below w.heap.size w (w.alloc (.cells #[.slice sa len cap, .int .i64 0] 61 (0, 0))) := (Below.refl _ _).alloc (Nat.le_refl _) _
  refine ⟨w.heap.size, rfl, ⟨sa, len, cap, 0, hB, ?_, Nat.zero_le _, hl, fun j hj => ?_⟩, hb, Nat.le_refl _⟩
  · show (w.heap.push _)[w.heap.size]? = _
    simp
  · obtain ⟨a, n, e, hlt, hc⟩ := HI.out j hj
    exact ⟨a, n, e, hlt, (hb.cell (p := a.add j) (by rw [block_add]; omega)).trans hc⟩
end Go.Proofs.Ytfmcicmbehjdcaa
