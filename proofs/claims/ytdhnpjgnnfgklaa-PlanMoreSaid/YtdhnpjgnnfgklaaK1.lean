/- Several texts in one: Base, Dice, Text, Float, Heap, Own. -/
import Derived.Test.YtdhnpjgnnfgklaaRows
import Derived.WalkKit
import Derived.WalkSpells
import Derived.WalkLawsBesides
import Derived.Deep.QuietTactic
import Derived.BigQuiet
import Derived.Deep.RegionHeld3
import Derived.Lib.Hide
import Derived.IntWalk
import Derived.Handy
import Derived.Orders
import Derived.Laws.Tables
import Derived.Great.BuildSlice
import Derived.Deep.AppendLies
/- Plain words on worlds, kept by all texts of this seat: a world in which one block alone may have turned; a stream of numbers in memory. -/
namespace Go.Proofs.Ytdhnpjgnnfgklaa
set_option linter.unusedSimpArgs false
set_option linter.unusedVariables false
open Go.RowKit

/-- Every block that was there is as it was, block b perhaps not. -/
structure Chg (b : Nat) (w w' : World) : Prop where
  os : w'.os = w.os
  tape : w'.tape = w.tape
  output : w'.output = w.output
  size : w.heap.size ≤ w'.heap.size
  block : ∀ k, k < w.heap.size → k ≠ b → w'.heap[k]? = w.heap[k]?

theorem Chg.refl (b : Nat) (w : World) : Chg b w w := ⟨rfl, rfl, rfl, Nat.le_refl _, fun _ _ _ => rfl⟩
theorem Chg.trans {b : Nat} {u v w : World} (h : Chg b u v) (k : Chg b v w) : Chg b u w :=
  ⟨k.os.trans h.os, k.tape.trans h.tape, k.output.trans h.output, Nat.le_trans h.size k.size, fun i hi hb => (k.block i (Nat.lt_of_lt_of_le hi h.size) hb).trans (h.block i hi hb)⟩
theorem Chg.drew {b : Nat} {u w : World} (h : Chg b u w) : Chg b u w.drew := ⟨h.os, h.tape, h.output, h.size, h.block⟩
theorem Chg.drewN {b : Nat} {u w : World} (h : Chg b u w) (n : Nat) : Chg b u (w.drewN n) := ⟨h.os, h.tape, h.output, h.size, h.block⟩
theorem Chg.alloc {b : Nat} {u w : World} (h : Chg b u w) (o : Obj) : Chg b u (w.alloc o) :=
  h.trans ⟨rfl, rfl, rfl, by simp, fun k hk _ => Below.heap_alloc _ _ _ hk⟩
theorem Chg.setCell {b : Nat} {u w : World} (h : Chg b u w) {p : Addr} (hp : p.block = b ∨ u.heap.size ≤ p.block) (x : Value) : Chg b u (w.setCell p x) := by
  refine ⟨h.os, h.tape, h.output, ?_, fun k hk hb => ?_⟩
  · simpa [World.setCell] using h.size
  · rw [Below.heap_setCell _ _ _ _ (by omega)]; exact h.block k hk hb
theorem Chg.below {b B : Nat} {u v w : World} (h : Below B u v) (k : Chg b v w) (hB : B ≤ b) (hs : B ≤ v.heap.size) : Below B u w :=
  h.trans ⟨k.os, k.tape, k.output, k.size, fun i hi => k.block i (by omega) (by omega)⟩
theorem Chg.of_below {b : Nat} {u w : World} (h : Below u.heap.size u w) : Chg b u w := ⟨h.os, h.tape, h.output, h.size, fun k hk _ => h.block k hk⟩
theorem Below.chg {b : Nat} {u v w : World} (h : Chg b u v) (k : Below v.heap.size v w) : Chg b u w := h.trans (Chg.of_below k)
theorem Chg.cell {b : Nat} {w w' : World} (h : Chg b w w') (k o : Nat) (hk : k < w.heap.size) (hb : k ≠ b) : w'.cell? ⟨k, o, none⟩ = w.cell? ⟨k, o, none⟩ := World.cell?_of_block (h.block k hk hb)
theorem Chg.frozen {b : Nat} {w w' : World} (h : Chg b w w') (k o : Nat) (hk : k < w.heap.size) (hb : k ≠ b) : w'.frozen? ⟨k, o, none⟩ = w.frozen? ⟨k, o, none⟩ := World.frozen?_of_block (h.block k hk hb)
theorem quiet_eq {P : Program} {f : FuncId} {args : Array Value} {w : World} {n : Nat} {v : Value} (h : Calls P f args (w.drewN n) fun e w' => e = .returned v ∧ w.drewN n = w') :
    Calls P f args (w.drewN n) fun e w'' => e = .returned v ∧ ∃ m, w'' = w.drewN m := h.mono fun _ _ ⟨he, hm⟩ => ⟨he, n, hm.symm⟩
theorem ret_int {k : IntKind} {a b : Int} (h : a = b) : Ending.returned (.int k a) = .returned (.int k b) := by rw [h]

/-- A stream of numbers (made.Dice) lies in block b, at or behind block B; its list lies below B. -/
def Dice (B : Nat) (w : World) (b : Nat) : Prop := ∃ (sa : Option Addr) (len cap k : Nat), B ≤ b ∧
  w.heap[b]? = some (.cells #[.slice sa len cap, .int .i64 k] 55 (0, 0)) ∧ k ≤ len ∧ len ≤ 400 ∧
    (∀ j, j < len → ∃ a n, sa = some a ∧ a.block < B ∧ w.cell? (a.add j) = some (.int .i64 n))

theorem block_add (a : Addr) (j : Nat) : (a.add j).block = a.block := by
  unfold Addr.add; split <;> rfl
theorem lt_of_heap {w : World} {b : Nat} {o : Obj} (h : w.heap[b]? = some o) : b < w.heap.size := by
  rcases Nat.lt_or_ge b w.heap.size with h' | h'
  · exact h'
  · simp [Array.getElem?_eq_none h'] at h

theorem Dice.of_blocks {B : Nat} {w w' : World} {b : Nat} (h : Dice B w b) (hb : w'.heap[b]? = w.heap[b]?) (hlow : ∀ k, k < B → k < w.heap.size → w'.heap[k]? = w.heap[k]?) : Dice B w' b := by
  obtain ⟨sa, len, cap, k, h0, h1, h2, h3, h4⟩ := h
  refine ⟨sa, len, cap, k, h0, hb.trans h1, h2, h3, fun j hj => ?_⟩
  obtain ⟨a, n, e, hlt, hc⟩ := h4 j hj
  refine ⟨a, n, e, hlt, ?_⟩
  have hs := World.block_lt_of_cell? (w := w) (a := a.add j) hc
  rw [← hc]
  exact World.cell?_of_block (hlow _ (by rw [block_add]; exact hlt) hs)

theorem Dice.lt {B : Nat} {w : World} {b : Nat} (h : Dice B w b) : b < w.heap.size := by
  obtain ⟨sa, len, cap, k, h0, h1, _⟩ := h
  exact lt_of_heap h1
theorem Dice.base {B : Nat} {w : World} {b : Nat} (h : Dice B w b) : B ≤ b := by
  obtain ⟨sa, len, cap, k, h0, h1, _⟩ := h
  exact h0
theorem Dice.below {B : Nat} {w w' : World} {b : Nat} (h : Dice B w b) (hb : Below w.heap.size w w') : Dice B w' b :=
  h.of_blocks (hb.block b h.lt) (fun k _ hk => hb.block k hk)
theorem Dice.drew {B : Nat} {w : World} {b : Nat} (h : Dice B w b) : Dice B w.drew b := h
theorem Dice.drewN {B : Nat} {w : World} {b : Nat} (h : Dice B w b) (n : Nat) : Dice B (w.drewN n) b := h
theorem Dice.alloc {B : Nat} {w : World} {b : Nat} (h : Dice B w b) (o : Obj) : Dice B (w.alloc o) b := h.below ((Below.refl _ _).alloc (Nat.le_refl _) _)
theorem Dice.setCell {B : Nat} {w : World} {b : Nat} (h : Dice B w b) {p : Addr} (hp : B ≤ p.block) (hne : p.block ≠ b) (x : Value) : Dice B (w.setCell p x) b :=
  h.of_blocks (Below.heap_setCell _ _ _ _ (by omega)) (fun k hk _ => Below.heap_setCell _ _ _ _ (by omega))

/-- Block n holds just these cells, not frozen. -/
def Blk (w : World) (n : Nat) (cs : Array Value) (t : TypeId) : Prop := w.heap[n]? = some (.cells cs t (0, 0))
theorem Blk.cell {w : World} {n : Nat} {cs : Array Value} {t : TypeId} (h : Blk w n cs t) : ∀ o, w.cell? ⟨n, o, none⟩ = cs[o]? := fun o => by
  unfold Blk at h; simp [World.cell?, h]
theorem Blk.free {w : World} {n : Nat} {cs : Array Value} {t : TypeId} (h : Blk w n cs t) : ∀ o, w.frozen? ⟨n, o, none⟩ = false := fun o => by
  unfold Blk at h; simp [World.frozen?, h]
theorem Blk.lt {w : World} {n : Nat} {cs : Array Value} {t : TypeId} (h : Blk w n cs t) : n < w.heap.size := lt_of_heap h
theorem Blk.chg {w w1 : World} {n b : Nat} {cs : Array Value} {t : TypeId} (h : Blk w n cs t) (hg : Chg b w w1) (hn : n ≠ b) : Blk w1 n cs t := (hg.block n h.lt hn).trans h
theorem Blk.below {w w1 : World} {n : Nat} {cs : Array Value} {t : TypeId} (h : Blk w n cs t) (hb : Below w.heap.size w w1) : Blk w1 n cs t := (hb.block n h.lt).trans h
theorem Blk.drew {w : World} {n : Nat} {cs : Array Value} {t : TypeId} (h : Blk w n cs t) : Blk w.drew n cs t := h
theorem Blk.drewN {w : World} {n : Nat} {cs : Array Value} {t : TypeId} (h : Blk w n cs t) (k : Nat) : Blk (w.drewN k) n cs t := h
theorem Blk.new (w : World) (cs : Array Value) (t : TypeId) : Blk (w.alloc (.cells cs t)) w.heap.size cs t := by
  show (w.heap.push _)[w.heap.size]? = _
  simp
theorem Blk.alloc {w : World} {n : Nat} {cs : Array Value} {t : TypeId} (h : Blk w n cs t) (o : Obj) : Blk (w.alloc o) n cs t := h.below ((Below.refl _ _).alloc (Nat.le_refl _) _)
theorem Blk.set {w : World} {n : Nat} {cs : Array Value} {t : TypeId} (h : Blk w n cs t) (i : Nat) (v : Value) : Blk (w.setCell ⟨n, i, none⟩ v) n (cs.setIfInBounds i v) t := by
  unfold Blk at *
  show (w.heap.modify n _)[n]? = _
  rw [Array.getElem?_modify]; simp [h]
theorem Blk.other {w : World} {n : Nat} {cs : Array Value} {t : TypeId} (h : Blk w n cs t) {p : Addr} (hp : n ≠ p.block) (v : Value) : Blk (w.setCell p v) n cs t := (Below.heap_setCell _ _ _ _ hp).trans h

theorem lt_more {a b n : Nat} (h : a < b) : (a < b + n) = True := eq_true (by omega)
theorem ne_more {a b n : Nat} (h : a < b) : (b + n = a) = False := eq_false (by omega)
theorem ne_more' {a b n : Nat} (h : a < b) : (a = b + n) = False := eq_false (by omega)
end Go.Proofs.Ytdhnpjgnnfgklaa

/- The stream of numbers: made.Mod, Light, Roll, (*Dice).Next, One. -/
namespace Go.Proofs.Ytdhnpjgnnfgklaa
set_option linter.unusedSimpArgs false
set_option linter.unusedVariables false
open Go.RowKit

def modF (n m : Int) : Int := if m < 1 then 0 else if n.tmod m < 0 then wrap64 (n.tmod m + m) else n.tmod m
theorem modF_low {n m : Int} (h : m < 1) : modF n m = 0 := by simp [modF, h]
theorem modF_in {n m : Int} (h : 1 ≤ m) (hm : m ≤ 4611686018427387904) : 0 ≤ modF n m ∧ modF n m < m := by
  unfold modF
  rw [if_neg (by omega)]
  have h1 : n.tmod m < m := Int.tmod_lt_of_pos n (by omega)
  have h2 : -m < n.tmod m := by
    have := Int.lt_tmod_of_pos n (b := m) (by omega)
    omega
  split
  · rw [IntWalk.wrap64_in _ (by omega)]; omega
  · omega

set_option maxHeartbeats 400000 in
theorem mod_any (n m : Int) (w : World) :
    Calls Try.prog 12 #[.int .i64 n, .int .i64 m] w fun e w' => e = .returned (.int .i64 (modF n m)) ∧ w = w' := by
  go_enter Try.func12, Try.ntmps12
  go_wp2
  all_goals go_ret
  · exact ⟨ret_int (by simp [modF, *]), rfl⟩
  · rename_i h1 h2; exact ⟨ret_int (by unfold modF; rw [if_neg (by omega), if_pos h2]), rfl⟩
  · rename_i h1 h2; exact ⟨ret_int (by unfold modF; rw [if_neg (by omega), if_neg (by omega)]), rfl⟩

set_option maxHeartbeats 400000 in
theorem light_any (sa : Option Addr) (len cap : Nat) (hl : len ≤ maxLen) (w : World) :
    Calls Try.prog 7 #[.slice sa len cap] w fun e w' => e = .returned (.bool (decide (len ≤ 400))) ∧ w = w' := by
  unfold maxLen at hl
  go_enter Try.func7, Try.ntmps7
  go_wp2
  go_ret
  exact ⟨by simp; omega, rfl⟩

/-- What Next(n) gives out: from 0 to n - 1; 0 where n is less than 1. -/
def Nextly (n : Int) (v : Int) : Prop := 0 ≤ v ∧ (v < n ∨ v = 0)
theorem Nextly.lt {n v : Int} (h : Nextly n v) (hn : 1 ≤ n) : v < n := by unfold Nextly at h; omega

theorem modF_nextly {n m : Int} (hn : n ≤ 1099511627776) : Nextly n (modF m n) := by
  by_cases h : n < 1
  · rw [modF_low h]; exact ⟨Int.le_refl _, .inr rfl⟩
  · have := modF_in (n := m) (m := n) (by omega) (by omega)
    exact ⟨this.1, .inl this.2⟩

theorem dice_step {B b : Nat} {w : World} {sa : Option Addr} {len cap k : Nat} (hd : Dice B w b) (h1 : w.heap[b]? = some (.cells #[.slice sa len cap, .int .i64 k] 55 (0, 0))) (hk : k < len) (nq : Nat) :
    Dice B ((w.drewN nq).setCell ⟨b, 1, none⟩ (.int .i64 ((k : Int) + 1))) b := by
  obtain ⟨sa', len', cap', k', h0, h1', h2, h3, h4⟩ := hd
  rw [h1] at h1'
  simp at h1'
  obtain ⟨⟨rfl, rfl, rfl⟩, h5⟩ := h1'
  obtain rfl : k = k' := by omega
  refine ⟨sa, len, cap, k + 1, h0, ?_, by omega, h3, fun j hj => ?_⟩
  · show (w.heap.modify b _)[b]? = _
    rw [Array.getElem?_modify]; simp [h1]
  · obtain ⟨a, n, e, hlt, hc⟩ := h4 j hj
    refine ⟨a, n, e, hlt, ?_⟩
    rw [World.cell?_setCell_other (h := by intro e; have := congrArg Addr.block e; rw [block_add] at this; simp at this; omega)]
    exact hc

def NextPost (n : Int) (B b : Nat) (w : World) (e : Ending) (w' : World) : Prop := ∃ v : Int, e = .returned (.int .i64 v) ∧ Nextly n v ∧ Dice B w' b ∧ Chg b w w'

set_option maxHeartbeats 1000000 in
theorem next_any (n : Int) (hn : n ≤ 1099511627776) (B b : Nat) (w : World) (hd : Dice B w b) :
    Calls Try.prog 23 #[.pointer (some ⟨b, 0, none⟩), .int .i64 n] w (NextPost n B b w) := by
  have hd0 := hd
  obtain ⟨sa, len, cap, k, h0, h1, h2, h3, h4⟩ := hd
  have hc0 : w.cell? ⟨b, 0, none⟩ = some (.slice sa len cap) := by simp [World.cell?, h1]
  have hc1 : w.cell? ⟨b, 1, none⟩ = some (.int .i64 k) := by simp [World.cell?, h1]
  have hf : w.frozen? ⟨b, 1, none⟩ = false := by simp [World.frozen?, h1]
  have H1 := Lib.hid h1
  clear h1
  by_cases hk : k < len
  · obtain ⟨a, m, rfl, halt, hcell⟩ := h4 k hk
    have H4 := Lib.hid h4
    clear h4
    have hcell' : (w.setCell ⟨b, 1, none⟩ (.int .i64 ((k : Int) + 1))).cell? (a.add k) = some (.int .i64 m) := by
      rw [World.cell?_setCell_other (h := by intro e; have := congrArg Addr.block e; rw [block_add] at this; simp at this; omega)]
      exact hcell
    clear hcell
    have hnew := dice_step hd0 H1.out hk
    have hgeq : decide ((len : Int) ≤ (k : Int)) = false := by simp; omega
    go_enter Try.func23, Try.ntmps23
    go_wp2_with fail
    go_quiet (fail)
    go_wp2_with fail
    obtain ⟨w1, hw1⟩ : ∃ w1, w1 = (w.drewN nq).setCell ⟨b, 1, none⟩ (.int .i64 ((k : Int) + 1)) := ⟨_, rfl⟩
    have g0 : w1.cell? ⟨b, 0, none⟩ = some (.slice (some a) len cap) := by
      rw [hw1, World.cell?_setCell_other (h := by simp)]; exact hc0
    have g1 : w1.cell? ⟨b, 1, none⟩ = some (.int .i64 ((k : Int) + 1)) := by
      rw [hw1]; exact World.cell?_setCell_same _ _ _ hc1
    have g2 : w1.cell? (a.add k) = some (.int .i64 m) := by rw [hw1]; exact hcell'
    have g3 : Dice B w1 b := by
      rw [hw1]; exact hnew nq
    have g4 : Chg b w w1 := by
      rw [hw1]; exact ((Chg.refl b w).drewN nq).setCell (.inl rfl) _
    rw [← hw1]
    clear hw1 hc0 hc1 hf hcell' hnew hgeq
    have e1 : IntKind.i64.wrap (k : Int) = k := IntWalk.i64_in _ (by omega)
    have e2 : (0 : Int) ≤ (k : Int) := by omega
    have e3 : (k : Int) < (len : Int) := by omega
    go_quiet ((go_at_call 12; exact quiet_eq (mod_any _ _ _)))
    go_wp2_with fail
    go_ret
    exact ⟨_, rfl, modF_nextly hn, g3.drewN _, g4.drewN _⟩
  · obtain rfl : k = len := by omega
    have H4 := Lib.hid h4
    clear h4
    go_enter Try.func23, Try.ntmps23
    go_wp2_with fail
    go_quiet (fail)
    go_wp2_with fail
    go_ret
    exact ⟨0, rfl, ⟨Int.le_refl _, .inr rfl⟩, hd0.drewN _, (Chg.refl b w).drewN _⟩

/-- A slice of ints in memory. -/
def Ints (w : World) (sa : Option Addr) (len : Nat) : Prop := ∀ j, j < len → ∃ a n, sa = some a ∧ w.cell? (a.add j) = some (.int .i64 n)

def RollPostB (B : Nat) (w : World) (e : Ending) (w' : World) : Prop := ∃ b : Nat, e = .returned (.pointer (some ⟨b, 0, none⟩)) ∧ Dice B w' b ∧ Below w.heap.size w w' ∧ w.heap.size ≤ b
set_option maxHeartbeats 1000000 in
/-- The same where the list lies below a block B that is given. -/
theorem roll_at (B : Nat) (sa : Option Addr) (len cap : Nat) (hl : len ≤ 400) (w : World) (hB : B ≤ w.heap.size) (hi : ∀ j, j < len → ∃ a n, sa = some a ∧ a.block < B ∧ w.cell? (a.add j) = some (.int .i64 n)) :
    Calls Try.prog 9 #[.slice sa len cap] w (RollPostB B w) := by
  have HI := Lib.hid hi
  clear hi
  go_enter Try.func9, Try.ntmps9
  go_wp2_with fail
  go_ret
  have hb : Below w.heap.size w (w.alloc (.cells #[.slice sa len cap, .int .i64 0] 55 (0, 0))) := (Below.refl _ _).alloc (Nat.le_refl _) _
  refine ⟨w.heap.size, rfl, ⟨sa, len, cap, 0, hB, ?_, Nat.zero_le _, hl, fun j hj => ?_⟩, hb, Nat.le_refl _⟩
  · show (w.heap.push _)[w.heap.size]? = _
    simp
  · obtain ⟨a, n, e, hlt, hc⟩ := HI.out j hj
    exact ⟨a, n, e, hlt, (hb.cell (p := a.add j) (by rw [block_add]; omega)).trans hc⟩
end Go.Proofs.Ytdhnpjgnnfgklaa

/- A region that draws its order, walked in the order of its text: which operations see no memory, and the theorem that one walk serves every order. -/
namespace Go.Proofs.Ytdhnpjgnnfgklaa
set_option linter.unusedSimpArgs false
set_option linter.unusedVariables false
open Go.RowKit

/-- The run of m is the same in every world, and leaves it alone. -/
def Steady {α : Type} (P : Program) (m : Sem α) : Prop := ∀ w w' x w1, m.run P w = .ok x w1 → w1 = w ∧ m.run P w' = .ok x w'

section
variable {α β : Type} {P : Program}
theorem Steady.pure (a : α) : Steady P (Pure.pure a : Sem α) := by
  intro w w' x w1 h
  simp only [Sem.run_pure, Result.ok.injEq] at h ⊢
  exact ⟨h.2.symm, h.1, trivial⟩
theorem Steady.halt (h : Halt) : Steady P (Sem.halt h : Sem α) := by
  intro w w' x w1 e
  simp at e
theorem Steady.stuck (s : String) : Steady P (stuck s : Sem α) := Steady.halt _
theorem Steady.unsupported (s : Unsupported) : Steady P (unsupported s : Sem α) := Steady.halt _
theorem Steady.program : Steady P (program : Sem Program) := by
  intro w w' x w1 h
  simp only [run_program, Result.ok.injEq] at h ⊢
  exact ⟨h.2.symm, h.1, trivial⟩
theorem Steady.bind {m : Sem α} {f : α → Sem β} (h : Steady P m) (k : ∀ a, Steady P (f a)) : Steady P (m >>= f) := by
  intro w w' x w1 e
  rw [Sem.run_bind] at e ⊢
  cases hm : m.run P w with
  | halt x w2 => rw [hm] at e; cases e
  | ok a w2 =>
    rw [hm] at e
    obtain ⟨rfl, h2⟩ := h w w' a w2 hm
    rw [h2]
    exact k a w2 w' x w1 e
theorem Steady.never {m : Sem α} (h : ∀ w x w1, m.run P w ≠ .ok x w1) : Steady P m := fun w _ x w1 e => absurd e (h w x w1)
theorem Steady.never_bind {m : Sem α} {f : α → Sem β} (h : ∀ w x w1, m.run P w ≠ .ok x w1) : Steady P (m >>= f) := Steady.never fun w x w1 e => by
  rw [Sem.run_bind] at e
  cases hm : m.run P w with
  | halt y w2 => rw [hm] at e; cases e
  | ok a w2 => exact h _ _ _ hm
theorem Steady.error (t : String) : Steady P (runtimePanic (.error t) : Sem α) := Steady.never fun w x w1 => by simp [runtimePanic]
theorem Steady.boundsPanic (k : IntKind) (x y : Int) (c : BoundsCode) : Steady P (boundsPanic k x y c : Sem α) := Steady.never fun w a w1 e => by
  obtain ⟨s, w', h⟩ := run_boundsPanic (α := α) (P := P) (w := w) k x y c
  rw [h] at e
  cases e
theorem Steady.typeInfo (t : TypeId) : Steady P (typeInfo t) := by
  unfold Go.typeInfo
  refine Steady.bind Steady.program fun p => ?_
  split
  · exact Steady.pure _
  · exact Steady.stuck _
theorem Steady.underlying (t : TypeId) : Steady P (underlying t) := by
  unfold Go.underlying
  refine Steady.bind Steady.program fun p => ?_
  split
  · exact Steady.pure _
  · exact Steady.stuck _
theorem Steady.sizeOf (t : TypeId) : Steady P (sizeOf t) := Steady.bind (Steady.typeInfo t) fun _ => Steady.pure _
theorem Steady.isAgg (t : TypeId) : Steady P (isAgg t) := by
  unfold Go.isAgg
  refine Steady.bind (Steady.underlying t) fun d => ?_
  split <;> exact Steady.pure _
theorem Steady.zeroValue (t : TypeId) : Steady P (zeroValue t) := by
  unfold Go.zeroValue
  refine Steady.bind (Steady.typeInfo t) fun d => ?_
  split
  · exact Steady.pure _
  · exact Steady.unsupported _
theorem Steady.asIntOf (v : Value) : Steady P (asIntOf v) := by
  unfold Go.asIntOf
  split
  · exact Steady.pure _
  · exact Steady.unsupported _
  · exact Steady.stuck _
theorem Steady.asBool (v : Value) : Steady P (asBool v) := by
  unfold Go.asBool
  split
  · exact Steady.pure _
  · exact Steady.stuck _
theorem Steady.asAgg (v : Value) : Steady P (asAgg v) := by
  unfold Go.asAgg
  split
  · exact Steady.pure _
  · exact Steady.stuck _
theorem Steady.part (t : TypeId) (cs : Array Value) (off : Nat) : Steady P (part t cs off) := by
  unfold Go.part
  refine Steady.bind (Steady.isAgg t) fun b => ?_
  split
  · exact Steady.bind (Steady.sizeOf t) fun _ => Steady.pure _
  · split
    · exact Steady.pure _
    · exact Steady.stuck _
theorem Steady.sureAddr (v : Value) : Steady P (Instr.sureAddr v) := by
  unfold Instr.sureAddr
  split
  · exact Steady.pure _
  · exact Steady.stuck _
theorem Steady.field (t : TypeId) (x : Value) (n : Nat) : Steady P (Instr.field t x n) := by
  unfold Instr.field
  refine Steady.bind (Steady.underlying t) fun d => ?_
  split
  · split
    · exact Steady.bind (Steady.asAgg x) fun _ => Steady.part _ _ _
    · exact Steady.stuck _
  · exact Steady.stuck _
theorem Steady.extract (x : Value) (n : Nat) : Steady P (Instr.extract x n) := by
  unfold Instr.extract
  split
  · split
    · exact Steady.pure _
    · exact Steady.stuck _
  · exact Steady.stuck _
theorem Steady.indexAt (t : TypeId) (x i : Value) : Steady P (Instr.indexAt t x i) := by
  unfold Instr.indexAt
  refine Steady.bind (Steady.asIntOf i) fun ki => ?_
  refine Steady.bind (Steady.underlying t) fun d => ?_
  dsimp only
  split
  · refine Steady.bind (Steady.sureAddr _) fun a => ?_
    simp only [pure_bind]
    refine Steady.bind (Steady.underlying t) fun d2 => ?_
    repeat' split
    all_goals first | exact Steady.bind (Steady.sizeOf _) fun _ => Steady.pure _ | exact Steady.unsupported _ | exact Steady.boundsPanic _ _ _ _
  · simp only [pure_bind]
    refine Steady.bind (Steady.underlying t) fun d2 => ?_
    repeat' split
    all_goals first | exact Steady.bind (Steady.sizeOf _) fun _ => Steady.pure _ | exact Steady.unsupported _ | exact Steady.boundsPanic _ _ _ _
  · exact Steady.never_bind fun w x w1 => by simp
theorem Steady.index (t : TypeId) (x i : Value) : Steady P (Instr.index t x i) := by
  unfold Instr.index
  refine Steady.bind (Steady.asIntOf i) fun ki => ?_
  refine Steady.bind (Steady.underlying t) fun d => ?_
  split
  · split
    · exact Steady.bind (Steady.sizeOf _) fun _ => Steady.part _ _ _
    · exact Steady.boundsPanic _ _ _ _
  · split
    · exact Steady.pure _
    · exact Steady.boundsPanic _ _ _ _
  · exact Steady.stuck _
theorem Steady.unary (op : UnOp) (x : Value) : Steady P (Op.unary op x) := by
  unfold Op.unary
  split <;> first | exact Steady.pure _ | exact Steady.stuck _ | exact Steady.unsupported _ | (unfold Op.intArith; split <;> first | exact Steady.pure _ | exact Steady.stuck _) | (unfold Op.intBits; split <;> first | exact Steady.pure _ | exact Steady.stuck _)
theorem Steady.convertInt (s d : TypeId) (k : IntKind) (n : Int) (hd : ∃ j, P.underlying d = some (.int j)) : Steady P (convert s d (.int k n)) := by
  obtain ⟨j, hd⟩ := hd
  unfold Go.convert
  refine Steady.bind (Steady.underlying s) fun a => ?_
  intro w w' x w1 h
  rw [Sem.run_bind, run_underlying hd] at h ⊢
  simp only [Result.andThen_ok] at h ⊢
  exact (show Steady P (Conv.intToInt j n) from Steady.pure _) w w' x w1 (by simpa using h)
theorem Steady.binInt (op : BinOp) (t : TypeId) (k j : IntKind) (a b : Int) : Steady P (binOp op t (.int k a) (.int j b)) := by
  have hsh : ∀ op, Steady P (Op.shift op k a j b) := fun op => by
    unfold Op.shift
    split
    · exact Steady.error _
    · dsimp only
      split <;> first | exact Steady.pure _ | exact Steady.stuck _
  have har : ∀ op, Steady P (Op.intArith op k a b) := fun op => by unfold Op.intArith; split <;> first | exact Steady.pure _ | exact Steady.stuck _
  have hdi : ∀ op, Steady P (Op.intDiv op k a b) := fun op => by
    unfold Op.intDiv; split
    · exact Steady.error _
    · split <;> first | exact Steady.pure _ | exact Steady.stuck _
  have hbi : ∀ op, Steady P (Op.intBits op k a b) := fun op => by unfold Op.intBits; split <;> first | exact Steady.pure _ | exact Steady.stuck _
  have hcm : ∀ op, Steady P (Op.intCmp op a b) := fun op => by unfold Op.intCmp; split <;> first | exact Steady.pure _ | exact Steady.stuck _
  cases op <;> simp only [binOp] <;> first | exact hsh _ | (split <;> first | exact Steady.stuck _ | exact har _ | exact hdi _ | exact hbi _ | exact hcm _)

/-- The field has cells of its own. -/
def fieldOk (P : Program) (s : TypeId) (f : Nat) : Bool :=
  match P.underlying s with
  | some (.struct fs) => match fs[f]? with
    | some fd => match P.info? fd.type with
      | some i => i.size != 0
      | none => true
    | none => true
  | _ => true
theorem Steady.fieldAt (s : TypeId) (x : Value) (f : Nat) (h : fieldOk P s f = true) : Steady P (Instr.fieldAt s x f) := by
  unfold Instr.fieldAt
  unfold fieldOk at h
  intro w w' y w1 e
  simp only [Sem.run_bind] at e ⊢
  cases hu : P.underlying s with
  | none => simp [Go.underlying, hu] at e
  | some d =>
    rw [hu] at h
    rw [run_underlying hu] at e ⊢
    simp only [Result.andThen_ok] at e ⊢
    cases d with
    | struct fs =>
      simp only at h e ⊢
      cases hf : fs[f]? with
      | none => rw [hf] at e; simp at e
      | some fd =>
        rw [hf] at h e
        simp only at h e ⊢
        have hp : ∀ a, Steady P (fieldPlace a fd) := fun a => by
          unfold fieldPlace
          intro v v' z v1 g
          rw [Sem.run_bind] at g ⊢
          cases hi : P.info? fd.type with
          | none => simp [Go.sizeOf, Go.typeInfo, hi] at g
          | some i =>
            rw [hi] at h
            have hz : i.size ≠ 0 := by simpa using h
            simp only [Go.sizeOf, Go.typeInfo, Sem.run_bind, run_program, hi, Result.andThen_ok, Sem.run_pure, hz, if_false, Result.ok.injEq] at g ⊢
            exact ⟨g.2.symm, g.1, trivial⟩
        exact (Steady.bind (Steady.sureAddr x) fun a => Steady.bind (hp a) fun b => Steady.pure _) w w' y w1 e
    | _ => simp at e
theorem Steady.mapM_go {γ δ : Type} (f : γ → Sem δ) (hf : ∀ x, Steady P (f x)) : ∀ (l : List γ), Steady P (l.mapM f) := by
  intro l
  induction l with
  | nil => exact Steady.pure _
  | cons x l ih => rw [List.mapM_cons]; exact Steady.bind (hf x) fun _ => Steady.bind ih fun _ => Steady.pure _
theorem Steady.build (t : TypeId) (parts : Array (Nat × Value)) : Steady P (Instr.build t parts) := by
  unfold Instr.build
  refine Steady.bind (Steady.zeroValue t) fun z => ?_
  refine Steady.bind (Steady.underlying t) fun d => ?_
  split
  · refine Steady.bind ?_ fun places => ?_
    · rw [Array.mapM_eq_mapM_toList]
      exact Steady.bind (Steady.mapM_go _ (fun f => Steady.bind (Steady.sizeOf _) fun _ => Steady.pure _) _) fun _ => Steady.pure _
    · split
      · exact Steady.pure _
      · exact Steady.stuck _
  · refine Steady.bind (Steady.sizeOf _) fun n => ?_
    split
    · exact Steady.pure _
    · exact Steady.stuck _
  · exact Steady.stuck _
theorem Steady.len (argTypes : Array TypeId) (ty : TypeId) (args : Array Value) (h : ∀ r, args[0]? ≠ some (.map r)) (h2 : ∀ r, args[0]? ≠ some (.chan r)) : Steady P (Builtin.len_ argTypes ty args) := by
  unfold Builtin.len_
  split
  · rename_i t x ht hx
    refine Steady.bind (Steady.underlying _) fun d => ?_
    split <;> first | exact Steady.pure _ | exact Steady.stuck _ | (exfalso; simp at hx; exact h _ hx.2) | (exfalso; simp at hx; exact h2 _ hx.2) | skip
    refine Steady.bind (Steady.underlying _) fun d => ?_
    split <;> first | exact Steady.pure _ | exact Steady.stuck _
  · exact Steady.stuck _
end

/-! ### One walk in the order of the text serves every order -/

/-- The blocks of St hold what they held in w0. -/
def Same (St : Nat → Prop) (w0 w : World) : Prop := ∀ k, St k → w.heap[k]? = w0.heap[k]?
theorem Same.refl (St : Nat → Prop) (w : World) : Same St w w := fun _ _ => rfl
/-- What stays true of memory while a region runs; it is so at the region's start. -/
structure SW where
  S : World → Prop
  w0 : World
  h0 : S w0
@[reducible] def SW.of (St : Nat → Prop) (w0 : World) : SW := ⟨Same St w0, w0, Same.refl _ _⟩

/-- Operations that may turn the world, or whose run is not the same at each place. -/
def effOp : Op → Bool
  | .move _ | .assign _ | .pick .. | .build .. | .load .. | .nilCheck _ | .binOp .. | .unOp .. | .convert .. | .slice .. | .fieldAddr .. | .field .. | .indexAddr .. | .index .. | .extract .. | .makeInterface .. | .lookup .. => false
  | .call { callee := .builtin .len, .. } => false
  | _ => true
def effAt (ops : Array Oper) (i : Nat) : Bool := ((ops[i]?).map fun o => effOp o.op).getD true

section
variable (P : Program) (ops : Array Oper) (σ : SW)
def YieldsS (o : Oper) (v : Value) (a : Act) : Prop := ∀ w, σ.S w → (execOp a.eval o).run P w = .ok (.value v) w
def stepT (i : Nat) (K : Act → World → Prop) (a : Act) (w : World) : Prop :=
  match ops[i]? with
  | none => K a w
  | some o => if Region.wanted o (yielded ops a.tmps) = true then
      (if effAt ops i = true then o.wp P a w (fun a' w' => σ.S w' ∧ K a' w') (fun _ _ _ => False) else ∃ v, YieldsS P σ o v a ∧ K (a.put o.dst v) w)
    else K (a.put o.dst undef) w
def wpT (Q : Act → World → Prop) : List Nat → Act → World → Prop
  | [], a, w => Q a w
  | i :: l, a, w => stepT P ops σ i (wpT Q l) a w
/-- Operation i, at the frame a, puts v and does no more. -/
def Puts (i : Nat) (o : Oper) (v : Value) (a : Act) : Prop :=
  (Region.wanted o (yielded ops a.tmps) = true ∧ effAt ops i = false ∧ YieldsS P σ o v a) ∨ (Region.wanted o (yielded ops a.tmps) = false ∧ v = undef)
end

section
variable {P : Program} {ops : Array Oper} {σ : SW}

theorem eval_tmps {a a' : Act} (h : a'.tmps = a.tmps) : a'.eval = a.eval := by
  funext x
  cases x <;> simp [Act.eval, h]

theorem wp_info {o : Oper} {a : Act} {w : World} {K : Act → World → Prop} {F : Exit → Act → World → Prop} (h : o.wp P a w K F) :
    o.wp P a w (fun a' w' => (∃ u, a'.tmps = (a.put o.dst u).tmps) ∧ K a' w') F := by
  unfold Oper.wp at *
  generalize (execOp a.eval o).run P w = r at *
  cases r with
  | ok n w' =>
    cases n <;> simp only [Oper.upon] at h ⊢
    case value v => exact ⟨⟨v, rfl⟩, h⟩
    case skip => exact ⟨⟨undef, rfl⟩, h⟩
    case defer d => exact ⟨⟨undef, by cases o.dst <;> rfl⟩, h⟩
    case enter f args =>
      refine Calls.mono h fun e w'' he => ?_
      cases e with
      | returned v => exact ⟨⟨v, rfl⟩, he⟩
      | panicked c => exact he
      | outgrown => exact he
    case row row args =>
      refine Rows.mono h fun v w'' he => ?_
      exact ⟨⟨v, rfl⟩, he⟩
  | halt x w' => cases x <;> simp only [Oper.upon] at h ⊢ <;> exact h

theorem wp_wit {o : Oper} {a : Act} {w : World} {K : Act → World → Prop} (h : o.wp P a w K fun _ _ _ => False) : ∃ a' w', K a' w' := by
  unfold Oper.wp at h
  generalize (execOp a.eval o).run P w = r at h
  cases r with
  | ok n w' =>
    cases n <;> simp only [Oper.upon] at h
    case value v => exact ⟨_, _, h⟩
    case skip => exact ⟨_, _, h⟩
    case defer d => exact ⟨_, _, h⟩
    case enter f args =>
      obtain ⟨e, w'', fr, hR, _⟩ := h []
      cases e with
      | returned v => exact ⟨_, _, hR⟩
      | panicked c => exact hR.elim
      | outgrown => obtain ⟨_, _, hf⟩ := hR; exact hf.elim
    case row row args =>
      obtain ⟨v, w'', hR, _⟩ := h default []
      exact ⟨_, _, hR⟩
  | halt x w' => cases x <;> simp only [Oper.upon] at h

theorem wp_false {o : Oper} {a : Act} {w : World} {K : Act → World → Prop} {Q : Exit → Act → World → Prop} (h : o.wp P a w K fun _ _ _ => False) : o.wp P a w K Q := by
  unfold Oper.wp at *
  generalize (execOp a.eval o).run P w = r at *
  cases r with
  | ok n w' =>
    cases n <;> simp only [Oper.upon] at h ⊢ <;> first
      | exact h
      | exact Calls.mono h (fun e w'' he => by
          cases e with
          | returned v => exact he
          | panicked c => exact he.elim
          | outgrown => obtain ⟨_, _, hf⟩ := he; exact hf.elim)
  | halt x w' => cases x <;> simp only [Oper.upon] at h ⊢

theorem wp_put {o : Oper} (hs : ∀ cs b, o.op ≠ .select cs b) {d : Option Tmp} (h1 : ∀ t, d = some t → t ∉ o.looksAt ops) (h2 : ∀ t, d = some t → o.dst ≠ some t) (v : Value) {a : Act} {w : World} {K : Act → World → Prop} :
    o.wp P (a.put d v) w K (fun _ _ _ => False) ↔ o.wp P a w (fun a' w' => K (a'.put d v) w') (fun _ _ _ => False) := by
  unfold Oper.wp
  rw [execOp_put (ops := ops) o hs a d v h1]
  generalize (execOp a.eval o).run P w = r
  cases r with
  | ok n w' =>
    cases n <;> simp only [Oper.upon]
    case value u => rw [Act.put_comm a v u h2]
    case skip => rw [Act.put_comm a v undef h2]
    case defer e => rw [Act.put_defers, Act.put_comm _ v undef h2]
    case enter f args =>
      constructor <;> intro h <;> refine Calls.mono h fun e w'' he => ?_
      · cases e with
        | returned u => simp only at he ⊢; rw [← Act.put_comm a v u h2]; exact he
        | panicked c => exact he
        | outgrown => exact he
      · cases e with
        | returned u => simp only at he ⊢; rw [Act.put_comm a v u h2]; exact he
        | panicked c => exact he
        | outgrown => exact he
    case row row args =>
      constructor <;> intro h <;> refine Rows.mono h fun u w'' he => ?_
      · rw [← Act.put_comm a v u h2]; exact he
      · rw [Act.put_comm a v u h2]; exact he
  | halt x w' => cases x <;> simp only [Oper.upon]

theorem YieldsS.of_same {o : Oper} {v : Value} {a a' : Act} (h : YieldsS P σ o v a) (e : execOp a'.eval o = execOp a.eval o) : YieldsS P σ o v a' := fun w hw => by rw [e]; exact h w hw
theorem YieldsS.uniq {o : Oper} {u v : Value} {a : Act} (h : YieldsS P σ o u a) (k : YieldsS P σ o v a) : u = v := by
  have h1 := h σ.w0 σ.h0
  rw [k σ.w0 σ.h0] at h1
  simp only [Result.ok.injEq, Next.value.injEq] at h1
  exact h1.1.symm

theorem stepT_mono {i : Nat} {K K' : Act → World → Prop} (hk : ∀ a w, K a w → K' a w) {a : Act} {w : World} (h : stepT P ops σ i K a w) : stepT P ops σ i K' a w := by
  unfold stepT at *
  split
  · rename_i ho; rw [ho] at h; exact hk _ _ h
  · rename_i o ho
    rw [ho] at h
    simp only at h
    split
    · rename_i hw
      rw [if_pos hw] at h
      split
      · rename_i he; rw [if_pos he] at h; exact Oper.wp_mono (fun a w h => ⟨h.1, hk _ _ h.2⟩) h
      · rename_i he; rw [if_neg he] at h; obtain ⟨v, h1, h2⟩ := h; exact ⟨v, h1, hk _ _ h2⟩
    · rename_i hw; rw [if_neg hw] at h; exact hk _ _ h

theorem Puts.step {i : Nat} {o : Oper} (hi : ops[i]? = some o) {v : Value} {a : Act} (h : Puts P ops σ i o v a) {K : Act → World → Prop} {w : World} (hK : K (a.put o.dst v) w) : stepT P ops σ i K a w := by
  unfold stepT
  rw [hi]
  simp only
  rcases h with ⟨h1, h2, h3⟩ | ⟨h1, rfl⟩
  · rw [if_pos h1, if_neg (by rw [h2]; simp)]; exact ⟨v, h3, hK⟩
  · rw [if_neg (by rw [h1]; simp)]; exact hK

theorem stepT_put {j : Nat} {oj : Oper} (hj : ops[j]? = some oj) (hs : ∀ cs b, oj.op ≠ .select cs b) {d : Option Tmp} (h1 : ∀ t, d = some t → t ∉ oj.looksAt ops) (h2 : ∀ t, d = some t → oj.dst ≠ some t) (v : Value) {a : Act} {w : World} {K : Act → World → Prop} :
    stepT P ops σ j K (a.put d v) w ↔ stepT P ops σ j (fun a' w' => K (a'.put d v) w') a w := by
  unfold stepT
  rw [hj]
  simp only
  rw [wanted_put oj a d v h1]
  have hy : ∀ u, YieldsS P σ oj u (a.put d v) ↔ YieldsS P σ oj u a := fun u =>
    ⟨fun h => h.of_same (execOp_put oj hs a d v h1).symm, fun h => h.of_same (execOp_put oj hs a d v h1)⟩
  split
  · split
    · exact wp_put hs h1 h2 v
    · constructor
      · rintro ⟨u, hu, hk⟩; exact ⟨u, (hy u).1 hu, by rw [← Act.put_comm a v u h2]; exact hk⟩
      · rintro ⟨u, hu, hk⟩; exact ⟨u, (hy u).2 hu, by rw [Act.put_comm a v u h2]; exact hk⟩
  · rw [Act.put_comm a v undef h2]

theorem stepT_info {j : Nat} {oj : Oper} (hj : ops[j]? = some oj) {K : Act → World → Prop} {a : Act} {w : World} (h : stepT P ops σ j K a w) :
    stepT P ops σ j (fun a' w' => (∃ u, a'.tmps = (a.put oj.dst u).tmps) ∧ K a' w') a w := by
  unfold stepT at *
  rw [hj] at h ⊢
  simp only at h ⊢
  split
  · rename_i hw
    rw [if_pos hw] at h
    split
    · rename_i he; rw [if_pos he] at h; exact Oper.wp_mono (fun a w h => ⟨h.2.1, h.1, h.2.2⟩) (wp_info h)
    · rename_i he; rw [if_neg he] at h; obtain ⟨v, h1, h2⟩ := h; exact ⟨v, h1, ⟨v, rfl⟩, h2⟩
  · rename_i hw; rw [if_neg hw] at h; exact ⟨⟨undef, rfl⟩, h⟩

theorem exec_tmps {o : Oper} (hs : ∀ cs b, o.op ≠ .select cs b) {a a' : Act} {d : Option Tmp} {u : Value} (ht : a'.tmps = (a.put d u).tmps) (h : ∀ t, d = some t → t ∉ o.looksAt ops) : execOp a'.eval o = execOp a.eval o := by
  rw [eval_tmps ht]; exact execOp_put o hs a d u h

theorem Puts.move {i : Nat} {o : Oper} (hs : ∀ cs b, o.op ≠ .select cs b) {v : Value} {a a' : Act} (hp : Puts P ops σ i o v a) {d : Option Tmp} {u : Value} (ht : a'.tmps = (a.put d u).tmps) (h : ∀ t, d = some t → t ∉ o.looksAt ops) : Puts P ops σ i o v a' := by
  unfold Puts at *
  have hw : Region.wanted o (yielded ops a'.tmps) = Region.wanted o (yielded ops a.tmps) := by rw [ht]; exact wanted_put o a d u h
  rw [hw]
  rcases hp with ⟨h1, h2, h3⟩ | h1
  · exact .inl ⟨h1, h2, h3.of_same (exec_tmps hs ht h)⟩
  · exact .inr h1

theorem swap {i j : Nat} {oi oj : Oper} (hi : ops[i]? = some oi) (hj : ops[j]? = some oj) (hsi : ∀ cs b, oi.op ≠ .select cs b) (hsj : ∀ cs b, oj.op ≠ .select cs b)
    (hap : oi.apart ops oj = true) (heff : ¬ (effAt ops i = true ∧ effAt ops j = true)) {K : Act → World → Prop} {a : Act} {w : World}
    (h : stepT P ops σ i (stepT P ops σ j K) a w) : stepT P ops σ j (stepT P ops σ i K) a w := by
  obtain ⟨a1, a2, a3⟩ := Oper.apart_spec hap
  by_cases hp : ∃ v, Puts P ops σ i oi v a ∧ stepT P ops σ j K (a.put oi.dst v) w
  · obtain ⟨v, hv, hk⟩ := hp
    have h2 := stepT_info hj ((stepT_put hj hsj a1 a2 v).1 hk)
    refine stepT_mono (fun a' w' hh => ?_) h2
    obtain ⟨⟨u, hu⟩, hk'⟩ := hh
    exact (hv.move hsi hu a3).step hi hk'
  · -- i turns the world
    have hw : Region.wanted oi (yielded ops a.tmps) = true ∧ effAt ops i = true := by
      unfold stepT at h
      rw [hi] at h
      simp only at h
      by_cases hwi : Region.wanted oi (yielded ops a.tmps) = true
      · rw [if_pos hwi] at h
        by_cases he : effAt ops i = true
        · exact ⟨hwi, he⟩
        · rw [if_neg he] at h
          obtain ⟨v, h1, h2⟩ := h
          exact absurd ⟨v, .inl ⟨hwi, by simpa using he, h1⟩, h2⟩ hp
      · rw [if_neg hwi] at h
        exact absurd ⟨undef, .inr ⟨by simpa using hwi, rfl⟩, h⟩ hp
    have hej : effAt ops j = false := by
      cases hh : effAt ops j with
      | false => rfl
      | true => exact absurd ⟨hw.2, hh⟩ heff
    have h0 := stepT_info hi h
    have hput : ∀ v, (∀ a' w', (∃ u, a'.tmps = (a.put oi.dst u).tmps) ∧ stepT P ops σ j K a' w' → K (a'.put oj.dst v) w') → stepT P ops σ i K (a.put oj.dst v) w := fun v hv =>
      (stepT_put hi hsi (d := oj.dst) a3 (fun t ht hh => a2 t hh ht) v).2 (stepT_mono hv h0)
    by_cases hwj : Region.wanted oj (yielded ops a.tmps) = true
    · -- the value that j yields
      have hin : ∀ a' w', (∃ u, a'.tmps = (a.put oi.dst u).tmps) ∧ stepT P ops σ j K a' w' → ∃ v, YieldsS P σ oj v a ∧ K (a'.put oj.dst v) w' := by
        rintro a' w' ⟨⟨u, hu⟩, hk⟩
        unfold stepT at hk
        rw [hj] at hk
        simp only at hk
        have hwj' : Region.wanted oj (yielded ops a'.tmps) = true := by rw [hu, wanted_put oj a oi.dst u a1]; exact hwj
        rw [if_pos hwj', if_neg (by rw [hej]; simp)] at hk
        obtain ⟨v, h1, h2⟩ := hk
        exact ⟨v, h1.of_same (exec_tmps hsj hu a1).symm, h2⟩
      have hwit : ∃ a' w', (∃ u, a'.tmps = (a.put oi.dst u).tmps) ∧ stepT P ops σ j K a' w' := by
        unfold stepT at h0
        rw [hi] at h0
        simp only at h0
        rw [if_pos hw.1, if_pos hw.2] at h0
        obtain ⟨a', w', _, hh⟩ := wp_wit h0
        exact ⟨a', w', hh⟩
      obtain ⟨a', w', hh⟩ := hwit
      obtain ⟨v, hv, _⟩ := hin a' w' hh
      refine Puts.step hj (.inl ⟨hwj, hej, hv⟩) (hput v fun a' w' hh => ?_)
      obtain ⟨v', hv', hk⟩ := hin a' w' hh
      rw [hv.uniq hv']
      exact hk
    · refine Puts.step hj (.inr ⟨by simpa using hwj, rfl⟩) (hput undef fun a' w' hh => ?_)
      obtain ⟨⟨u, hu⟩, hk⟩ := hh
      unfold stepT at hk
      rw [hj] at hk
      simp only at hk
      rw [hu, wanted_put oj a oi.dst u a1, if_neg hwj] at hk
      exact hk

theorem front {Q : Act → World → Prop} {j : Nat} {oj : Oper} (hj : ops[j]? = some oj) (hsel : ∀ (j : Nat) (o : Oper) cs b, ops[j]? = some o → o.op ≠ .select cs b) (l2 : List Nat) :
    ∀ (l1 : List Nat), (∀ i ∈ l1, ∃ oi, ops[i]? = some oi ∧ oi.apart ops oj = true ∧ ¬ (effAt ops i = true ∧ effAt ops j = true)) → ∀ (a : Act) (w : World),
      wpT P ops σ Q (l1 ++ j :: l2) a w → stepT P ops σ j (wpT P ops σ Q (l1 ++ l2)) a w := by
  intro l1
  induction l1 with
  | nil => intro _ a w h; exact h
  | cons i l1 ih =>
    intro hall a w h
    obtain ⟨oi, hi, hap, heff⟩ := hall i (by simp)
    have h1 : stepT P ops σ i (stepT P ops σ j (wpT P ops σ Q (l1 ++ l2))) a w :=
      stepT_mono (fun a' w' hh => ih (fun k hk => hall k (by simp [hk])) a' w' hh) h
    exact swap hi hj (fun cs b => hsel i oi cs b hi) (fun cs b => hsel j oj cs b hj) hap heff h1
end

def certOk (ops : Array Oper) (cert : Array Nat) : Bool := (List.range ops.size).all fun j => match ops[j]? with
  | none => true
  | some oj => (oj.after.all fun e => !Region.binds .any e || decide (e.on < j)) && (List.range j).all fun i =>
      if (cert.getD j 0).testBit i then oj.after.any (fun e => Region.binds .any e && (e.on == i || (decide (i < e.on) && (cert.getD e.on 0).testBit i)))
      else match ops[i]? with
        | none => true
        | some oi => oi.apart ops oj && !(effAt ops i && effAt ops j)

section
variable {P : Program} {ops : Array Oper} {σ : SW}

def Closed (ops : Array Oper) (listed : Array Bool) : Prop := ∀ (k : Nat) (o : Oper), ops[k]? = some o → listed.getD k false = true → ∀ e ∈ o.after, Region.binds .any e = true → listed.getD e.on false = true

theorem cert_at {cert : Array Nat} (hc : certOk ops cert = true) {j : Nat} {oj : Oper} (hj : ops[j]? = some oj) :
    (∀ e ∈ oj.after, Region.binds .any e = true → e.on < j) ∧ ∀ i, i < j → ((cert.getD j 0).testBit i = true ∧ ∃ e ∈ oj.after, Region.binds .any e = true ∧ (e.on = i ∨ (i < e.on ∧ (cert.getD e.on 0).testBit i = true))) ∨
      ((cert.getD j 0).testBit i = false ∧ ∀ oi, ops[i]? = some oi → oi.apart ops oj = true ∧ ¬ (effAt ops i = true ∧ effAt ops j = true)) := by
  have hlt : j < ops.size := (Array.getElem?_eq_some_iff.1 hj).1
  unfold certOk at hc
  rw [List.all_eq_true] at hc
  have h := hc j (List.mem_range.2 hlt)
  rw [hj] at h
  simp only [Bool.and_eq_true] at h
  obtain ⟨h1, h2⟩ := h
  rw [List.all_eq_true] at h2
  refine ⟨fun e he hb => ?_, fun i hi => ?_⟩
  · have := Array.all_eq_true_iff_forall_mem.1 h1 e he
    simpa [hb] using this
  · have h3 := h2 i (List.mem_range.2 hi)
    by_cases hb : (cert.getD j 0).testBit i = true
    · rw [if_pos hb] at h3
      refine .inl ⟨hb, ?_⟩
      obtain ⟨e, he, hx⟩ := Array.any_eq_true'.1 h3
      refine ⟨e, he, ?_⟩
      simpa using hx
    · rw [if_neg hb] at h3
      refine .inr ⟨by simpa using hb, fun oi hoi => ?_⟩
      rw [hoi] at h3
      simp only [Bool.and_eq_true, Bool.not_eq_true', Bool.and_eq_false_iff] at h3
      refine ⟨h3.1, fun hh => ?_⟩
      rcases h3.2 with h | h
      · rw [hh.1] at h; cases h
      · rw [hh.2] at h; cases h

theorem cert_listed {cert : Array Nat} (hc : certOk ops cert = true) {listed : Array Bool} (hcl : Closed ops listed) :
    ∀ (n j : Nat) (oj : Oper), j ≤ n → ops[j]? = some oj → (∀ e ∈ oj.after, Region.binds .any e = true → listed.getD e.on false = true) → ∀ i, i < j → (cert.getD j 0).testBit i = true → listed.getD i false = true := by
  intro n
  induction n with
  | zero => intro j oj hj _ _ i hi; omega
  | succ n ih =>
    intro j oj hjn hj hall i hi hb
    obtain ⟨hback, hcase⟩ := cert_at hc hj
    rcases hcase i hi with ⟨_, e, he, hbd, h⟩ | ⟨h, _⟩
    · have hl := hall e he hbd
      rcases h with h | ⟨h1, h2⟩
      · rw [← h]; exact hl
      · have hej := hback e he hbd
        have hlt : j < ops.size := (Array.getElem?_eq_some_iff.1 hj).1
        have heo : ops[e.on]? = some (ops[e.on]'(by omega)) := Array.getElem?_eq_getElem (by omega)
        exact ih e.on _ (by omega) heo (hcl e.on _ heo hl) i h1 h2
    · rw [h] at hb; cases hb

theorem stepT_op {Q' : Exit → Act → World → Prop} {j : Nat} {K : Act → World → Prop} {a : Act} {w : World} (hs : σ.S w) (h : stepT P ops σ j K a w) :
    wpOp P ops Q' j (fun a' w' => σ.S w' ∧ K a' w') a w := by
  unfold stepT at h
  unfold wpOp
  cases ho : ops[j]? with
  | none => rw [ho] at h; exact ⟨hs, h⟩
  | some o =>
    rw [ho] at h
    simp only at h ⊢
    split
    · rename_i hw
      rw [if_pos hw] at h
      refine .inl ?_
      by_cases he : effAt ops j = true
      · rw [if_pos he] at h; exact wp_false h
      · rw [if_neg he] at h
        obtain ⟨v, h1, h2⟩ := h
        simp only [Oper.wp, h1 w hs, Oper.upon]
        exact ⟨hs, h2⟩
    · rename_i hw; rw [if_neg hw] at h; exact ⟨hs, h⟩

theorem text_sound {cert : Array Nat} (hc : certOk ops cert = true) (hsel : Region.noSelect ops = true) {Q : Act → World → Prop} {Q' : Exit → Act → World → Prop} (hQ : ∀ a w, Q a w → Q' .normal a w) :
    ∀ (fuel : Nat) (l : List Nat) (listed : Array Bool) (a : Act) (w : World), l.length ≤ fuel → (∀ i, i ∈ l ↔ i < ops.size ∧ listed.getD i true = false) → l.Pairwise (· < ·) →
      Closed ops listed → listed.size = ops.size → σ.S w → wpT P ops σ Q l a w → wpAny P .any ops Q' fuel listed a w := by
  intro fuel
  induction fuel with
  | zero =>
    intro l listed a w hl hmem _ _ _ _ h
    have hnil : l = [] := List.eq_nil_of_length_eq_zero (by omega)
    subst hnil
    refine ⟨?_, hQ _ _ h⟩
    refine List.eq_nil_iff_forall_not_mem.2 fun j hj => ?_
    obtain ⟨h0, o, ho, _⟩ := mem_ready.1 hj
    have := (hmem j).2 ⟨(Array.getElem?_eq_some_iff.1 ho).1, h0⟩
    cases this
  | succ fuel ih =>
    intro l listed a w hl hmem hpw hcl hsz hs h
    have hunl : ∀ i, i < ops.size → i ∉ l → listed.getD i false = true := fun i hi hn => by
      have h1 : ¬ listed.getD i true = false := fun hh => hn ((hmem i).2 ⟨hi, hh⟩)
      have hi' : i < listed.size := by omega
      simp [hi'] at h1 ⊢
      exact h1
    refine ⟨fun hr => ?_, fun j hj => ?_⟩
    · cases l with
      | nil => exact hQ _ _ h
      | cons i l =>
        exfalso
        obtain ⟨hi, hi0⟩ := (hmem i).1 (by simp)
        have hio : ops[i]? = some ops[i] := Array.getElem?_eq_getElem hi
        have : i ∈ Region.ready .any ops listed := mem_ready.2 ⟨hi0, _, hio, fun e he hb => by
          have hlt := (cert_at hc hio).1 e he hb
          refine hunl e.on (by omega) fun hin => ?_
          rcases List.mem_cons.1 hin with h | h
          · omega
          · have := (List.pairwise_cons.1 hpw).1 _ h; omega⟩
        rw [hr] at this
        cases this
    · obtain ⟨h0, oj, hoj, hall⟩ := mem_ready.1 hj
      have hjlt : j < ops.size := (Array.getElem?_eq_some_iff.1 hoj).1
      obtain ⟨l1, l2, rfl⟩ := List.append_of_mem ((hmem j).2 ⟨hjlt, h0⟩)
      have hpw' := List.pairwise_append.1 hpw
      have hsel' := Region.noSelect_spec hsel
      have hfront := front (P := P) (σ := σ) hoj hsel' l2 l1 (fun i hi => by
        have hij : i < j := hpw'.2.2 i hi j (by simp)
        have hio : ops[i]? = some (ops[i]'(by omega)) := Array.getElem?_eq_getElem (by omega)
        rcases (cert_at hc hoj).2 i hij with ⟨hb, _⟩ | ⟨_, h⟩
        · exfalso
          have h1 := cert_listed hc hcl j j oj (Nat.le_refl _) hoj hall i hij hb
          have h2 := ((hmem i).1 (by simp [hi])).2
          have hi' : i < listed.size := by omega
          simp [hi'] at h1 h2
          rw [h1] at h2; cases h2
        · exact ⟨_, hio, h _ hio⟩) a w h
      refine wpOp_mono (fun a' w' hh => ?_) (stepT_op hs hfront)
      refine ih (l1 ++ l2) _ a' w' (by simp at hl ⊢; omega) (fun i => ?_) ?_ ?_ (by simpa using hsz) hh.1 hh.2
      · have hne : ∀ i, i ∈ l1 ++ l2 → i ≠ j := fun i hi e => by
          subst e
          rcases List.mem_append.1 hi with h | h
          · have := hpw'.2.2 i h i (by simp); omega
          · have := (List.pairwise_cons.1 hpw'.2.1).1 i h; omega
        constructor
        · intro hi
          obtain ⟨h1, h2⟩ := (hmem i).1 (by rcases List.mem_append.1 hi with h | h <;> simp [h])
          exact ⟨h1, by rw [getD_set_ne true (Ne.symm (hne i hi))]; exact h2⟩
        · rintro ⟨h1, h2⟩
          have hij : i ≠ j := fun e => by subst e; simp [show i < listed.size by omega] at h2
          rw [getD_set_ne true (Ne.symm hij)] at h2
          have := (hmem i).2 ⟨h1, h2⟩
          rcases List.mem_append.1 this with h | h
          · simp [h]
          · rcases List.mem_cons.1 h with h | h
            · exact absurd h hij
            · simp [h]
      · refine List.pairwise_append.2 ⟨hpw'.1, (List.pairwise_cons.1 hpw'.2.1).2, fun x hx y hy => hpw'.2.2 x hx y (by simp [hy])⟩
      · intro k o hk hlk e he hb
        by_cases hkj : k = j
        · subst hkj
          rw [hoj] at hk
          cases hk
          exact getD_set_true (hall e he hb)
        · rw [getD_set_ne false (Ne.symm hkj)] at hlk
          exact getD_set_true (hcl k o hk hlk e he hb)

theorem wp_region_text {id : Nat} {a : Act} {w : World} (hm : P.follows .mixedOrders = true) {cert : Array Nat} (hc : certOk ops cert = true) (hsel : Region.noSelect ops = true) (hσ : σ.S w.drew) {Q' : Exit → Act → World → Prop}
    (h : wpT P ops σ (fun a w => Q' .normal a w) (List.range ops.size) a w.drew) : (Code.region id ops true).wp P Q' a w := by
  refine wp_region_any hm (text_sound hc hsel (fun _ _ h => h) ops.size (List.range ops.size) _ a w.drew (by simp) (fun i => ?_) List.pairwise_lt_range ?_ (by simp) hσ h)
  · simp only [List.mem_range]
    constructor
    · intro hi; exact ⟨hi, by simp [hi]⟩
    · exact fun h => h.1
  · intro k o _ hk
    exfalso
    rcases Nat.lt_or_ge k ops.size with h | h
    · simp [h] at hk
    · simp [Nat.not_lt.2 h] at hk
end

/-! ### The walk's own form -/

/-- A field's address that is reckoned without looking at memory. -/
def okOp (P : Program) (o : Oper) : Bool := match o.op with
  | .fieldAddr s _ f => fieldOk P s f
  | .convert _ d _ => match P.underlying d with
    | some (.int _) => true
    | _ => false
  | _ => true

def isIntV : Value → Bool | .int _ _ => true | _ => false
def isBoolV : Value → Bool | .bool _ => true | _ => false
def isPtrV : Value → Bool | .pointer _ => true | _ => false
def isRowV : Value → Bool | .slice _ _ _ => true | .string _ => true | _ => false

/-- Operations whose run is the same in every world, at these operands. -/
def freeAt (ρ : Operand → Value) (o : Oper) : Bool := match o.op with
  | .move _ | .assign _ | .pick .. | .build .. | .fieldAddr .. | .field .. | .indexAddr .. | .index .. | .extract .. | .unOp .. => true
  | .nilCheck x => isPtrV (ρ x)
  | .convert _ _ x => isIntV (ρ x)
  | .binOp _ _ x y _ => (isIntV (ρ x) && isIntV (ρ y)) || (isBoolV (ρ x) && isBoolV (ρ y))
  | .call { callee := .builtin .len, args, .. } => (args[0]?.map fun x => isRowV (ρ x)).getD false
  | _ => false

section
variable {P : Program} {ops : Array Oper} {σ : SW}

/-- The run is the same in every world and hands on a value. -/
def SteadyV (P : Program) (m : Sem Next) : Prop := ∀ w w' x w1, m.run P w = .ok x w1 → w1 = w ∧ (∃ v, x = .value v) ∧ m.run P w' = .ok x w'
theorem SteadyV.of {m : Sem Value} (h : Steady P m) : SteadyV P (do pure (.value (← m))) := by
  intro w w' x w1 e
  rw [Sem.run_bind] at e ⊢
  cases hm : m.run P w with
  | halt y w2 => rw [hm] at e; cases e
  | ok v w2 =>
    obtain ⟨rfl, h2⟩ := h w w' v w2 hm
    rw [hm] at e
    rw [h2]
    simp only [Result.andThen_ok, Sem.run_pure, Result.ok.injEq] at e ⊢
    exact ⟨e.2.symm, ⟨v, e.1.symm⟩, e.1, trivial⟩
theorem SteadyV.value (v : Value) : SteadyV P (pure (.value v)) := by
  intro w w' x w1 e
  simp only [Sem.run_pure, Result.ok.injEq] at e ⊢
  exact ⟨e.2.symm, ⟨v, e.1.symm⟩, e.1, trivial⟩
theorem SteadyV.never {m : Sem Next} (h : ∀ w x w1, m.run P w ≠ .ok x w1) : SteadyV P m := fun w _ x w1 e => absurd e (h w x w1)

theorem Steady.eqGuardInt (op : BinOp) (t : TypeId) (x y : Operand) (k j : IntKind) (a b : Int) : Steady P (eqGuard op t x y (.int k a) (.int j b)) := by
  cases op <;> exact Steady.pure _
theorem Steady.eqGuardBool (op : BinOp) (t : TypeId) (x y : Operand) (a b : Bool) : Steady P (eqGuard op t x y (.bool a) (.bool b)) := by
  cases op <;> exact Steady.pure _
theorem Steady.equalBool (t : TypeId) (a b : Bool) : Steady P (Op.equal t (.bool a) (.bool b)) := by
  unfold Op.equal Op.maxDepth
  unfold Op.equalIn
  refine Steady.bind (Steady.underlying t) fun d => ?_
  cases d <;> first | exact Steady.pure _ | exact Steady.stuck _
theorem Steady.binBool (op : BinOp) (t : TypeId) (a b : Bool) : Steady P (binOp op t (.bool a) (.bool b)) := by
  cases op <;> first
    | exact Steady.stuck _
    | exact Steady.bind (Steady.equalBool t a b) fun _ => Steady.pure _

theorem freeAt_steady {ρ : Operand → Value} {o : Oper} (hf : freeAt ρ o = true) (hk : okOp P o = true) : SteadyV P (execOp ρ o) := by
  obtain ⟨dst, op, type, pos, after, guard⟩ := o
  unfold freeAt at hf
  unfold okOp at hk
  unfold execOp
  cases op <;> simp only at hf hk ⊢ <;> try (cases hf; done)
  case move x => exact SteadyV.value _
  case assign x => exact SteadyV.value _
  case pick c a b =>
    intro w w' x w1 e
    cases hc : ρ c with
    | bool t =>
      rw [hc] at e
      rw [Sem.run_bind] at e ⊢
      simp only [asBool, Sem.run_pure, Result.andThen_ok, Result.ok.injEq] at e ⊢
      exact ⟨e.2.symm, ⟨_, e.1.symm⟩, e.1, trivial⟩
    | _ => rw [hc] at e; simp [asBool] at e
  case build t ps => exact SteadyV.of (Steady.build _ _)
  case fieldAddr s x f => exact SteadyV.of (Steady.fieldAt _ _ _ hk)
  case field s x f => exact SteadyV.of (Steady.field _ _ _)
  case indexAddr t x i => exact SteadyV.of (Steady.indexAt _ _ _)
  case index t x i => exact SteadyV.of (Steady.index _ _ _)
  case extract x i => exact SteadyV.of (Steady.extract _ _)
  case unOp u t x => exact SteadyV.of (Steady.unary _ _)
  case convert s d x =>
    refine SteadyV.of ?_
    cases hx : ρ x with
    | int k n =>
      refine Steady.convertInt _ _ _ _ ?_
      revert hk
      cases hu : P.underlying d with
      | none => simp
      | some u => cases u <;> simp
    | _ => rw [hx] at hf; cases hf
  case nilCheck x =>
    cases hx : ρ x with
    | pointer p =>
      cases p with
      | none => exact SteadyV.never fun w x w1 => by simp [runtimePanic]
      | some a => exact SteadyV.value _
    | _ => rw [hx] at hf; cases hf
  case binOp op t x y t2 =>
    refine SteadyV.of ?_
    rcases Bool.or_eq_true_iff.1 hf with h | h
    · rw [Bool.and_eq_true] at h
      cases hx : ρ x with
      | int k a =>
        cases hy : ρ y with
        | int j b =>
          exact Steady.bind (Steady.eqGuardInt _ _ _ _ _ _ _ _) fun _ => Steady.binInt _ _ _ _ _ _
        | _ => rw [hy] at h; cases h.2
      | _ => rw [hx] at h; cases h.1
    · rw [Bool.and_eq_true] at h
      cases hx : ρ x with
      | bool a =>
        cases hy : ρ y with
        | bool b =>
          exact Steady.bind (Steady.eqGuardBool _ _ _ _ _ _) fun _ => Steady.binBool _ _ _ _
        | _ => rw [hy] at h; cases h.2
      | _ => rw [hx] at h; cases h.1
  case call c =>
    obtain ⟨callee, args, argTypes⟩ := c
    cases callee with
    | builtin b =>
      cases b <;> simp only at hf <;> try (cases hf; done)
      show SteadyV P (do pure (.value (← Builtin.len_ argTypes type (args.map ρ))))
      refine SteadyV.of (Steady.len _ _ _ ?_ ?_)
      · intro r hr
        rw [Array.getElem?_map] at hr
        cases ha : args[0]? with
        | none => rw [ha] at hf; cases hf
        | some x =>
          rw [ha] at hf hr
          simp only [Option.map_some, Option.some.injEq, Option.getD_some] at hf hr
          rw [hr] at hf; cases hf
      · intro r hr
        rw [Array.getElem?_map] at hr
        cases ha : args[0]? with
        | none => rw [ha] at hf; cases hf
        | some x =>
          rw [ha] at hf hr
          simp only [Option.map_some, Option.some.injEq, Option.getD_some] at hf hr
          rw [hr] at hf; cases hf
    | value f => cases hf
    | invoke r m => cases hf

/-- A load of cells that lie in a block of cells: it sees that block alone. -/
theorem load_steady {t : TypeId} {p : Addr} {w w' : World} (hb : w'.heap[p.block]? = w.heap[p.block]?) (hc : (w.cell? p).isSome = true) {x : Value} {w1 : World} (h : (Instr.loadAt t (.pointer (some p))).run P w = .ok x w1) :
    w1 = w ∧ (Instr.loadAt t (.pointer (some p))).run P w' = .ok x w' := by
  have hcell : ∀ q : Addr, q.block = p.block → w'.cell? q = w.cell? q := fun q hq => World.cell?_of_block (by rw [hq]; exact hb)
  have hfar : ∀ q : Addr, q.block = p.block → ∀ m, ∃ e, w.farLoad P q m = .error e := fun q hq m => by
    unfold World.cell? at hc
    unfold World.farLoad
    rw [hq]
    split at hc
    · rename_i c e f hh; rw [hh]; exact ⟨_, rfl⟩
    · simp at hc
  have hload : ∀ q : Addr, q.block = p.block → ∀ y w2, (load q).run P w = .ok y w2 → w2 = w ∧ (load q).run P w' = .ok y w' := fun q hq y w2 hh => by
    rw [run_load] at hh ⊢
    rw [hcell q hq]
    cases hcq : w.cell? q with
    | some v =>
      rw [hcq] at hh
      simp only [Result.ok.injEq] at hh ⊢
      exact ⟨hh.2.symm, hh.1, trivial⟩
    | none =>
      rw [hcq] at hh
      obtain ⟨e, he⟩ := hfar q hq (Mode.plain == Mode.atomic)
      rw [he] at hh
      cases hh
  have hfrom : ∀ (n i : Nat) (acc : Array Value) (y : Array Value) (w2 : World), (loadCellsFrom p i n acc).run P w = .ok y w2 → w2 = w ∧ (loadCellsFrom p i n acc).run P w' = .ok y w' := by
    intro n
    induction n with
    | zero =>
      intro i acc y w2 hh
      simp only [loadCellsFrom, Sem.run_pure, Result.ok.injEq] at hh ⊢
      exact ⟨hh.2.symm, hh.1, trivial⟩
    | succ n ih =>
      intro i acc y w2 hh
      simp only [loadCellsFrom, Sem.run_bind] at hh ⊢
      cases hl : (load (p.add i)).run P w with
      | halt x w3 => rw [hl] at hh; cases hh
      | ok v w3 =>
        obtain ⟨rfl, h2⟩ := hload _ (block_add p i) v w3 hl
        rw [hl] at hh
        rw [h2]
        simp only [Result.andThen_ok] at hh ⊢
        exact ih _ _ _ _ hh
  unfold Instr.loadAt at h ⊢
  simp only [Instr.sureAddr, Sem.run_bind, Sem.run_pure, Result.andThen_ok, loadVar] at h ⊢
  cases ha : (isAgg t).run P w with
  | halt y w2 => rw [ha] at h; cases h
  | ok b w2 =>
    obtain ⟨rfl, ha'⟩ := Steady.isAgg t w w' b w2 ha
    rw [ha] at h
    rw [ha']
    simp only [Result.andThen_ok] at h ⊢
    cases b with
    | false => simp only [Bool.false_eq_true, if_false] at h ⊢; exact hload p rfl _ _ h
    | true =>
      simp only [if_true, Sem.run_bind] at h ⊢
      cases hz : (sizeOf t).run P w2 with
      | halt y w3 => rw [hz] at h; cases h
      | ok n w3 =>
        obtain ⟨rfl, hz'⟩ := Steady.sizeOf t w2 w' n w3 hz
        rw [hz] at h
        rw [hz']
        simp only [Result.andThen_ok, loadCells] at h ⊢
        cases hl : (loadCellsFrom p 0 n #[]).run P w3 with
        | halt y w4 => rw [hl] at h; cases h
        | ok y w4 =>
          obtain ⟨rfl, hl'⟩ := hfrom n 0 #[] y w4 hl
          rw [hl] at h
          rw [hl']
          simp only [Result.andThen_ok, Sem.run_pure, Result.ok.injEq] at h ⊢
          exact ⟨h.2.symm, h.1, trivial⟩

variable (P ops σ) in
/-- The walk over a region that draws, in the order of its text. -/
def wpX (Q : Act → World → Prop) : List Oper → Act → World → Prop
  | [], a, w => Q a w
  | o :: rest, a, w => if Region.wanted o (yielded ops a.tmps) = true then
      (if effOp o.op = true then o.wp P a w (fun a' w' => σ.S w' ∧ wpX Q rest a' w') (fun _ _ _ => False) else okOp P o = true → ∃ v, YieldsS P σ o v a ∧ wpX Q rest (a.put o.dst v) w)
    else wpX Q rest (a.put o.dst undef) w

theorem wpT_of_wpX {Q : Act → World → Prop} (hok : ops.all (okOp P) = true) : ∀ (l : List Oper) (k : Nat), (∀ j, j < l.length → ops[k + j]? = l[j]?) → ∀ a w, wpX P ops σ Q l a w → wpT P ops σ Q (List.range' k l.length) a w := by
  intro l
  induction l with
  | nil => intro k _ a w h; exact h
  | cons o l ih =>
    intro k hl a w h
    have h0 : ops[k]? = some o := by simpa using hl 0 (by simp)
    have ih' := ih (k + 1) (fun j hj => by have := hl (j + 1) (by simp; omega); simpa [Nat.add_assoc, Nat.add_comm 1 j] using this)
    have hoko : okOp P o = true := Array.all_eq_true_iff_forall_mem.1 hok o (Array.mem_of_getElem? h0)
    rw [List.length_cons, List.range'_succ]
    unfold wpX at h
    unfold wpT stepT
    rw [h0]
    have he : effAt ops k = effOp o.op := by simp [effAt, h0]
    rw [he]
    simp only
    split
    · rename_i hw
      rw [if_pos hw] at h
      split
      · rename_i hh; rw [if_pos hh] at h; exact Oper.wp_mono (fun a w h => ⟨h.1, ih' _ _ h.2⟩) h
      · rename_i hh
        rw [if_neg hh] at h
        obtain ⟨v, h1, h2⟩ := h hoko
        exact ⟨v, h1, ih' _ _ h2⟩
    · rename_i hw; rw [if_neg hw] at h; exact ih' _ _ h

theorem wp_region_x {id : Nat} {l : List Oper} {a : Act} {w : World} (hm : P.follows .mixedOrders = true) (hc : certOk l.toArray (Region.before l.toArray) = true) (hsel : Region.noSelect l.toArray = true) (hok : l.toArray.all (okOp P) = true) (St : Nat → Prop) {Q' : Exit → Act → World → Prop}
    (h : ∀ w0, w0 = w.drew → Same St w0 w0 → wpX P l.toArray (SW.of St w0) (fun a w => Q' .normal a w) l a w0) : (Code.region id l.toArray true).wp P Q' a w := by
  refine wp_region_text (σ := SW.of St w.drew) hm hc hsel (Same.refl _ _) ?_
  have := wpT_of_wpX (P := P) (ops := l.toArray) (σ := SW.of St w.drew) hok l 0 (fun j hj => by simp) a w.drew (h w.drew rfl (Same.refl _ _))
  simpa [List.range_eq_range'] using this
variable {Q : Act → World → Prop} {o : Oper} {rest : List Oper} {a : Act} {w : World}
theorem wpX_nil (h : Q a w) : wpX P ops σ Q [] a w := h
theorem wpX_skip (hw : Region.wanted o (yielded ops a.tmps) = false) (h : wpX P ops σ Q rest (a.put o.dst undef) w) : wpX P ops σ Q (o :: rest) a w := by
  unfold wpX
  rw [if_neg (by rw [hw]; simp)]
  exact h
theorem wpX_steady (hw : Region.wanted o (yielded ops a.tmps) = true) (he : effOp o.op = false)
    (hs : okOp P o = true → ∀ x w1, (execOp a.eval o).run P w = .ok x w1 → w1 = w ∧ (∃ v, x = .value v) ∧ ∀ w', σ.S w' → (execOp a.eval o).run P w' = .ok x w')
    (h : ∀ K : Act → World → Prop, (∀ a w, wpX P ops σ Q rest a w → K a w) → o.wp P a w K (fun _ _ _ => False)) : wpX P ops σ Q (o :: rest) a w := by
  unfold wpX
  rw [if_pos hw, if_neg (by rw [he]; simp)]
  intro hok
  have h1 := h (wpX P ops σ Q rest) (fun _ _ h => h)
  have h2 := hs hok
  unfold Oper.wp at h1
  cases hr : (execOp a.eval o).run P w with
  | halt x w1 =>
    rw [hr] at h1
    cases x <;> simp only [Oper.upon] at h1
  | ok x w1 =>
    obtain ⟨rfl, ⟨v, rfl⟩, h3⟩ := h2 x w1 hr
    rw [hr] at h1
    exact ⟨v, h3, h1⟩
theorem wpX_free (hw : Region.wanted o (yielded ops a.tmps) = true) (he : effOp o.op = false) (hf : freeAt a.eval o = true)
    (h : ∀ K : Act → World → Prop, (∀ a w, wpX P ops σ Q rest a w → K a w) → o.wp P a w K (fun _ _ _ => False)) : wpX P ops σ Q (o :: rest) a w :=
  wpX_steady hw he (fun hok x w1 hr => by
    have hs := freeAt_steady hf hok
    obtain ⟨h1, h2, _⟩ := hs w w x w1 hr
    exact ⟨h1, h2, fun w' _ => (hs w w' x w1 hr).2.2⟩) h
theorem wpX_load {St : Nat → Prop} {w0 : World} (hw : Region.wanted o (yielded ops a.tmps) = true) {t : TypeId} {x : Operand} {p : Addr} (ho : o.op = .load t x) (hx : a.eval x = .pointer (some p)) (hS : St p.block) (hs : Same St w0 w) (hc : (w.cell? p).isSome = true)
    (h : ∀ K : Act → World → Prop, (∀ a w, wpX P ops (SW.of St w0) Q rest a w → K a w) → o.wp P a w K (fun _ _ _ => False)) : wpX P ops (SW.of St w0) Q (o :: rest) a w :=
  wpX_steady hw (by rw [ho]; rfl) (fun _ y w1 hr => by
    have hrun : ∀ v : World, (execOp a.eval o).run P v = ((Instr.loadAt t (.pointer (some p))).run P v).andThen fun u w' => .ok (.value u) w' := fun v => by
      unfold execOp
      rw [ho]
      simp only [hx, Sem.run_bind, Sem.run_pure]
    rw [hrun] at hr
    cases hl : (Instr.loadAt t (.pointer (some p))).run P w with
    | halt z w2 => rw [hl] at hr; cases hr
    | ok u w2 =>
      rw [hl] at hr
      simp only [Result.andThen_ok, Result.ok.injEq] at hr
      obtain ⟨rfl, rfl⟩ := hr
      refine ⟨(load_steady (P := P) (w' := w) rfl hc hl).1, ⟨u, rfl⟩, fun w' hw' => ?_⟩
      have := (load_steady (P := P) (w := w) (w' := w') ((hw' _ hS).trans (hs _ hS).symm) hc hl).2
      rw [hrun, this]
      rfl) h
theorem wpX_eff (hw : Region.wanted o (yielded ops a.tmps) = true) (he : effOp o.op = true)
    (h : ∀ K : Act → World → Prop, (∀ a w, σ.S w ∧ wpX P ops σ Q rest a w → K a w) → o.wp P a w K (fun _ _ _ => False)) : wpX P ops σ Q (o :: rest) a w := by
  unfold wpX
  rw [if_pos hw, if_pos he]
  exact h _ (fun _ _ h => h)
/-- Any other operation that yields v in every world that agrees. -/
theorem wpX_yield (hw : Region.wanted o (yielded ops a.tmps) = true) (he : effOp o.op = false) (v : Value) (hv : ∀ w, σ.S w → (execOp a.eval o).run P w = .ok (.value v) w) (h : wpX P ops σ Q rest (a.put o.dst v) w) : wpX P ops σ Q (o :: rest) a w := by
  unfold wpX
  rw [if_pos hw, if_neg (by rw [he]; simp)]
  exact fun _ => ⟨v, hv, h⟩
end

theorem Same.chg {St : Nat → Prop} {w0 w w1 : World} {b : Nat} (hs : Same St w0 w) (hg : Chg b w w1) (h : ∀ k, St k → k < w.heap.size ∧ k ≠ b) : Same St w0 w1 :=
  fun k hk => (hg.block k (h k hk).1 (h k hk).2).trans (hs k hk)
theorem Same.set {St : Nat → Prop} {w0 w : World} (hs : Same St w0 w) {p : Addr} (h : ∀ k, St k → k ≠ p.block) (x : Value) : Same St w0 (w.setCell p x) :=
  fun k hk => (Below.heap_setCell _ _ _ _ (h k hk)).trans (hs k hk)
theorem Same.new {St : Nat → Prop} {w0 w : World} (hs : Same St w0 w) (h : ∀ k, St k → k < w.heap.size) (o : Obj) : Same St w0 (w.alloc o) :=
  fun k hk => (Below.heap_alloc _ _ _ (h k hk)).trans (hs k hk)
theorem Same.cell {St : Nat → Prop} {w0 w : World} (hs : Same St w0 w) {k : Nat} (hk : St k) (o : Nat) : w.cell? ⟨k, o, none⟩ = w0.cell? ⟨k, o, none⟩ := World.cell?_of_block (hs k hk)
end Go.Proofs.Ytdhnpjgnnfgklaa

/- A region that draws its order and lays new variables in it ('a, b := f(), g()' with a and b in memory): the variables' blocks may be laid at any time; one walk that never looks at the world serves every order. -/
namespace Go.Proofs.Ytdhnpjgnnfgklaa
set_option linter.unusedSimpArgs false
set_option linter.unusedVariables false
open Go.RowKit

/-- What is known of blocks that the region has laid: their cells and type. -/
abbrev Fl := Nat → Option (Array Value × TypeId)
def Fl.put (F : Fl) (b : Nat) (x : Array Value × TypeId) : Fl := fun k => if k = b then some x else F k
theorem Fl.put_comm (F : Fl) {b c : Nat} (h : b ≠ c) (x y : Array Value × TypeId) : (F.put b x).put c y = (F.put c y).put b x := by
  funext k
  unfold Fl.put
  by_cases h1 : k = c <;> by_cases h2 : k = b <;> simp_all
theorem Fl.at (F : Fl) (b : Nat) (x : Array Value × TypeId) : F.put b x b = some x := by unfold Fl.put; rw [if_pos rfl]
structure Cls (St : Nat → Prop) (I : World → Prop) (w0 : World) (F : Fl) (w : World) : Prop where
  same : Same St w0 w
  inv : I w
  size : w0.heap.size ≤ w.heap.size
  laid : ∀ b x, F b = some x → w0.heap.size ≤ b ∧ Blk w b x.1 x.2

/-- An invariant that new blocks and writes to blocks from N on leave. -/
structure Lasting (N : Nat) (I : World → Prop) : Prop where
  new : ∀ w o, I w → I (w.alloc o)
  row : ∀ w b cs, N ≤ b → I w → I (w.setRow b cs)

inductive FK where
  | pure | call | float | store
  deriving DecidableEq
def fkOp : Op → FK
  | .alloc _ => .float
  | .store .. => .store
  | o => if effOp o then .call else .pure

section
variable (P : Program) (St : Nat → Prop) (I : World → Prop) (w0 : World)
/-- One operation, seen without the world: K: what is to hold of the frame and of the blocks behind it. -/
def stepF (ops : Array Oper) (o : Oper) (K : Act → Fl → Prop) (a : Act) (F : Fl) : Prop :=
  if Region.wanted o (yielded ops a.tmps) = true then
    match fkOp o.op with
    | .pure => okOp P o = true → ∃ v, YieldsS P (SW.of St w0) o v a ∧ K (a.put o.dst v) F
    | .call => ∀ w, Cls St I w0 F w → o.wp P a w (fun a' w' => Cls St I w0 F w' ∧ (∀ k, w0.heap.size ≤ k → k < w.heap.size → w'.heap[k]? = w.heap[k]?) ∧ K a' F) (fun _ _ _ => False)
    | .float => ∃ z t, (∀ w, (execOp a.eval o).run P w = .ok (.value (.pointer (some ⟨w.heap.size, 0, none⟩))) (w.alloc (.cells z t))) ∧ ∀ b, w0.heap.size ≤ b → F b = none → (∃ w, Cls St I w0 (F.put b (z, t)) w) → K (a.put o.dst (.pointer (some ⟨b, 0, none⟩))) (F.put b (z, t))
    | .store => ∃ b old cs t, F b = some (old, t) ∧ (∀ w, Cls St I w0 F w → (execOp a.eval o).run P w = .ok .skip (w.setRow b cs)) ∧ K (a.put o.dst undef) (F.put b (cs, t))
  else K (a.put o.dst undef) F
def wpF (ops : Array Oper) (Q : Act → Fl → Prop) : List Oper → Act → Fl → Prop
  | [], a, F => Q a F
  | o :: l, a, F => stepF P St I w0 ops o (wpF ops Q l) a F
end

section
variable {P : Program} {ops : Array Oper} {St : Nat → Prop} {I : World → Prop} {w0 : World}

theorem heap_setRow_other (w : World) (g k : Nat) (cs : Array Value) (h : k ≠ g) : (w.setRow g cs).heap[k]? = w.heap[k]? := by
  unfold World.setRow
  simp only [Array.getElem?_modify]
  rw [if_neg (by omega)]
theorem Blk.setRow {w : World} {b : Nat} {old : Array Value} {t : TypeId} (h : Blk w b old t) (cs : Array Value) : Blk (w.setRow b cs) b cs t := by
  unfold Blk at *
  unfold World.setRow
  rw [Array.getElem?_modify]; simp [h]
theorem size_setRow (w : World) (g : Nat) (cs : Array Value) : (w.setRow g cs).heap.size = w.heap.size := by simp [World.setRow]

theorem Cls.alloc {F : Fl} {w : World} (hl : Lasting w0.heap.size I) (hst : ∀ k, St k → k < w0.heap.size) (h : Cls St I w0 F w) (z : Array Value) (t : TypeId) : Cls St I w0 (F.put w.heap.size (z, t)) (w.alloc (.cells z t)) := by
  refine ⟨fun k hk => (Below.heap_alloc _ _ _ (Nat.lt_of_lt_of_le (hst k hk) h.size)).trans (h.same k hk), hl.new _ _ h.inv, by simpa using Nat.le_succ_of_le h.size, fun b x hb => ?_⟩
  unfold Fl.put at hb
  by_cases hbe : b = w.heap.size
  · rw [if_pos hbe] at hb
    cases hb
    exact ⟨by rw [hbe]; exact h.size, by rw [hbe]; exact Blk.new w z t⟩
  · rw [if_neg hbe] at hb
    obtain ⟨h1, h2⟩ := h.laid b x hb
    exact ⟨h1, h2.alloc _⟩
theorem Cls.setRow {F : Fl} {w : World} (hl : Lasting w0.heap.size I) (hst : ∀ k, St k → k < w0.heap.size) (h : Cls St I w0 F w) {b : Nat} {old cs : Array Value} {t : TypeId} (hb : F b = some (old, t)) : Cls St I w0 (F.put b (cs, t)) (w.setRow b cs) := by
  have hN := (h.laid b _ hb).1
  refine ⟨fun k hk => (heap_setRow_other _ _ _ _ (by have := hst k hk; omega)).trans (h.same k hk), hl.row _ _ _ hN h.inv, by rw [size_setRow]; exact h.size, fun c x hc => ?_⟩
  unfold Fl.put at hc
  by_cases hcb : c = b
  · rw [if_pos hcb] at hc
    cases hc
    subst hcb
    exact ⟨hN, (h.laid _ _ hb).2.setRow cs⟩
  · rw [if_neg hcb] at hc
    obtain ⟨h1, h2⟩ := h.laid c x hc
    exact ⟨h1, (heap_setRow_other _ _ _ _ hcb).trans h2⟩
theorem Cls.less {F : Fl} {w : World} {b : Nat} {x : Array Value × TypeId} (hb : F b = none) (h : Cls St I w0 (F.put b x) w) : Cls St I w0 F w :=
  ⟨h.same, h.inv, h.size, fun c y hc => h.laid c y (by
    unfold Fl.put
    by_cases hcb : c = b
    · rw [hcb, hb] at hc; cases hc
    · rw [if_neg hcb]; exact hc)⟩

/-- The operation, at the frame a, puts v and does no more. -/
def PutsF (P : Program) (St : Nat → Prop) (w0 : World) (ops : Array Oper) (o : Oper) (v : Value) (a : Act) : Prop :=
  (Region.wanted o (yielded ops a.tmps) = true ∧ fkOp o.op = .pure ∧ YieldsS P (SW.of St w0) o v a) ∨ (Region.wanted o (yielded ops a.tmps) = false ∧ v = undef)
theorem PutsF.step {o : Oper} {v : Value} {a : Act} (h : PutsF P St w0 ops o v a) {K : Act → Fl → Prop} {F : Fl} (hK : K (a.put o.dst v) F) : stepF P St I w0 ops o K a F := by
  unfold stepF
  rcases h with ⟨h1, h2, h3⟩ | ⟨h1, rfl⟩
  · rw [if_pos h1, h2]; exact fun _ => ⟨v, h3, hK⟩
  · rw [if_neg (by rw [h1]; simp)]; exact hK
theorem PutsF.move {o : Oper} (hs : ∀ cs b, o.op ≠ .select cs b) {v : Value} {a a' : Act} (hp : PutsF P St w0 ops o v a) {d : Option Tmp} {u : Value} (ht : a'.tmps = (a.put d u).tmps) (h : ∀ t, d = some t → t ∉ o.looksAt ops) : PutsF P St w0 ops o v a' := by
  unfold PutsF at *
  have hw : Region.wanted o (yielded ops a'.tmps) = Region.wanted o (yielded ops a.tmps) := by rw [ht]; exact wanted_put o a d u h
  rw [hw]
  rcases hp with ⟨h1, h2, h3⟩ | h1
  · exact .inl ⟨h1, h2, h3.of_same (exec_tmps hs ht h)⟩
  · exact .inr h1

def backB (ops : Array Oper) (cert : Array Nat) : Bool := (List.range ops.size).all fun j => match ops[j]? with
  | none => true
  | some oj => (oj.after.all fun e => !Region.binds .any e || decide (e.on < j)) && (List.range j).all fun i =>
      !(cert.getD j 0).testBit i || oj.after.any (fun e => Region.binds .any e && (e.on == i || (decide (i < e.on) && (cert.getD e.on 0).testBit i)))

theorem back_at {cert : Array Nat} (hc : backB ops cert = true) {j : Nat} {oj : Oper} (hj : ops[j]? = some oj) :
    (∀ e ∈ oj.after, Region.binds .any e = true → e.on < j) ∧ ∀ i, i < j → (cert.getD j 0).testBit i = true → ∃ e ∈ oj.after, Region.binds .any e = true ∧ (e.on = i ∨ (i < e.on ∧ (cert.getD e.on 0).testBit i = true)) := by
  have hlt : j < ops.size := (Array.getElem?_eq_some_iff.1 hj).1
  unfold backB at hc
  rw [List.all_eq_true] at hc
  have h := hc j (List.mem_range.2 hlt)
  rw [hj] at h
  simp only [Bool.and_eq_true] at h
  obtain ⟨h1, h2⟩ := h
  rw [List.all_eq_true] at h2
  refine ⟨fun e he hb => ?_, fun i hi hb => ?_⟩
  · have := Array.all_eq_true_iff_forall_mem.1 h1 e he
    simpa [hb] using this
  · have h3 := h2 i (List.mem_range.2 hi)
    rw [hb] at h3
    simp only [Bool.not_true, Bool.false_or] at h3
    obtain ⟨e, he, hx⟩ := Array.any_eq_true'.1 h3
    exact ⟨e, he, by simpa using hx⟩

theorem back_listed {cert : Array Nat} (hc : backB ops cert = true) {listed : Array Bool} (hcl : Closed ops listed) :
    ∀ (n j : Nat) (oj : Oper), j ≤ n → ops[j]? = some oj → (∀ e ∈ oj.after, Region.binds .any e = true → listed.getD e.on false = true) → ∀ i, i < j → (cert.getD j 0).testBit i = true → listed.getD i false = true := by
  intro n
  induction n with
  | zero => intro j oj hj _ _ i hi; omega
  | succ n ih =>
    intro j oj hjn hj hall i hi hb
    obtain ⟨hback, hcase⟩ := back_at hc hj
    obtain ⟨e, he, hbd, h⟩ := hcase i hi hb
    have hl := hall e he hbd
    rcases h with h | ⟨h1, h2⟩
    · rw [← h]; exact hl
    · have hej := hback e he hbd
      have hlt : j < ops.size := (Array.getElem?_eq_some_iff.1 hj).1
      have heo : ops[e.on]? = some (ops[e.on]'(by omega)) := Array.getElem?_eq_getElem (by omega)
      exact ih e.on _ (by omega) heo (hcl e.on _ heo hl) i h1 h2

end

/-! ### The walk's steps -/
section
variable {P : Program} {ops : Array Oper} {St : Nat → Prop} {I : World → Prop} {w0 : World} {Q : Act → Fl → Prop} {o : Oper} {rest : List Oper} {a : Act} {F : Fl}
theorem Cls.below {w w' : World} (h : Cls St I w0 F w) (hst : ∀ k, St k → k < w0.heap.size) (hb : Below w.heap.size w w') (hI : I w') : Cls St I w0 F w' :=
  ⟨fun k hk => (hb.block k (Nat.lt_of_lt_of_le (hst k hk) h.size)).trans (h.same k hk), hI, Nat.le_trans h.size hb.size, fun b x hx => ⟨(h.laid b x hx).1, (h.laid b x hx).2.below hb⟩⟩
end
end Go.Proofs.Ytdhnpjgnnfgklaa

/- What a function's call knows of memory, in one bundle: which blocks hold what, which of them it owns, and that all that was there is as it was. -/
namespace Go.Proofs.Ytdhnpjgnnfgklaa
set_option linter.unusedSimpArgs false
set_option linter.unusedVariables false
open Go.RowKit

/-- What is known of memory: a block's cells; a stream of numbers; a slice of one's own. -/
inductive Item where
  | blk (b : Nat) (cs : Array Value) (t : TypeId)
  | dice (B b : Nat)
  | row (v : Value) (e : TypeId) (size n : Nat) (xs : List Value)
  | obj (b : Nat) (o : Obj)
  | any (F : Nat → Prop) (K : World → Prop)

def Item.fp : Item → Nat → Prop
  | .blk b _ _ => fun k => k = b
  | .dice _ b => fun k => k = b
  | .row v _ _ _ _ => fun k => v.ownBlock = some k
  | .obj b _ => fun k => k = b
  | .any F _ => F
def Item.ok : Item → World → Prop
  | .blk b cs t => fun w => Blk w b cs t
  | .dice B b => fun w => Dice B w b
  | .row v e s n xs => fun w => w.ownsRow 0 e s v n xs
  | .obj b o => fun w => w.heap[b]? = some o
  | .any F K => fun w => K w ∧ (∀ k, F k → k < w.heap.size) ∧ ∀ w', (∀ k, F k → w'.heap[k]? = w.heap[k]?) → K w'
/-- The lowest block of the caller's on which the thing leans besides its own. -/
def Item.low : Item → Nat
  | .dice B _ => B
  | _ => 0

theorem Item.lt {A : Item} {w : World} (h : A.ok w) {k : Nat} (hk : A.fp k) : k < w.heap.size := by
  cases A with
  | blk b cs t => rw [show k = b from hk]; exact Blk.lt h
  | dice B b => rw [show k = b from hk]; exact Dice.lt h
  | row v e s n xs =>
    obtain ⟨h1, h2⟩ := (show w.ownsRow 0 e s v n xs from h)
    have hk' : v.ownBlock = some k := hk
    rcases h2 with ⟨h2, _⟩ | ⟨g, cap, cur, hv, hg, hh, r⟩
    · rw [h2] at hk'; cases hk'
    · rw [hv] at hk'
      obtain rfl : g = k := by simpa [Value.ownBlock] using hk'
      exact lt_of_heap hh
  | obj b o => rw [show k = b from hk]; exact lt_of_heap h
  | any F K => exact (show K w ∧ (∀ k, F k → k < w.heap.size) ∧ _ from h).2.1 k hk
theorem Item.keep {A : Item} {w w' : World} (h : A.ok w) (hf : ∀ k, A.fp k → w'.heap[k]? = w.heap[k]?) (hl : ∀ k, k < A.low → k < w.heap.size → w'.heap[k]? = w.heap[k]?) : A.ok w' := by
  cases A with
  | blk b cs t => exact (hf b rfl).trans h
  | dice B b => exact Dice.of_blocks h (hf b rfl) hl
  | row v e s n xs =>
    obtain ⟨h1, h2⟩ := (show w.ownsRow 0 e s v n xs from h)
    refine ⟨h1, ?_⟩
    rcases h2 with h2 | ⟨g, cap, cur, hv, hg, hh, r⟩
    · exact .inl h2
    · exact .inr ⟨g, cap, cur, hv, hg, (hf g (by show v.ownBlock = some g; rw [hv]; rfl)).trans hh, r⟩
  | obj b o => exact (hf b rfl).trans h
  | any F K =>
    obtain ⟨h1, h2, h3⟩ := (show K w ∧ (∀ k, F k → k < w.heap.size) ∧ ∀ w', (∀ k, F k → w'.heap[k]? = w.heap[k]?) → K w' from h)
    refine ⟨h3 w' hf, fun k hk => ?_, fun w'' h'' => h3 w'' fun k hk => (h'' k hk).trans (hf k hk)⟩
    have e := hf k hk
    rw [Array.getElem?_eq_getElem (h2 k hk)] at e
    exact lt_of_heap e

/-- In w, reached from W: all blocks of W but those of D are as they were; L is what is known, of blocks of one's own (new ones, or of D), all apart. -/
structure HS (D : Nat → Prop) (W : World) (L : List Item) (w : World) : Prop where
  os : w.os = W.os
  tape : w.tape = W.tape
  output : w.output = W.output
  size : W.heap.size ≤ w.heap.size
  old : ∀ k, k < W.heap.size → ¬ D k → w.heap[k]? = W.heap[k]?
  ok : ∀ A ∈ L, A.ok w
  own : ∀ A ∈ L, ∀ k, A.fp k → W.heap.size ≤ k ∨ D k
  low : ∀ A ∈ L, A.low ≤ W.heap.size ∧ ∀ k, k < A.low → ¬ D k
  dis : L.Pairwise fun A A' => ∀ k, A.fp k → ¬ A'.fp k

def NoD : Nat → Prop := fun _ => False
def OneD (b : Nat) : Nat → Prop := fun k => k = b

section
variable {D : Nat → Prop} {W w w' : World} {L : List Item}
theorem HS.start (D : Nat → Prop) (W : World) : HS D W [] W := ⟨rfl, rfl, rfl, Nat.le_refl _, fun _ _ _ => rfl, fun _ h => (List.not_mem_nil h).elim, fun _ h => (List.not_mem_nil h).elim, fun _ h => (List.not_mem_nil h).elim, .nil⟩
theorem HS.startDice {W : World} {B b : Nat} (h : Dice B W b) (hB : B ≤ W.heap.size) : HS (OneD b) W [.dice B b] W :=
  ⟨rfl, rfl, rfl, Nat.le_refl _, fun _ _ _ => rfl, fun A hA => (by cases List.mem_singleton.1 hA; exact h), fun A hA k hk => (by cases List.mem_singleton.1 hA; exact .inr hk),
   fun A hA => by cases List.mem_singleton.1 hA; exact ⟨hB, fun k hk e => by have := h.base; unfold OneD at e; simp only [Item.low] at hk; omega⟩, List.pairwise_singleton _ _⟩

/-- A turn of the world that leaves all that is known and all that is the caller's. -/
theorem HS.turn (h : HS D W L w) (ho : w'.os = w.os) (ht : w'.tape = w.tape) (hu : w'.output = w.output) (hs : w.heap.size ≤ w'.heap.size) (hb : ∀ k, k < w.heap.size → (∃ A ∈ L, A.fp k) ∨ (k < W.heap.size ∧ ¬ D k) → w'.heap[k]? = w.heap[k]?) : HS D W L w' := by
  refine ⟨ho.trans h.os, ht.trans h.tape, hu.trans h.output, Nat.le_trans h.size hs, fun k hk hd => (hb k (Nat.lt_of_lt_of_le hk h.size) (.inr ⟨hk, hd⟩)).trans (h.old k hk hd), fun A hA => ?_, h.own, h.low, h.dis⟩
  refine Item.keep (h.ok A hA) (fun k hk => hb k (Item.lt (h.ok A hA) hk) (.inl ⟨A, hA, hk⟩)) fun k hk hlt => hb k hlt (.inr ?_)
  obtain ⟨h1, h2⟩ := h.low A hA
  exact ⟨by omega, h2 k hk⟩
theorem HS.below (h : HS D W L w) (hb : Below w.heap.size w w') : HS D W L w' := h.turn hb.os hb.tape hb.output hb.size fun k hk _ => hb.block k hk
theorem HS.eqW (e : w = w') (h : HS D W L w) : HS D W L w' := e ▸ h
theorem HS.drew (h : HS D W L w) : HS D W L w.drew := h.turn rfl rfl rfl (Nat.le_refl _) fun _ _ _ => rfl
theorem HS.drewN (h : HS D W L w) (n : Nat) : HS D W L (w.drewN n) := h.turn rfl rfl rfl (Nat.le_refl _) fun _ _ _ => rfl
theorem HS.less (h : HS D W L w) {L' : List Item} (hl : L'.Sublist L) : HS D W L' w :=
  ⟨h.os, h.tape, h.output, h.size, h.old, fun A hA => h.ok A (hl.subset hA), fun A hA => h.own A (hl.subset hA), fun A hA => h.low A (hl.subset hA), h.dis.sublist hl⟩
/-- Something new in blocks that were not there. -/
theorem HS.add (h : HS D W L w') {n : Nat} (hn : ∀ A ∈ L, ∀ k, A.fp k → k < n) (hW : W.heap.size ≤ n) {A : Item} (hA : A.ok w') (hf : ∀ k, A.fp k → n ≤ k) (hl : A.low ≤ W.heap.size ∧ ∀ k, k < A.low → ¬ D k) : HS D W (L ++ [A]) w' := by
  refine ⟨h.os, h.tape, h.output, h.size, h.old, fun X hX => ?_, fun X hX k hk => ?_, fun X hX => ?_, ?_⟩
  · rcases List.mem_append.1 hX with hX | hX
    · exact h.ok X hX
    · cases List.mem_singleton.1 hX; exact hA
  · rcases List.mem_append.1 hX with hX | hX
    · exact h.own X hX k hk
    · cases List.mem_singleton.1 hX; exact .inl (Nat.le_trans hW (hf k hk))
  · rcases List.mem_append.1 hX with hX | hX
    · exact h.low X hX
    · cases List.mem_singleton.1 hX; exact hl
  · refine List.pairwise_append.2 ⟨h.dis, List.pairwise_singleton _ _, fun X hX Y hY k hk hk' => ?_⟩
    cases List.mem_singleton.1 hY
    have := hn X hX k hk; have := hf k hk'; omega
theorem HS.lts (h : HS D W L w) : ∀ A ∈ L, ∀ k, A.fp k → k < w.heap.size := fun A hA k hk => Item.lt (h.ok A hA) hk
theorem HS.alloc (h : HS D W L w) {cs : Array Value} {t : TypeId} : HS D W (L ++ [.blk w.heap.size cs t]) (w.alloc (.cells cs t)) :=
  HS.add (A := .blk w.heap.size cs t) (h.below ((Below.refl _ _).alloc (Nat.le_refl _) _)) h.lts h.size (Blk.new w cs t) (fun k hk => by rw [show k = w.heap.size from hk]; exact Nat.le_refl _) ⟨Nat.zero_le _, fun k hk => absurd hk (Nat.not_lt_zero _)⟩
theorem HS.allocObj (h : HS D W L w) {o : Obj} : HS D W (L ++ [.obj w.heap.size o]) (w.alloc o) :=
  HS.add (A := .obj w.heap.size o) (h.below ((Below.refl _ _).alloc (Nat.le_refl _) _)) h.lts h.size (by show (w.heap.push _)[w.heap.size]? = _; simp) (fun k hk => by rw [show k = w.heap.size from hk]; exact Nat.le_refl _) ⟨Nat.zero_le _, fun k hk => absurd hk (Nat.not_lt_zero _)⟩
theorem HS.skipAlloc (h : HS D W L w) {o : Obj} : HS D W L (w.alloc o) := h.turn rfl rfl rfl (by simp) fun k hk _ => Below.heap_alloc _ _ _ hk
/-- A call that leaves all that was there, and hands back something new. -/
theorem HS.gets (h : HS D W L w) (hb : Below w.heap.size w w') {A : Item} (hA : A.ok w') (hf : ∀ k, A.fp k → w.heap.size ≤ k) (hl : A.low ≤ W.heap.size ∧ ∀ k, k < A.low → ¬ D k) : HS D W (L ++ [A]) w' :=
  HS.add (h.below hb) h.lts h.size hA hf hl

theorem dis_mid {l1 l2 : List Item} {X Y : Item} (hd : (l1 ++ X :: l2).Pairwise fun A A' => ∀ k, A.fp k → ¬ A'.fp k) (hY : Y ∈ l1 ++ l2) {k : Nat} (hX : X.fp k) : ¬ Y.fp k := by
  rw [List.pairwise_append] at hd
  obtain ⟨a, b, c⟩ := hd
  rw [List.pairwise_cons] at b
  intro hk
  rcases List.mem_append.1 hY with hY | hY
  · exact c Y hY X (by simp) k hk hX
  · exact b.1 Y hY k hX hk
/-- One thing turns, on its own blocks, into another on the same ones or fewer. -/
theorem HS.swap {l1 l2 : List Item} {X Y : Item} (h : HS D W (l1 ++ X :: l2) w) (ho : w'.os = w.os) (ht : w'.tape = w.tape) (hu : w'.output = w.output) (hs : w.heap.size ≤ w'.heap.size) (hb : ∀ k, k < w.heap.size → ¬ X.fp k → w'.heap[k]? = w.heap[k]?)
    (hY : Y.ok w') (hf : ∀ k, Y.fp k → X.fp k ∨ w.heap.size ≤ k) (hl : Y.low = X.low ∨ Y.low = 0) : HS D W (l1 ++ Y :: l2) w' := by
  have hXo : ∀ k, X.fp k → W.heap.size ≤ k ∨ D k := fun k hk => h.own X (by simp) k hk
  have hX1 := h.low X (by simp)
  refine ⟨ho.trans h.os, ht.trans h.tape, hu.trans h.output, Nat.le_trans h.size hs, fun k hk hd => (hb k (Nat.lt_of_lt_of_le hk h.size) fun hx => ?_).trans (h.old k hk hd), fun A hA => ?_, fun A hA k hk => ?_, fun A hA => ?_, ?_⟩
  · rcases hXo k hx with h1 | h1
    · omega
    · exact hd h1
  · have hmem : A = Y ∨ A ∈ l1 ++ l2 := by
      rcases List.mem_append.1 hA with hA | hA
      · exact .inr (by simp [hA])
      · rcases List.mem_cons.1 hA with hA | hA
        · exact .inl hA
        · exact .inr (by simp [hA])
    rcases hmem with rfl | hmem
    · exact hY
    · have hA' : A ∈ l1 ++ X :: l2 := by rcases List.mem_append.1 hmem with h | h <;> simp [h]
      refine Item.keep (h.ok A hA') (fun k hk => hb k (Item.lt (h.ok A hA') hk) fun hx => dis_mid h.dis hmem hx hk) fun k hk hlt => hb k hlt fun hx => ?_
      obtain ⟨h1, h2⟩ := h.low A hA'
      rcases hXo k hx with h3 | h3
      · omega
      · exact h2 k hk h3
  · rcases List.mem_append.1 hA with hA | hA
    · exact h.own A (by simp [hA]) k hk
    · rcases List.mem_cons.1 hA with rfl | hA
      · rcases hf k hk with h1 | h1
        · exact hXo k h1
        · exact .inl (Nat.le_trans h.size h1)
      · exact h.own A (by simp [hA]) k hk
  · rcases List.mem_append.1 hA with hA | hA
    · exact h.low A (by simp [hA])
    · rcases List.mem_cons.1 hA with rfl | hA
      · rcases hl with e | e
        · rw [e]; exact hX1
        · rw [e]; exact ⟨Nat.zero_le _, fun k hk => absurd hk (Nat.not_lt_zero _)⟩
      · exact h.low A (by simp [hA])
  · have hd := h.dis
    have hlt := h.lts
    rw [List.pairwise_append] at hd ⊢
    obtain ⟨a, b, c⟩ := hd
    rw [List.pairwise_cons] at b ⊢
    refine ⟨a, ⟨fun z hz k hk hk' => ?_, b.2⟩, fun z hz u hu k hk hk' => ?_⟩
    · rcases hf k hk with h1 | h1
      · exact b.1 z hz k h1 hk'
      · have := hlt z (by simp [hz]) k hk'; omega
    · rcases List.mem_cons.1 hu with rfl | hu
      · rcases hf k hk' with h1 | h1
        · exact c z hz X (by simp) k hk h1
        · have := hlt z (by simp [hz]) k hk; omega
      · exact c z hz u (by simp [hu]) k hk hk'
/-- A call that may turn the stream alone. -/
theorem HS.dice {l1 l2 : List Item} {B b : Nat} (h : HS D W (l1 ++ .dice B b :: l2) w) (hg : Chg b w w') (hd : Dice B w' b) : HS D W (l1 ++ .dice B b :: l2) w' :=
  h.swap (X := .dice B b) hg.os hg.tape hg.output hg.size (fun k hk hn => hg.block k hk hn) hd (fun k hk => .inl hk) (.inl rfl)
/-- A store into a block of one's own. -/
theorem HS.set {l1 l2 : List Item} {b : Nat} {cs : Array Value} {t : TypeId} (h : HS D W (l1 ++ .blk b cs t :: l2) w) (i : Nat) (v : Value) : HS D W (l1 ++ .blk b (cs.setIfInBounds i v) t :: l2) (w.setCell ⟨b, i, none⟩ v) :=
  h.swap (X := .blk b cs t) rfl rfl rfl (by simp [World.setCell]) (fun k hk hn => Below.heap_setCell _ _ _ _ hn) (Blk.set (h.ok (.blk b cs t) (by simp)) i v) (fun k hk => .inl hk) (.inr rfl)
/-- The end of a call that may turn nothing. -/
theorem HS.done (h : HS NoD W L w) : Below W.heap.size W w := ⟨h.os, h.tape, h.output, h.size, fun k hk => h.old k hk id⟩
theorem HS.doneDice {b : Nat} (h : HS (OneD b) W L w) : Chg b W w := ⟨h.os, h.tape, h.output, h.size, fun k hk hn => h.old k hk hn⟩
theorem HS.was (h : HS D W L w) {p : Addr} (hp : p.block < W.heap.size) (hd : ¬ D p.block) : w.cell? p = W.cell? p := World.cell?_of_block (w := W) (h.old _ hp hd)
end

/-- What the walk's simp needs to know of the blocks. -/
def apartOf (b : Nat) : List Item → Prop
  | [] => True
  | .blk b' _ _ :: L => (b = b') = False ∧ (b' = b) = False ∧ apartOf b L
  | .dice _ b' :: L => (b = b') = False ∧ (b' = b) = False ∧ apartOf b L
  | .obj b' _ :: L => (b = b') = False ∧ (b' = b) = False ∧ apartOf b L
  | _ :: L => apartOf b L
def cellsOf (w : World) : List Item → Prop
  | [] => True
  | .blk b cs t :: L => (∀ o, w.cell? ⟨b, o, none⟩ = cs[o]?) ∧ (∀ o, w.frozen? ⟨b, o, none⟩ = false) ∧ b < w.heap.size ∧ (w.heap.size = b) = False ∧ (b = w.heap.size) = False ∧ apartOf b L ∧ cellsOf w L
  | .dice _ b :: L => b < w.heap.size ∧ (w.heap.size = b) = False ∧ (b = w.heap.size) = False ∧ apartOf b L ∧ cellsOf w L
  | .obj b _ :: L => b < w.heap.size ∧ (w.heap.size = b) = False ∧ (b = w.heap.size) = False ∧ apartOf b L ∧ cellsOf w L
  | _ :: L => cellsOf w L
theorem apartOf_of {b : Nat} {A : Item} (hb : A.fp b) : ∀ {L : List Item}, (∀ X ∈ L, ∀ k, A.fp k → ¬ X.fp k) → apartOf b L
  | [], _ => trivial
  | .blk b' cs t :: L, h => by
    have h1 : ¬ b = b' := h (.blk b' cs t) (by simp) b hb
    exact ⟨eq_false h1, eq_false (Ne.symm h1), apartOf_of hb fun X hX => h X (by simp [hX])⟩
  | .dice B b' :: L, h => by
    have h1 : ¬ b = b' := h (.dice B b') (by simp) b hb
    exact ⟨eq_false h1, eq_false (Ne.symm h1), apartOf_of hb fun X hX => h X (by simp [hX])⟩
  | .row v e s n xs :: L, h => apartOf_of (L := L) hb fun X hX => h X (by simp [hX])
  | .any F K :: L, h => apartOf_of (L := L) hb fun X hX => h X (by simp [hX])
  | .obj b' o :: L, h => by
    have h1 : ¬ b = b' := h (.obj b' o) (by simp) b hb
    exact ⟨eq_false h1, eq_false (Ne.symm h1), apartOf_of hb fun X hX => h X (by simp [hX])⟩
theorem cellsOf_of {w : World} : ∀ {L : List Item}, (∀ A ∈ L, A.ok w) → (L.Pairwise fun A A' => ∀ k, A.fp k → ¬ A'.fp k) → cellsOf w L
  | [], _, _ => trivial
  | .blk b cs t :: L, h, hd => by
    have h1 : Blk w b cs t := h (.blk b cs t) (by simp)
    have hd' := List.pairwise_cons.1 hd
    exact ⟨h1.cell, h1.free, h1.lt, eq_false (by have := h1.lt; omega), eq_false (by have := h1.lt; omega), apartOf_of (A := .blk b cs t) rfl hd'.1, cellsOf_of (fun A hA => h A (by simp [hA])) hd'.2⟩
  | .dice B b :: L, h, hd => by
    have h1 : Dice B w b := h (.dice B b) (by simp)
    have hd' := List.pairwise_cons.1 hd
    exact ⟨h1.lt, eq_false (by have := h1.lt; omega), eq_false (by have := h1.lt; omega), apartOf_of (A := .dice B b) rfl hd'.1, cellsOf_of (fun A hA => h A (by simp [hA])) hd'.2⟩
  | .row v e s n xs :: L, h, hd => cellsOf_of (L := L) (fun A hA => h A (by simp [hA])) (List.pairwise_cons.1 hd).2
  | .any F K :: L, h, hd => cellsOf_of (L := L) (fun A hA => h A (by simp [hA])) (List.pairwise_cons.1 hd).2
  | .obj b o :: L, h, hd => by
    have h1 : w.heap[b]? = some o := h (.obj b o) (by simp)
    have hlt := lt_of_heap h1
    have hd' := List.pairwise_cons.1 hd
    exact ⟨hlt, eq_false (by omega), eq_false (by omega), apartOf_of (A := .obj b o) rfl hd'.1, cellsOf_of (fun A hA => h A (by simp [hA])) hd'.2⟩
theorem HS.cells {D : Nat → Prop} {W w : World} {L : List Item} (h : HS D W L w) : cellsOf w L := cellsOf_of h.ok h.dis

/-- Things apart. -/
def Apart (R : List Item) : Prop := R.Pairwise fun A A' => ∀ k, A.fp k → ¬ A'.fp k
/-- Things apart, as one. -/
def Item.many (R : List Item) : Item := .any (fun k => ∃ A ∈ R, A.fp k) (fun w => (∀ A ∈ R, A.ok w ∧ A.low = 0) ∧ Apart R)
theorem cellsM {w : World} {R L : List Item} : cellsOf w (Item.many R :: L) = cellsOf w L := rfl
theorem apartM {b : Nat} {R L : List Item} : apartOf b (Item.many R :: L) = apartOf b L := rfl

/-! ### by the place in the list -/
section
variable {D : Nat → Prop} {W w w' : World} {L : List Item}
theorem split_at {α : Type} : ∀ {L : List α} {i : Nat} {x : α}, L[i]? = some x → L = L.take i ++ x :: L.drop (i + 1) := by
  intro L i x h
  obtain ⟨hi, rfl⟩ := List.getElem?_eq_some_iff.1 h
  simp
theorem set_at {α : Type} {L : List α} {i : Nat} {x : α} (y : α) (h : L[i]? = some x) : L.set i y = L.take i ++ y :: L.drop (i + 1) := by
  obtain ⟨hi, rfl⟩ := List.getElem?_eq_some_iff.1 h
  rw [List.set_eq_take_append_cons_drop, if_pos hi]
theorem HS.setAt (h : HS D W L w) (i : Nat) {b : Nat} {cs : Array Value} {t : TypeId} (hi : L[i]? = some (.blk b cs t)) {o : Nat} {v : Value} : HS D W (L.set i (.blk b (cs.setIfInBounds o v) t)) (w.setCell ⟨b, o, none⟩ v) := by
  rw [set_at _ hi]
  rw [split_at hi] at h
  exact h.set o v
theorem HS.diceAt (h : HS D W L w) (i : Nat) {B b : Nat} (hi : L[i]? = some (.dice B b)) (hg : Chg b w w') (hd : Dice B w' b) : HS D W L w' := by
  have e := split_at hi
  rw [e] at h ⊢
  exact h.dice hg hd
theorem HS.at (h : HS D W L w) (i : Nat) {A : Item} (hi : L[i]? = some A) : A.ok w := h.ok A (List.mem_of_getElem? hi)
theorem HS.mine (h : HS NoD W L w) (i : Nat) {b : Nat} {cs : Array Value} {t : TypeId} (hi : L[i]? = some (.blk b cs t)) : W.heap.size ≤ b := (h.own _ (List.mem_of_getElem? hi) b rfl).resolve_right id
/-- A slice of one's own turns by an append. -/
theorem HS.grownAt (h : HS D W L w) (i : Nat) {v v' : Value} {e : TypeId} {s n n' : Nat} {xs ys : List Value} (hi : L[i]? = some (.row v e s n xs)) (hg : w.grownBy w' v.ownBlock) (hr : w'.ownsRow w.heap.size e s v' n' ys ∨ (w'.ownsRow 0 e s v' n' ys ∧ ∀ k, v'.ownBlock = some k → v.ownBlock = some k ∨ w.heap.size ≤ k)) : HS D W (L.set i (.row v' e s n' ys)) w' := by
  rw [set_at _ hi]
  rw [split_at hi] at h
  have hr' : w'.ownsRow 0 e s v' n' ys ∧ ∀ k, v'.ownBlock = some k → v.ownBlock = some k ∨ w.heap.size ≤ k := by
    rcases hr with hr | hr
    · obtain ⟨h1, h2⟩ := hr
      rcases h2 with h2 | ⟨g, cap, cur, hv, hgg, hh, r⟩
      · refine ⟨⟨h1, .inl h2⟩, fun k hk => ?_⟩
        rw [h2.1] at hk; cases hk
      · refine ⟨⟨h1, .inr ⟨g, cap, cur, hv, Nat.zero_le _, hh, r⟩⟩, fun k hk => ?_⟩
        rw [hv] at hk
        obtain rfl : g = k := by simpa [Value.ownBlock] using hk
        exact .inr hgg
    · exact hr
  exact h.swap (X := .row v e s n xs) (Y := .row v' e s n' ys) hg.os hg.tape hg.output hg.size (fun k hk hn => hg.block k hk (fun e => hn e.symm)) hr'.1 hr'.2 (.inr rfl)

/-- A block known besides. -/
theorem HS.lay (h : HS D W L w) {b : Nat} {cs : Array Value} {t : TypeId} (hb : Blk w b cs t) (hW : W.heap.size ≤ b) (hn : ∀ A ∈ L, ¬ A.fp b) : HS D W (L ++ [.blk b cs t]) w := by
  refine ⟨h.os, h.tape, h.output, h.size, h.old, fun X hX => ?_, fun X hX k hk => ?_, fun X hX => ?_, ?_⟩
  · rcases List.mem_append.1 hX with hX | hX
    · exact h.ok X hX
    · cases List.mem_singleton.1 hX; exact hb
  · rcases List.mem_append.1 hX with hX | hX
    · exact h.own X hX k hk
    · cases List.mem_singleton.1 hX; exact .inl (by rw [show k = b from hk]; exact hW)
  · rcases List.mem_append.1 hX with hX | hX
    · exact h.low X hX
    · cases List.mem_singleton.1 hX; exact ⟨Nat.zero_le _, fun k hk => absurd hk (Nat.not_lt_zero _)⟩
  · refine List.pairwise_append.2 ⟨h.dis, List.pairwise_singleton _ _, fun X hX Y hY k hk hk' => ?_⟩
    cases List.mem_singleton.1 hY
    rw [show k = b from hk'] at hk
    exact hn X hX hk
end

/-! ### Regions that draw, with the bundle -/
section
variable {P : Program} {D : Nat → Prop} {W : World} {L : List Item}
/-- The blocks that are there, but the stream's. -/
def Stay (X : Nat → Prop) (w0 : World) : Nat → Prop := fun k => k < w0.heap.size ∧ ¬ X k
theorem wp_region_xH {id : Nat} {l : List Oper} {a : Act} {w : World} (hm : P.follows .mixedOrders = true) (hc : certOk l.toArray (Region.before l.toArray) = true) (hsel : Region.noSelect l.toArray = true) (hok : l.toArray.all (okOp P) = true) (X : Nat → Prop) (H : HS D W L w) {Q' : Exit → Act → World → Prop}
    (h : ∀ w0, HS D W L w0 → w0.heap.size = w.heap.size → Same (Stay X w0) w0 w0 → wpX P l.toArray (SW.of (Stay X w0) w0) (fun a w => Q' .normal a w) l a w0) : (Code.region id l.toArray true).wp P Q' a w :=
  wp_region_x hm hc hsel hok (Stay X w) fun w0 hw0 hs => by
    have e : w0.heap.size = w.heap.size := by rw [hw0]; rfl
    have e2 : Stay X w = Stay X w0 := by unfold Stay; rw [e]
    rw [e2] at hs ⊢
    exact h w0 (by rw [hw0]; exact H.drew) e hs
theorem Stay.lt {X : Nat → Prop} {w0 : World} {k : Nat} (h : Stay X w0 k) : k < w0.heap.size := h.1
theorem Same.belowS {X : Nat → Prop} {w0 w w1 : World} (hs : Same (Stay X w0) w0 w) (hz : w0.heap.size ≤ w.heap.size) (hb : Below w.heap.size w w1) : Same (Stay X w0) w0 w1 := fun k hk => (hb.block k (Nat.lt_of_lt_of_le hk.1 hz)).trans (hs k hk)
end

/-- Where the blocks lie. -/
def ltsOf (n : Nat) : List Item → Prop
  | [] => True
  | .blk b _ _ :: L => b < n ∧ ltsOf n L
  | .dice _ b :: L => b < n ∧ ltsOf n L
  | .obj b _ :: L => b < n ∧ ltsOf n L
  | _ :: L => ltsOf n L
theorem ltsOf_of {w : World} : ∀ {L : List Item}, (∀ A ∈ L, A.ok w) → ltsOf w.heap.size L
  | [], _ => trivial
  | .blk b cs t :: L, h => ⟨Blk.lt (h (.blk b cs t) (by simp)), ltsOf_of fun A hA => h A (by simp [hA])⟩
  | .dice B b :: L, h => ⟨Dice.lt (h (.dice B b) (by simp)), ltsOf_of fun A hA => h A (by simp [hA])⟩
  | .row v e s n xs :: L, h => ltsOf_of (L := L) fun A hA => h A (by simp [hA])
  | .any F K :: L, h => ltsOf_of (L := L) fun A hA => h A (by simp [hA])
  | .obj b o :: L, h => ⟨lt_of_heap (h (.obj b o) (by simp)), ltsOf_of fun A hA => h A (by simp [hA])⟩
theorem ltsM {n : Nat} {R L : List Item} : ltsOf n (Item.many R :: L) = ltsOf n L := rfl
theorem HS.zs {D : Nat → Prop} {W w : World} {L : List Item} (h : HS D W L w) : ltsOf w.heap.size L := ltsOf_of h.ok

/-! ### A struct or an array stored as a whole -/
/-- The cells from k on, one after the other. -/
def setAll (b : Nat) : Nat → List Value → World → World
  | _, [], w => w
  | k, v :: vs, w => setAll b (k + 1) vs (w.setCell ⟨b, k, none⟩ v)
def setArr : Nat → List Value → Array Value → Array Value
  | _, [], cs => cs
  | k, v :: vs, cs => setArr (k + 1) vs (cs.setIfInBounds k v)
theorem setArr_list : ∀ (vs : List Value) (k : Nat) (cs : Array Value) (pre rest : List Value), cs.toList = pre ++ rest → pre.length = k → rest.length = vs.length → (setArr k vs cs).toList = pre ++ vs
  | [], k, cs, pre, rest, h, hk, hr => by
    have : rest = [] := List.eq_nil_of_length_eq_zero (by simpa using hr)
    subst this
    exact h
  | v :: vs, k, cs, pre, rest, h, hk, hr => by
    cases rest with
    | nil => simp at hr
    | cons x rest =>
      have h2 : (cs.setIfInBounds k v).toList = (pre ++ [v]) ++ rest := by
        rw [Array.toList_setIfInBounds, h, ← hk]
        simp
      have := setArr_list vs (k + 1) (cs.setIfInBounds k v) (pre ++ [v]) rest h2 (by simp [hk]) (by simpa using hr)
      unfold setArr
      simpa using this
theorem setArr_all {cs : Array Value} {vs : List Value} (h : cs.size = vs.length) : setArr 0 vs cs = vs.toArray := by
  have := setArr_list vs 0 cs [] cs.toList rfl rfl (by simpa using h)
  apply Array.ext'
  simpa using this
theorem setAll_blk : ∀ (vs : List Value) (b k : Nat) (w : World) (cs : Array Value) (t : TypeId), Blk w b cs t → Blk (setAll b k vs w) b (setArr k vs cs) t
  | [], _, _, _, _, _, h => h
  | v :: vs, b, k, w, cs, t, h => setAll_blk vs b (k + 1) _ _ t (h.set k v)
theorem setAll_same : ∀ (vs : List Value) (b k : Nat) (w : World), (setAll b k vs w).os = w.os ∧ (setAll b k vs w).tape = w.tape ∧ (setAll b k vs w).output = w.output ∧ (setAll b k vs w).heap.size = w.heap.size ∧ ∀ j, j ≠ b → (setAll b k vs w).heap[j]? = w.heap[j]?
  | [], _, _, _ => ⟨rfl, rfl, rfl, rfl, fun _ _ => rfl⟩
  | v :: vs, b, k, w => by
    obtain ⟨h1, h2, h3, h4, h5⟩ := setAll_same vs b (k + 1) (w.setCell ⟨b, k, none⟩ v)
    exact ⟨h1, h2, h3, h4.trans (by simp [World.setCell]), fun j hj => (h5 j hj).trans (Below.heap_setCell _ _ _ _ hj)⟩
theorem HS.putAll {D : Nat → Prop} {W w : World} {L : List Item} (h : HS D W L w) (i : Nat) {b : Nat} {cs : Array Value} {t : TypeId} (hi : L[i]? = some (.blk b cs t)) {vs : List Value} (hz : cs.size = vs.length) {L' : List Item} (hL : L.set i (.blk b vs.toArray t) = L') : HS D W L' (setAll b 0 vs w) := by
  subst hL
  rw [set_at _ hi]
  rw [split_at hi] at h
  obtain ⟨h1, h2, h3, h4, h5⟩ := setAll_same vs b 0 w
  refine h.swap (X := .blk b cs t) h1 h2 h3 (by omega) (fun k hk hn => h5 k hn) ?_ (fun k hk => .inl hk) (.inr rfl)
  have := setAll_blk vs b 0 w cs t (h.ok (.blk b cs t) (by simp))
  rwa [setArr_all hz] at this
end Go.Proofs.Ytdhnpjgnnfgklaa

/- Slices of one's own in the bundle: append, made slices, what a call hands back. -/
namespace Go.Proofs.Ytdhnpjgnnfgklaa
set_option linter.unusedSimpArgs false
set_option linter.unusedVariables false
open Go.RowKit

/-- The slice type t has elements of type e, whose zero is z, of so many cells and bytes. -/
structure Elem (P : Program) (t e : TypeId) (z : Value) (size bytes : Nat) : Prop where
  ht : P.underlying t = some (.slice e)
  hi : ∃ i, P.info? e = some i ∧ i.zero = some z ∧ i.size = size ∧ i.bytes = bytes
  hzs : z.cells.size = size
  pos : 0 < size
theorem Elem.mk' {P : Program} {t e : TypeId} {z : Value} {size bytes : Nat} (ht : P.underlying t = some (.slice e)) (hi : (P.info? e).map (fun i => (i.zero, i.size, i.bytes)) = some (some z, size, bytes)) (hzs : z.cells.size = size) (pos : 0 < size) : Elem P t e z size bytes := by
  obtain ⟨i, h1, h2, h3, h4⟩ := info_parts hi
  exact ⟨ht, ⟨i, h1, h2, h3, h4⟩, hzs, pos⟩

section
variable {P : Program} {D : Nat → Prop} {W w : World} {L : List Item}
theorem ownsRow_zero {base : Nat} {e : TypeId} {s n : Nat} {v : Value} {xs : List Value} (h : w.ownsRow base e s v n xs) : w.ownsRow 0 e s v n xs := by
  obtain ⟨h1, h2⟩ := h
  refine ⟨h1, ?_⟩
  rcases h2 with h2 | ⟨g, cap, cur, hv, hg, r⟩
  · exact .inl h2
  · exact .inr ⟨g, cap, cur, hv, Nat.zero_le _, r⟩
theorem ownsRow_fp {base : Nat} {e : TypeId} {s n : Nat} {v : Value} {xs : List Value} (h : w.ownsRow base e s v n xs) {k : Nat} (hk : v.ownBlock = some k) : base ≤ k := by
  obtain ⟨h1, h2⟩ := h
  rcases h2 with ⟨h2, _⟩ | ⟨g, cap, cur, hv, hg, r⟩
  · rw [h2] at hk; cases hk
  · rw [hv] at hk
    obtain rfl : g = k := by simpa [Value.ownBlock] using hk
    exact hg
theorem HS.rowOut (h : HS NoD W L w) (k : Nat) {v : Value} {e : TypeId} {s n : Nat} {xs : List Value} (hk : L[k]? = some (.row v e s n xs)) : w.ownsRow W.heap.size e s v n xs := by
  have h1 : w.ownsRow 0 e s v n xs := h.at k hk
  have h2 := h.own _ (List.mem_of_getElem? hk)
  obtain ⟨h3, h4⟩ := h1
  refine ⟨h3, ?_⟩
  rcases h4 with h4 | ⟨g, cap, cur, hv, hg, r⟩
  · exact .inl h4
  · refine .inr ⟨g, cap, cur, hv, ?_, r⟩
    rcases h2 g (by show v.ownBlock = some g; rw [hv]; rfl) with h | h
    · exact h
    · exact h.elim
/-- A call that hands back a new slice. -/
theorem HS.getsRow {w' : World} (h : HS D W L w) (hb : Below w.heap.size w w') {v : Value} {e : TypeId} {s n : Nat} {xs : List Value} (hr : w'.ownsRow w.heap.size e s v n xs) : HS D W (L ++ [.row v e s n xs]) w' :=
  h.gets (A := .row v e s n xs) hb (ownsRow_zero hr) (fun k hk => ownsRow_fp hr hk) ⟨Nat.zero_le _, fun k hk => absurd hk (Nat.not_lt_zero _)⟩
/-- The nil slice is one's own. -/
theorem HS.nilRow (h : HS D W L w) (e : TypeId) (s : Nat) : HS D W (L ++ [.row (.slice none 0 0) e s 0 []]) w :=
  HS.add h h.lts h.size (A := .row (.slice none 0 0) e s 0 []) (World.ownsRow_nil w 0 e s) (fun k hk => by cases (show (none : Option Nat) = some k from hk)) ⟨Nat.zero_le _, fun k hk => absurd hk (Nat.not_lt_zero _)⟩

/-- The numbers that came in, as Roll wants them. -/
theorem HS.ints (h : HS NoD W L w) {sa : Option Addr} {len : Nat} (hI : Ints W sa len) : ∀ j, j < len → ∃ a n, sa = some a ∧ a.block < W.heap.size ∧ w.cell? (a.add j) = some (.int .i64 n) := fun j hj => by
  obtain ⟨a, n, e, hc⟩ := hI j hj
  have hlt := World.block_lt_of_cell? (w := W) (a := a.add j) hc
  refine ⟨a, n, e, by rwa [block_add] at hlt, (h.was hlt id).trans hc⟩
theorem HS.getsDice {w' : World} (h : HS NoD W L w) {B b : Nat} (hb : Below w.heap.size w w') (hd : Dice B w' b) (hbb : w.heap.size ≤ b) (hB : B ≤ W.heap.size) : HS NoD W (L ++ [.dice B b]) w' :=
  h.gets (A := .dice B b) hb hd (fun k hk => by rw [show k = b from hk]; exact hbb) ⟨hB, fun k _ e => e⟩
theorem grown_row {w' : World} (h : HS D W L w) (k : Nat) {v : Value} {e : TypeId} {size n n' : Nat} {xs ys : List Value} (hk : L[k]? = some (.row v e size n xs)) {g cap : Nat} (h2 : w'.ownsRow 0 e size (.slice (some ⟨g, 0, none⟩) n' cap) n' ys) (h3 : w.grownBy w' v.ownBlock) (h4 : v.ownBlock = some g ∨ g = w.heap.size) :
    HS D W (L.set k (.row (.slice (some ⟨g, 0, none⟩) n' cap) e size n' ys)) w' :=
  h.grownAt k hk h3 (.inr ⟨h2, fun b hb => by
    obtain rfl : g = b := by simpa [Value.ownBlock] using hb
    rcases h4 with h4 | h4
    · exact .inl h4
    · exact .inr (by omega)⟩)

/-- 'append' onto a slice of one's own, at a plain region's list. -/
theorem wpList_append_H {ops : Array Oper} {rest : List Oper} {o : Oper} {a : Act} {Q : Exit → Act → World → Prop} (hgd : o.guard = none) (s x : Operand) (t : TypeId)
    (ho : o.op = .call { callee := .builtin .append, args := #[s, x], argTypes := #[t, t] }) {e : TypeId} {z : Value} {size bytes : Nat} (hE : Elem P t e z size bytes)
    (H : HS D W L w) (k : Nat) {v : Value} {n : Nat} {xs : List Value} (hk : L[k]? = some (.row v e size n xs)) (hs : a.eval s = v)
    {b : Nat} {cs : Array Value} {tt : TypeId} {m c : Nat} (j : Nat) (hj : L[j]? = some (.blk b cs tt)) (hx : a.eval x = .slice (some ⟨b, 0, none⟩) m c) (hl : cs.size = m * size) (h1 : cs.toList.all (·.oneCell') = true)
    (hm : 0 < m) (h63 : n + m ≤ maxLen) (hbytes : (n + m) * bytes ≤ 140737488355328)
    (h : ∀ g cap w', HS D W (L.set k (.row (.slice (some ⟨g, 0, none⟩) (n + m) cap) e size (n + m) (xs ++ cs.toList))) w' → wpList P ops Q rest (a.put o.dst (.slice (some ⟨g, 0, none⟩) (n + m) cap)) w') : wpList P ops Q (o :: rest) a w := by
  obtain ⟨i, i1, i2, i3, i4⟩ := hE.hi
  have hb : w.heap[b]? = some (.cells cs tt (0, 0)) := H.at j hj
  exact wpList_append_lies w hgd s x t ho 0 e i z size bytes hE.ht i1 i2 i3 i4 hE.hzs hE.pos v n xs hs (H.at k hk) ⟨b, 0, none⟩ m c cs.toList hx (by simpa using hl) (World.news_of_block hb) (fun u hu => List.all_eq_true.1 h1 u hu) hm h63 hbytes (Nat.zero_le _) w.heap.size rfl
    fun g cap w' h2 h3 h4 h5 => h g cap w' (grown_row H k hk h2 h3 h4)
end
end Go.Proofs.Ytdhnpjgnnfgklaa
