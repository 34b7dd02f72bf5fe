/- Plain words on worlds, kept by all texts of this seat: a world in which one block alone may have turned; a stream of numbers in memory. -/
import Derived.Test.YtfmcicmbehjdcaaRows
import Derived.WalkKit
import Derived.WalkSpells
import Derived.WalkLawsBesides
import Derived.Deep.QuietTactic
import Derived.BigQuiet
import Derived.Deep.RegionHeld3
import Derived.Lib.Hide
import Derived.IntWalk
namespace Go.Proofs.Ytfmcicmbehjdcaa
set_option linter.unusedSimpArgs false
set_option linter.unusedVariables false
open Go.RowKit

/-- Every block that was there is as it was, block b perhaps not. -/
structure Chg (b : Nat) (w w' : World) : Prop where
  os : w'.os = w.os
  tape : w'.tape = w.tape
  output : w'.output = w.output
  size : w.heap.size ≤ w'.heap.size
  block : ∀ k, k < w.heap.size → k ≠ b → w'.heap[k]? = w.heap[k]?

theorem Chg.refl (b : Nat) (w : World) : Chg b w w := ⟨rfl, rfl, rfl, Nat.le_refl _, fun _ _ _ => rfl⟩
theorem Chg.trans {b : Nat} {u v w : World} (h : Chg b u v) (k : Chg b v w) : Chg b u w :=
  ⟨k.os.trans h.os, k.tape.trans h.tape, k.output.trans h.output, Nat.le_trans h.size k.size, fun i hi hb => (k.block i (Nat.lt_of_lt_of_le hi h.size) hb).trans (h.block i hi hb)⟩
theorem Chg.drew {b : Nat} {u w : World} (h : Chg b u w) : Chg b u w.drew := ⟨h.os, h.tape, h.output, h.size, h.block⟩
theorem Chg.drewN {b : Nat} {u w : World} (h : Chg b u w) (n : Nat) : Chg b u (w.drewN n) := ⟨h.os, h.tape, h.output, h.size, h.block⟩
theorem Chg.alloc {b : Nat} {u w : World} (h : Chg b u w) (o : Obj) : Chg b u (w.alloc o) :=
  h.trans ⟨rfl, rfl, rfl, by simp, fun k hk _ => Below.heap_alloc _ _ _ hk⟩
theorem Chg.setCell {b : Nat} {u w : World} (h : Chg b u w) {p : Addr} (hp : p.block = b ∨ u.heap.size ≤ p.block) (x : Value) : Chg b u (w.setCell p x) := by
  refine ⟨h.os, h.tape, h.output, ?_, fun k hk hb => ?_⟩
  · simpa [World.setCell] using h.size
  · rw [Below.heap_setCell _ _ _ _ (by omega)]; exact h.block k hk hb
theorem Chg.below {b B : Nat} {u v w : World} (h : Below B u v) (k : Chg b v w) (hB : B ≤ b) (hs : B ≤ v.heap.size) : Below B u w :=
  h.trans ⟨k.os, k.tape, k.output, k.size, fun i hi => k.block i (by omega) (by omega)⟩
theorem Chg.of_below {b : Nat} {u w : World} (h : Below u.heap.size u w) : Chg b u w := ⟨h.os, h.tape, h.output, h.size, fun k hk _ => h.block k hk⟩
theorem Below.chg {b : Nat} {u v w : World} (h : Chg b u v) (k : Below v.heap.size v w) : Chg b u w := h.trans (Chg.of_below k)
theorem Chg.cell {b : Nat} {w w' : World} (h : Chg b w w') (k o : Nat) (hk : k < w.heap.size) (hb : k ≠ b) : w'.cell? ⟨k, o, none⟩ = w.cell? ⟨k, o, none⟩ := World.cell?_of_block (h.block k hk hb)
theorem Chg.frozen {b : Nat} {w w' : World} (h : Chg b w w') (k o : Nat) (hk : k < w.heap.size) (hb : k ≠ b) : w'.frozen? ⟨k, o, none⟩ = w.frozen? ⟨k, o, none⟩ := World.frozen?_of_block (h.block k hk hb)
theorem bcell {W w1 : World} (hb : Below W.heap.size W w1) : (∀ b o, b < W.heap.size → w1.cell? ⟨b, o, none⟩ = W.cell? ⟨b, o, none⟩) ∧ (∀ b o, b < W.heap.size → w1.frozen? ⟨b, o, none⟩ = W.frozen? ⟨b, o, none⟩) :=
  ⟨fun b o h => hb.cell (p := ⟨b, o, none⟩) h, fun b o h => hb.frozen (p := ⟨b, o, none⟩) h⟩
theorem quiet_eq {P : Program} {f : FuncId} {args : Array Value} {w : World} {n : Nat} {v : Value} (h : Calls P f args (w.drewN n) fun e w' => e = .returned v ∧ w.drewN n = w') :
    Calls P f args (w.drewN n) fun e w'' => e = .returned v ∧ ∃ m, w'' = w.drewN m := h.mono fun _ _ ⟨he, hm⟩ => ⟨he, n, hm.symm⟩
theorem ret_int {k : IntKind} {a b : Int} (h : a = b) : Ending.returned (.int k a) = .returned (.int k b) := by rw [h]

/-- A stream of numbers (made.Dice) lies in block b, at or behind block B; its list lies below B. -/
def Dice (B : Nat) (w : World) (b : Nat) : Prop := ∃ (sa : Option Addr) (len cap k : Nat), B ≤ b ∧
  w.heap[b]? = some (.cells #[.slice sa len cap, .int .i64 k] 61 (0, 0)) ∧ k ≤ len ∧ len ≤ 400 ∧
    (∀ j, j < len → ∃ a n, sa = some a ∧ a.block < B ∧ w.cell? (a.add j) = some (.int .i64 n))

theorem block_add (a : Addr) (j : Nat) : (a.add j).block = a.block := by
  unfold Addr.add; split <;> rfl
theorem lt_of_heap {w : World} {b : Nat} {o : Obj} (h : w.heap[b]? = some o) : b < w.heap.size := by
  rcases Nat.lt_or_ge b w.heap.size with h' | h'
  · exact h'
  · simp [Array.getElem?_eq_none h'] at h

theorem Dice.of_blocks {B : Nat} {w w' : World} {b : Nat} (h : Dice B w b) (hb : w'.heap[b]? = w.heap[b]?) (hlow : ∀ k, k < B → k < w.heap.size → w'.heap[k]? = w.heap[k]?) : Dice B w' b := by
  obtain ⟨sa, len, cap, k, h0, h1, h2, h3, h4⟩ := h
  refine ⟨sa, len, cap, k, h0, hb.trans h1, h2, h3, fun j hj => ?_⟩
  obtain ⟨a, n, e, hlt, hc⟩ := h4 j hj
  refine ⟨a, n, e, hlt, ?_⟩
  have hs := World.block_lt_of_cell? (w := w) (a := a.add j) hc
  rw [← hc]
  exact World.cell?_of_block (hlow _ (by rw [block_add]; exact hlt) hs)

theorem Dice.lt {B : Nat} {w : World} {b : Nat} (h : Dice B w b) : b < w.heap.size := by
  obtain ⟨sa, len, cap, k, h0, h1, _⟩ := h
  exact lt_of_heap h1
theorem Dice.base {B : Nat} {w : World} {b : Nat} (h : Dice B w b) : B ≤ b := by
  obtain ⟨sa, len, cap, k, h0, h1, _⟩ := h
  exact h0
theorem Dice.below {B : Nat} {w w' : World} {b : Nat} (h : Dice B w b) (hb : Below w.heap.size w w') : Dice B w' b :=
  h.of_blocks (hb.block b h.lt) (fun k _ hk => hb.block k hk)
theorem Dice.drew {B : Nat} {w : World} {b : Nat} (h : Dice B w b) : Dice B w.drew b := h
theorem Dice.drewN {B : Nat} {w : World} {b : Nat} (h : Dice B w b) (n : Nat) : Dice B (w.drewN n) b := h
theorem Dice.alloc {B : Nat} {w : World} {b : Nat} (h : Dice B w b) (o : Obj) : Dice B (w.alloc o) b := h.below ((Below.refl _ _).alloc (Nat.le_refl _) _)
theorem Dice.setCell {B : Nat} {w : World} {b : Nat} (h : Dice B w b) {p : Addr} (hp : B ≤ p.block) (hne : p.block ≠ b) (x : Value) : Dice B (w.setCell p x) b :=
  h.of_blocks (Below.heap_setCell _ _ _ _ (by omega)) (fun k hk _ => Below.heap_setCell _ _ _ _ (by omega))

/-- Block n holds just these cells, not frozen. -/
def Blk (w : World) (n : Nat) (cs : Array Value) (t : TypeId) : Prop := w.heap[n]? = some (.cells cs t (0, 0))
theorem Blk.cell {w : World} {n : Nat} {cs : Array Value} {t : TypeId} (h : Blk w n cs t) : ∀ o, w.cell? ⟨n, o, none⟩ = cs[o]? := fun o => by
  unfold Blk at h; simp [World.cell?, h]
theorem Blk.free {w : World} {n : Nat} {cs : Array Value} {t : TypeId} (h : Blk w n cs t) : ∀ o, w.frozen? ⟨n, o, none⟩ = false := fun o => by
  unfold Blk at h; simp [World.frozen?, h]
theorem Blk.lt {w : World} {n : Nat} {cs : Array Value} {t : TypeId} (h : Blk w n cs t) : n < w.heap.size := lt_of_heap h
theorem Blk.chg {w w1 : World} {n b : Nat} {cs : Array Value} {t : TypeId} (h : Blk w n cs t) (hg : Chg b w w1) (hn : n ≠ b) : Blk w1 n cs t := (hg.block n h.lt hn).trans h
theorem Blk.below {w w1 : World} {n : Nat} {cs : Array Value} {t : TypeId} (h : Blk w n cs t) (hb : Below w.heap.size w w1) : Blk w1 n cs t := (hb.block n h.lt).trans h
theorem Blk.drew {w : World} {n : Nat} {cs : Array Value} {t : TypeId} (h : Blk w n cs t) : Blk w.drew n cs t := h
theorem Blk.drewN {w : World} {n : Nat} {cs : Array Value} {t : TypeId} (h : Blk w n cs t) (k : Nat) : Blk (w.drewN k) n cs t := h
theorem Blk.new (w : World) (cs : Array Value) (t : TypeId) : Blk (w.alloc (.cells cs t)) w.heap.size cs t := by
  show (w.heap.push _)[w.heap.size]? = _
  simp
theorem Blk.alloc {w : World} {n : Nat} {cs : Array Value} {t : TypeId} (h : Blk w n cs t) (o : Obj) : Blk (w.alloc o) n cs t := h.below ((Below.refl _ _).alloc (Nat.le_refl _) _)
theorem Blk.set {w : World} {n : Nat} {cs : Array Value} {t : TypeId} (h : Blk w n cs t) (i : Nat) (v : Value) : Blk (w.setCell ⟨n, i, none⟩ v) n (cs.setIfInBounds i v) t := by
  unfold Blk at *
  show (w.heap.modify n _)[n]? = _
  rw [Array.getElem?_modify]; simp [h]
theorem Blk.other {w : World} {n : Nat} {cs : Array Value} {t : TypeId} (h : Blk w n cs t) {p : Addr} (hp : n ≠ p.block) (v : Value) : Blk (w.setCell p v) n cs t := (Below.heap_setCell _ _ _ _ hp).trans h

/-- What the walk's simp needs of a call that leaves all that was there: cells, marks, and that old numbers are not new ones. -/
theorem rules_of_below {W w1 : World} (h : Below W.heap.size W w1) :
    (∀ b o, b < W.heap.size → w1.cell? ⟨b, o, none⟩ = W.cell? ⟨b, o, none⟩) ∧ (∀ b o, b < W.heap.size → w1.frozen? ⟨b, o, none⟩ = W.frozen? ⟨b, o, none⟩) ∧
    (∀ k, k < W.heap.size → k < w1.heap.size) ∧ (∀ k, k < W.heap.size → (w1.heap.size = k) = False) ∧ (∀ k, k < W.heap.size → (k = w1.heap.size) = False) :=
  ⟨(bcell h).1, (bcell h).2, fun k hk => Nat.lt_of_lt_of_le hk h.size, fun k hk => eq_false (by have := h.size; omega), fun k hk => eq_false (by have := h.size; omega)⟩
theorem rules_of_chg {W w1 : World} {d : Nat} (h : Chg d W w1) (hd : d < W.heap.size) :
    (∀ b o, b < W.heap.size → b ≠ d → w1.cell? ⟨b, o, none⟩ = W.cell? ⟨b, o, none⟩) ∧ (∀ b o, b < W.heap.size → b ≠ d → w1.frozen? ⟨b, o, none⟩ = W.frozen? ⟨b, o, none⟩) ∧
    (∀ k, k < W.heap.size → k < w1.heap.size) ∧ (∀ k, k < W.heap.size → (w1.heap.size = k) = False) ∧ (∀ k, k < W.heap.size → (k = w1.heap.size) = False) :=
  ⟨fun b o h1 h2 => h.cell b o h1 h2, fun b o h1 h2 => h.frozen b o h1 h2, fun k hk => Nat.lt_of_lt_of_le hk h.size, fun k hk => eq_false (by have := h.size; omega), fun k hk => eq_false (by have := h.size; omega)⟩
theorem lt_more {a b n : Nat} (h : a < b) : (a < b + n) = True := eq_true (by omega)
theorem ne_more {a b n : Nat} (h : a < b) : (b + n = a) = False := eq_false (by omega)
theorem ne_more' {a b n : Nat} (h : a < b) : (a = b + n) = False := eq_false (by omega)
theorem lt_new {a n : Nat} : (a < a + (n + 1)) = True := eq_true (by omega)
theorem lt_both {a m n : Nat} (h : m < n) : (a + m < a + n) = True := eq_true (by omega)
theorem below_drewN {B : Nat} {a w : World} (h : Below B a w) (n : Nat) : Below B a (w.drewN n) := ⟨h.os, h.tape, h.output, h.size, h.block⟩
theorem ne_of_bne {a b : Int} (h : (a != b) = true) : a ≠ b := by simpa using h
theorem eq_of_bne {a b : Int} (h : (a != b) = false) : a = b := by simpa using h
theorem Blk.grown {w w' : World} {n : Nat} {cs : Array Value} {t : TypeId} {row : Option Nat} (h : Blk w n cs t) (hg : w.grownBy w' row) (hne : some n ≠ row) : Blk w' n cs t := (hg.block n h.lt hne).trans h
theorem Blk.ne {w : World} {n : Nat} {cs : Array Value} {t : TypeId} (h : Blk w n cs t) : (n = w.heap.size) = False := eq_false (by have := h.lt; omega)
end Go.Proofs.Ytfmcicmbehjdcaa
