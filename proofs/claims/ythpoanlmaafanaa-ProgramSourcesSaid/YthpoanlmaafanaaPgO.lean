/- Operations of programs: plain words. -/
import Derived.Test.YthpoanlmaafanaaMany
import Derived.Test.YthpoanlmaafanaaDice
namespace Go.Proofs.Ythpoanlmaafanaa
set_option linter.unusedSimpArgs false
set_option linter.unusedVariables false
open Go.RowKit
set_option maxRecDepth 100000

structure Ox where
  k : Int
  p : Int
  g : Int
  w : Int
  o : Int
  sa : Option Addr
  n : Nat
  c : Nat
deriving Inhabited, DecidableEq
def oxC (x : Ox) : List Value := [.int .i64 x.k, .int .i64 x.p, .int .i64 x.g, .int .i64 x.w, .int .i64 x.o, .slice x.sa x.n x.c]
theorem oxC_len (x : Ox) : (oxC x).length = 6 := rfl
def vOx (x : Ox) : Value := .agg #[.int .i64 x.k, .int .i64 x.p, .int .i64 x.g, .int .i64 x.w, .int .i64 x.o, .slice x.sa x.n x.c]
def inB (n lo hi : Int) : Bool := decide (lo ≤ n) && decide (n ≤ hi)
def validO (size : Int) (x : Ox) : Bool :=
  inB size 1 32 && inB x.p 1 999 && inB x.g 0 999 &&
    (if x.k = 1 then inB x.w 0 3 && decide (x.n = 0) && decide (x.o = 0)
     else if x.k = 2 then inB x.w 0 3 && decide ((x.n : Int) = size) && decide (x.o = 0)
     else if x.k = 3 ∨ x.k = 5 ∨ x.k = 6 then decide (x.w = 0) && decide (x.o = 0) && decide (x.n = 0)
     else if x.k = 4 then inB x.o 1 999 && !decide (x.o = x.p) && decide (x.g = 0) && decide (x.w = 0) && decide (x.n = 0)
     else false)
def meansO (x : Ox) : Bool := validO (max 1 x.n) x
theorem inB_t {n lo hi : Int} : inB n lo hi = true ↔ lo ≤ n ∧ n ≤ hi := by unfold inB; simp
theorem inB_f {n lo hi : Int} : inB n lo hi = false ↔ n < lo ∨ hi < n := by
  cases h : inB n lo hi with
  | true => rw [inB_t] at h; simp; omega
  | false =>
    refine ⟨fun _ => ?_, fun _ => rfl⟩
    refine Classical.byContradiction fun hn => ?_
    rw [inB_t.2 (by omega)] at h
    cases h
end Go.Proofs.Ythpoanlmaafanaa
