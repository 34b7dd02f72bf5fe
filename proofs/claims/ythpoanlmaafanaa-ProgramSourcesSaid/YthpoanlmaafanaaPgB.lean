/- The pages of programs as a map: what an operation does to them, in plain words; the map in memory. -/
import Derived.Test.YthpoanlmaafanaaPgO
import Derived.Test.YthpoanlmaafanaaMapG
namespace Go.Proofs.Ythpoanlmaafanaa
set_option linter.unusedSimpArgs false
set_option linter.unusedVariables false
open Go.RowKit
set_option maxRecDepth 100000
attribute [local irreducible] wpX wpF Calls

structure Q4 where
  a : Int
  b : Int
  c : Int
  d : Int
deriving Inhabited, DecidableEq
def vQ (q : Q4) : Value := .agg #[.int .i64 q.a, .int .i64 q.b, .int .i64 q.c, .int .i64 q.d]
def kU (x : Int × Int) : Value := .agg #[.int .i64 x.1, .int .i64 x.2]
def Q4.put (q : Q4) (w i : Int) : Q4 := if w = 0 then { q with a := i } else if w = 1 then { q with b := i } else if w = 2 then { q with c := i } else if w = 3 then { q with d := i } else q
def Q4.get (q : Q4) (w : Int) : Int := if w = 0 then q.a else if w = 1 then q.b else if w = 2 then q.c else q.d
theorem vQ_inj {p q : Q4} (h : vQ p = vQ q) : p = q := by
  obtain ⟨a, b, c, d⟩ := p
  obtain ⟨a', b', c', d'⟩ := q
  simp [vQ] at h
  obtain ⟨h1, h2, h3, h4⟩ := h
  subst h1 h2 h3 h4
  rfl
abbrev PgF := Int × Int → Option Q4
def forkF (p o : Int) (f : PgF) : PgF := fun y => if y.1 = o then f (p, y.2) else f y
def doF (i : Int) (x : Ox) (f : PgF) : PgF :=
  if meansO x = false then f
  else if x.k = 3 then fun y => if y = (x.p, x.g) ∧ f (x.p, x.g) = none then some ⟨i, i, i, i⟩ else f y
  else if x.k = 5 then fun y => if y = (x.p, x.g) then none else f y
  else if x.k = 2 then fun y => if y = (x.p, x.g) then (f (x.p, x.g)).map (fun q => q.put x.w i) else f y
  else if x.k = 4 then forkF x.p x.o f
  else f
/-- A map in memory, as what stands at each key. -/
def MapAt (w : World) (b : Nat) (f : PgF) : Prop := ∃ es clock M, w.heap[b]? = some (.map es clock) ∧ MapG kU es clock M ∧ ∀ x, getG x M = (f x).map vQ
theorem MapAt.lt {w : World} {b : Nat} {f : PgF} (h : MapAt w b f) : b < w.heap.size := by
  obtain ⟨es, clock, M, h1, -⟩ := h
  exact lt_of_heap h1
theorem HS.startObj {w : World} {b : Nat} {o : Obj} (h : w.heap[b]? = some o) : HS (OneD b) w [.obj b o] w :=
  ⟨rfl, rfl, rfl, Nat.le_refl _, fun _ _ _ => rfl, fun A hA => (by cases List.mem_singleton.1 hA; exact h), fun A hA k hk => (by cases List.mem_singleton.1 hA; exact .inr hk),
   fun A hA => by cases List.mem_singleton.1 hA; exact ⟨Nat.zero_le _, fun k hk => absurd hk (Nat.not_lt_zero _)⟩, List.pairwise_singleton _ _⟩
theorem chkU (x : Int × Int) (e : Bool) (w : World) : (Instr.checkKey e 10000 40 (kU x)).run Try.prog w = .ok () w := by
  kernel_rfl
theorem eqU (x y : Int × Int) (w : World) : (Op.equal 40 (kU x) (kU y)).run Try.prog w = .ok (decide (x = y)) w := by
  obtain ⟨a, b⟩ := x
  obtain ⟨c, d⟩ := y
  have h : (Op.equal 40 (kU (a, b)) (kU (c, d))).run Try.prog w = .ok (a == c && b == d) w := by
    show (Op.equalIn 10000 40 (.agg #[.int .i64 a, .int .i64 b]) (.agg #[.int .i64 c, .int .i64 d])).run Try.prog w = .ok (a == c && b == d) w
    go_simp
    by_cases h1 : a = c <;> by_cases h2 : b = d <;> simp [h1, h2]
  rw [h]
  congr 1
  by_cases h1 : a = c
  · by_cases h2 : b = d
    · simp [h1, h2]
    · simp [h1, h2]
  · simp [h1]
theorem undU : ∃ d, Try.prog.underlying 40 = some d ∧ ∀ x y, Instr.sameNow d (kU x) (kU y) = none := by
  refine ⟨_, Try.underlying40, ?_⟩
  intro x y
  rfl
theorem keepU (x : Int × Int) (w : World) : (Instr.keyThatStays (kU x) (kU x)).run Try.prog w = .ok (kU x) w := by
  obtain ⟨a, b⟩ := x
  simp [Instr.keyThatStays, kU, Instr.sameBits]
theorem keyU : KeyOk Try.prog 40 kU := ⟨chkU, eqU, undU, keepU⟩
end Go.Proofs.Ythpoanlmaafanaa
