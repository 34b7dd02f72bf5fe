/- Package part: what its functions return, for valid shapes and places. -/
import Derived.Test.YtdhnpjgnnfgklaaK1
import Derived.Handy
namespace Go.Proofs.Ytdhnpjgnnfgklaa
set_option linter.unusedSimpArgs false
set_option linter.unusedVariables false
open Go.RowKit
set_option maxRecDepth 100000

theorem ix0 (a b c d e f : Value) (w : World) : (Instr.index 81 (.agg #[a, b, c, d, e, f]) (.int .i64 0)).run Try.prog w = .ok a w := by kernel_rfl
theorem ix1 (a b c d e f : Value) (w : World) : (Instr.index 81 (.agg #[a, b, c, d, e, f]) (.int .i64 1)).run Try.prog w = .ok b w := by kernel_rfl
theorem ix2 (a b c d e f : Value) (w : World) : (Instr.index 81 (.agg #[a, b, c, d, e, f]) (.int .i64 2)).run Try.prog w = .ok c w := by kernel_rfl
theorem ix3 (a b c d e f : Value) (w : World) : (Instr.index 81 (.agg #[a, b, c, d, e, f]) (.int .i64 3)).run Try.prog w = .ok d w := by kernel_rfl
theorem ix4 (a b c d e f : Value) (w : World) : (Instr.index 81 (.agg #[a, b, c, d, e, f]) (.int .i64 4)).run Try.prog w = .ok e w := by kernel_rfl
theorem ix5 (a b c d e f : Value) (w : World) : (Instr.index 81 (.agg #[a, b, c, d, e, f]) (.int .i64 5)).run Try.prog w = .ok f w := by kernel_rfl
attribute [local go_sem] ix0 ix1 ix2 ix3 ix4 ix5

/-- Six numbers as a value. -/
@[reducible] def v6 (a b c d e f : Int) : Value := .agg #[.int .i64 a, .int .i64 b, .int .i64 c, .int .i64 d, .int .i64 e, .int .i64 f]
/-- The call only computes: it hands back v, and all that was there is as it was. -/
def Gives (v : Value) (w : World) (e : Ending) (w' : World) : Prop := e = .returned v ∧ Below w.heap.size w w'

theorem widths_any (a b c d e f : Int) (w : World) : Calls Try.prog 59 #[v6 a b c d e f] w (Gives (v6 a b c d e f) w) := by
  go_enter Try.func59, Try.ntmps59
  go_wp2
  go_returns
  refine ⟨rfl, ?_⟩
  go_grown
theorem numbers_any (a b c d e f : Int) (w : World) : Calls Try.prog 60 #[v6 a b c d e f] w (Gives (v6 a b c d e f) w) := by
  go_enter Try.func60, Try.ntmps60
  go_wp2
  go_returns
  refine ⟨rfl, ?_⟩
  go_grown
/-- A valid shape. -/
structure SV (a b c d e f : Int) : Prop where
  ha : 0 ≤ a ∧ a ≤ 12
  hb : 0 ≤ b ∧ b ≤ 12
  hc : 0 ≤ c ∧ c ≤ 12
  hd : 0 ≤ d ∧ d ≤ 12
  he : 0 ≤ e ∧ e ≤ 12
  hf : 0 ≤ f ∧ f ≤ 12
  sum : a + b + c + d + e + f ≤ 12
instance (a b c d e f : Int) : Decidable (SV a b c d e f) :=
  decidable_of_iff ((0 ≤ a ∧ a ≤ 12) ∧ (0 ≤ b ∧ b ≤ 12) ∧ (0 ≤ c ∧ c ≤ 12) ∧ (0 ≤ d ∧ d ≤ 12) ∧ (0 ≤ e ∧ e ≤ 12) ∧ (0 ≤ f ∧ f ≤ 12) ∧ a + b + c + d + e + f ≤ 12)
    ⟨fun ⟨a, b, c, d, e, f, g⟩ => ⟨a, b, c, d, e, f, g⟩, fun ⟨a, b, c, d, e, f, g⟩ => ⟨a, b, c, d, e, f, g⟩⟩
theorem not_SV {a b c d e f : Int} (h : ¬ ((0 ≤ a ∧ a ≤ 12) ∧ (0 ≤ b ∧ b ≤ 12) ∧ (0 ≤ c ∧ c ≤ 12) ∧ (0 ≤ d ∧ d ≤ 12) ∧ (0 ≤ e ∧ e ≤ 12) ∧ (0 ≤ f ∧ f ≤ 12) ∧ a + b + c + d + e + f ≤ 12)) : ¬ SV a b c d e f :=
  fun ⟨a, b, c, d, e, f, g⟩ => h ⟨a, b, c, d, e, f, g⟩
theorem ret_bool {a b : Bool} (h : a = b) : Ending.returned (.bool a) = .returned (.bool b) := by rw [h]

set_option maxHeartbeats 4000000 in
theorem valid_any (a b c d e f : Int) (w : World) : Calls Try.prog 39 #[v6 a b c d e f] w (Gives (.bool (decide (SV a b c d e f))) w) := by
  go_enter Try.func39, Try.ntmps39
  go_wp2_with (go_at_call 59; refine (widths_any _ _ _ _ _ _ _).mono ?_; rintro _ w1 ⟨rfl, hb1⟩; have hzw1 := hb1.size; (try simp only [World.size_alloc, World.size_setCell, World.size_drew] at hzw1); have cw1_0 := fun o => hb1.cell (p := ⟨w.heap.size, o, none⟩) (by dsimp only; (try simp only [World.size_alloc, World.size_setCell, World.size_drew]); omega); have fw1_0 := fun o => hb1.frozen (p := ⟨w.heap.size, o, none⟩) (by dsimp only; (try simp only [World.size_alloc, World.size_setCell, World.size_drew]); omega); have lw1_0 : w.heap.size < w1.heap.size := (by omega); have nw1_0 : (w.heap.size = w1.heap.size) = False := eq_false (by omega); have mw1_0 : (w1.heap.size = w.heap.size) = False := eq_false (by omega))
  have hb : Below w.heap.size w w1 := hb1.mono (by simp) |> fun h => ((Below.refl _ _).alloc (Nat.le_refl _) _).trans h
  clear hb1 cw1_0 fw1_0 hzw1
  go_rounds 7
  all_goals go_ret
  all_goals refine ⟨ret_bool ?_, hb⟩
  all_goals first
    | (refine (decide_eq_false (not_SV ?_)).symm; omega)
    | (refine decide_eq_decide.2 ⟨fun h => ⟨?_, ?_, ?_, ?_, ?_, ?_, ?_⟩, fun h => h.sum⟩ <;> omega)
end Go.Proofs.Ytdhnpjgnnfgklaa
