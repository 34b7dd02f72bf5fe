/- Needs as an argument, opened. -/
import Derived.Test.YtdhnpjgnnfgklaaOpenR
import Derived.Test.YtdhnpjgnnfgklaaLawZ
import Derived.Test.YtdhnpjgnnfgklaaPlE
namespace Go.Proofs.Ytdhnpjgnnfgklaa
set_option linter.unusedSimpArgs false
set_option linter.unusedVariables false
open Go.RowKit Go.WideShapes Go.ChangeShapes Go.ChangeAt
set_option maxRecDepth 100000

section
variable {H : Type} {enc : TypeId × Value → H} {w : World} {base : Nat} {sp : Nat → Bool} {held : Bool}
theorem kinds7 : ∀ {vs : List Value}, Kinds [.int .i64, .int .i64, .int .i64, .int .i64, .int .i64, .int .i64, .int .i64] vs → ∃ x, ndC x = vs := by
  rintro vs ⟨a, _, -, rfl, b, _, -, rfl, c, _, -, rfl, d, _, -, rfl, e, _, -, rfl, f, _, -, rfl, g, _, -, rfl, h⟩
  rw [show _ = [] from h]
  exact ⟨⟨⟨a, b, c, d, e, f⟩, g⟩, rfl⟩
theorem open_needs {r : Reach} {b0 : Nat} {v : Value} {d : DataW H} {ps : List MemPlace} (hval : Value.okWide Try.prog w r b0 30 v) (hd : DataW.Trod enc Try.prog w base sp held 30 v d ps) : ∃ (sa : Option Addr) (c : Nat) (l : List Nd), v = .slice sa l.length c ∧ l.length ≤ c ∧ Lies w w.heap.size sa 7 l.length (fun j => ndC l[j]!) := by
  obtain ⟨a, len, cap, rfl⟩ := okWide_slice (e := 41) (by kernel_rfl) hval
  obtain ⟨fuel, hf⟩ := hd
  obtain ⟨sa, c, ys, e, hc, -, hlies⟩ := open_rows_lies (e := 41) (by kernel_rfl) [.int .i64, .int .i64, .int .i64, .int .i64, .int .i64, .int .i64, .int .i64] (by kernel_rfl) (by kernel_rfl) (by decide) ndC (fun vs h => kinds7 h) hf
  simp [Value.cells] at e
  obtain ⟨rfl, rfl, rfl⟩ := e
  exact ⟨_, _, ys, rfl, hc, hlies⟩
end
end Go.Proofs.Ytdhnpjgnnfgklaa
