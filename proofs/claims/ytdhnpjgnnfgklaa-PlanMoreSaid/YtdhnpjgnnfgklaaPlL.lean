/- Plan (chapter 39): what rows and ranks save, the best rows (the specification). -/
import Derived.Test.YtdhnpjgnnfgklaaPlK
namespace Go.Proofs.Ytdhnpjgnnfgklaa
set_option linter.unusedSimpArgs false
set_option linter.unusedVariables false
open Go.RowKit
set_option maxRecDepth 100000
attribute [local irreducible] wpX wpF Calls
attribute [local go_sem] run_mkMapG

theorem infoI1 : (Try.prog.info? 3).map (fun i => (i.zero, i.size, i.bytes)) = some (some (.int .i64 0), 1, 8) := by kernel_rfl
theorem elemI1 : Elem Try.prog 22 3 (.int .i64 0) 1 8 := Elem.mk' Try.underlying22 infoI1 rfl (by decide)
/-- The rows of the first k needs. -/
def rowsK (l : List Nd) (a : Int) (rs : List P6) (k : Nat) : List Int := ((l.zipIdx.take k).filter (gOn l a rs)).map fun x => (x.2 : Int)
theorem rowsK_full (l : List Nd) (a : Int) (rs : List P6) : rowsK l a rs l.length = rowsFor l a rs := by
  unfold rowsK; rw [zip_full]; rfl
theorem rowsK_len (l : List Nd) (a : Int) (rs : List P6) (k : Nat) : (rowsK l a rs k).length ≤ k := by
  unfold rowsK
  rw [List.length_map]
  exact Nat.le_trans (List.length_filter_le _ _) (by rw [List.length_take]; omega)
end Go.Proofs.Ytdhnpjgnnfgklaa
