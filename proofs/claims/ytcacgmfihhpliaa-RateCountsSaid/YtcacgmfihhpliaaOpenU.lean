/- A slice of bytes as an argument. -/
import Derived.Test.YtcacgmfihhpliaaLawZ
import Derived.Test.YtcacgmfihhpliaaCounts
namespace Go.Proofs.Ytcacgmfihhpliaa
set_option linter.unusedSimpArgs false
set_option linter.unusedVariables false
open Go.RowKit Go.WideShapes Go.ChangeShapes Go.ChangeAt
set_option maxRecDepth 100000

theorem open_slice_u8s {H : Type} {enc : TypeId × Value → H} {W : World} {base : Nat} {sp : Nat → Bool} {held : Bool} {r : Reach} {b0 : Nat} {v : Value} {d : DataW H} {ps : List MemPlace}
    (hval : Value.okWide Try.prog W r b0 78 v) (hd : DataW.Trod enc Try.prog W base sp held 78 v d ps) (hsp : ∀ b, sp b = true) :
    ∃ sa len cap, v = .slice sa len cap ∧ len ≤ maxLen ∧ U8s W sa len := by
  obtain ⟨a, len, cap, rfl⟩ := okWide_slice (e := 5) (by kernel_rfl) hval
  obtain ⟨fuel, hf⟩ := hd
  rcases open_ints (e := 5) (k := .u8) (by kernel_rfl) (by kernel_rfl) (by kernel_rfl) hf with ⟨hcs, -⟩ | ⟨a', len', cap', zs, hcs, -, hle, hmax, hzl, -, hcell, hwf⟩
  · simp [Value.cells] at hcs
    obtain ⟨rfl, rfl, rfl⟩ := hcs
    exact ⟨_, _, _, rfl, Nat.zero_le _, fun j hj => by omega⟩
  · simp [Value.cells] at hcs
    obtain ⟨rfl, rfl, rfl⟩ := hcs
    refine ⟨_, _, _, rfl, by omega, fun j hj => ?_⟩
    have hjz : j < zs.length := by rw [hzl, hsp]; simp only [if_true]; omega
    refine ⟨a', zs.getD j 0, rfl, hcell j hjz, ?_⟩
    have := hwf (zs.getD j 0) (by rw [List.getD_eq_getElem?_getD, List.getElem?_eq_getElem hjz]; exact List.getElem_mem _)
    simp only [Lit.wf, Bool.and_eq_true, decide_eq_true_eq] at this
    have h1 : IntKind.u8.min = 0 := by decide
    have h2 : IntKind.u8.max = 255 := by decide
    rw [h1, h2] at this
    omega
end Go.Proofs.Ytcacgmfihhpliaa
