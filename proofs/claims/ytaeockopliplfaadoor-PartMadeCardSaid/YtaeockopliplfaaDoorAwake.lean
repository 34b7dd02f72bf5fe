/- The sanity check of the statements about parts: awake is true. -/
import Derived.Test.YtaeockopliplfaaDoorCovd
namespace Go.Proofs.YtaeockopliplfaaDoor
set_option linter.unusedSimpArgs false
set_option linter.unusedVariables false
open Go.RowKit
set_option maxRecDepth 100000
attribute [local go_sem] lt_more ne_more ne_more'

theorem SV1 : SV 0 0 0 0 1 1 := by constructor <;> decide
theorem PV1 : PV 0 0 0 0 1 1 0 0 0 0 1 0 := by constructor <;> decide +kernel
theorem cov1 : covL 0 0 0 0 1 1 3 0 0 0 0 0 1 (2 ^ ((0 : Int) + 0 + 0 + 0 + 1 + 1).toNat) = [1, 3] := by decide +kernel
theorem idx1 : idx 0 0 0 1 1 0 0 0 0 1 0 = 2 := by decide +kernel
/-- A slice of two numbers, open. -/
theorem IntRow.two {w : World} {B : Nat} {v : Value} {a b : Nat} (h : IntRow w B v [a, b]) : ∃ g cap, v = .slice (some ⟨g, 0, none⟩) 2 cap ∧ B ≤ g ∧ w.cell? ⟨g, 0, none⟩ = some (.int .i64 a) ∧ w.cell? ⟨g, 1, none⟩ = some (.int .i64 b) := by
  obtain ⟨h1, h2⟩ := h
  rcases h2 with ⟨_, h2⟩ | ⟨g, cap, cur, hv, hg, hh, hn, hc, hz, ht⟩
  · cases h2
  · refine ⟨g, cap, hv, hg, ?_, ?_⟩
    · have : (cur.toList.take (([a, b] : List Nat).length * 1))[0]? = some (intV a) := by rw [ht]; rfl
      simp only [List.length_cons, List.length_nil, Nat.mul_one, List.getElem?_take] at this
      simp [World.cell?, hh]
      simpa [intV] using this
    · have : (cur.toList.take (([a, b] : List Nat).length * 1))[1]? = some (intV b) := by rw [ht]; rfl
      simp only [List.length_cons, List.length_nil, Nat.mul_one, List.getElem?_take] at this
      simp [World.cell?, hh]
      simpa [intV] using this

set_option maxHeartbeats 8000000 in
theorem awake09 (w : World) (hN : Nm w) : Calls Tryd.prog 12 #[] w (Gives (.bool true) w) := by
  have hcov : ∀ w, Nm w → Calls Tryd.prog 21 #[v6 0 0 0 0 1 1, vF 3 0 0 0 0 0 1 0 1 0 false] w (GivesRow [1, 3] w) := fun w hw => by
    have := covered_yes SV1 3 0 0 0 0 0 1 0 1 0 false (by decide) w hw
    rwa [cov1] at this
  have hidx : ∀ w, Calls Tryd.prog 18 #[v6 0 0 0 0 1 1, v6 0 0 0 0 1 0] w (Gives (.tuple #[.int .i64 2, .int .i64 0]) w) := fun w => by
    have := index_yes SV1 PV1 w
    rwa [idx1] at this
  have hsize : ∀ w, Calls Tryd.prog 16 #[v6 0 0 0 0 1 1] w (Gives (.int .i64 4) w) := fun w => by
    have := size_yes SV1 w
    rwa [show (2 : Int) ^ ((0 : Int) + 0 + 0 + 0 + 1 + 1).toNat = 4 from by decide +kernel] at this
  have HC := Lib.hid hcov
  have HI := Lib.hid hidx
  have HS := Lib.hid hsize
  clear hcov hidx hsize
  go_enter Tryd.func12, Tryd.ntmps12
  go_wp2_with fail
  refine (HC.out _ ?_).mono ?_
  · refine hN.below ?_; go_grown
  rintro _ w1 ⟨v, rfl, hr, hb1⟩
  obtain ⟨g, cap, rfl, hg, hc0, hc1⟩ := hr.two
  have hzw1 := hb1.size
  simp only [World.size_alloc, World.size_setCell, World.size_drew] at hzw1 hg
  have hS : ∀ o, w1.cell? ⟨w.heap.size, o, none⟩ = _ := fun o => hb1.cell (p := ⟨w.heap.size, o, none⟩) (by dsimp only; (try simp only [World.size_alloc, World.size_setCell, World.size_drew]); omega)
  have hgl := World.block_lt_of_cell? w1 _ hc0
  go_wp2_with fail
  refine (HI.out _).mono ?_
  rintro _ w2 ⟨rfl, hb2⟩
  have hzw2 := hb2.size
  have hS2 : ∀ o, w2.cell? ⟨w.heap.size, o, none⟩ = _ := fun o => hb2.cell (p := ⟨w.heap.size, o, none⟩) (by dsimp only; omega)
  have hS3 : ∀ o, w2.cell? ⟨g, o, none⟩ = _ := fun o => hb2.cell (p := ⟨g, o, none⟩) hgl
  go_wp2_with fail
  refine (HS.out _).mono ?_
  rintro _ w3 ⟨rfl, hb3⟩
  go_wp2_with fail
  go_ret
  refine ⟨rfl, ?_⟩
  have h1 : Below w.heap.size w w1 := Below.trans (by go_grown) (hb1.mono (by simp))
  exact (h1.trans (hb2.mono (by omega))).trans (hb3.mono (by omega))
end Go.Proofs.YtaeockopliplfaaDoor
