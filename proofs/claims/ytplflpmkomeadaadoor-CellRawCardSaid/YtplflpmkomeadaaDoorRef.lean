/- The specification of layer 9 (memfaultref09): bits, Numbers, Valid, Bits, Size. -/
import Derived.Test.YtplflpmkomeadaaDoorK5
namespace Go.Proofs.YtplflpmkomeadaaDoor
set_option linter.unusedSimpArgs false
set_option linter.unusedVariables false
open Go.RowKit
set_option maxRecDepth 100000
attribute [local go_sem] lt_more ne_more ne_more' ix0 ix1 ix2 ix3 ix4 ix5

theorem rbits_any (a b c d e f : Int) (w : World) : Calls Tryd.prog 79 #[v6 a b c d e f] w (Gives (v6 a b c d e f) w) := by
  go_enter Tryd.func79, Tryd.ntmps79
  go_wp2
  go_returns
  refine ⟨rfl, ?_⟩
  go_grown
theorem rnumbers_any (a b c d e f : Int) (w : World) : Calls Tryd.prog 93 #[v6 a b c d e f] w (Gives (v6 a b c d e f) w) := by
  go_enter Tryd.func93, Tryd.ntmps93
  go_wp2
  go_returns
  refine ⟨rfl, ?_⟩
  go_grown

set_option maxHeartbeats 8000000 in
theorem rvalid_any (a b c d e f : Int) (w : World) : Calls Tryd.prog 46 #[v6 a b c d e f] w (Gives (.bool (decide (SV a b c d e f))) w) := by
  go_enter Tryd.func46, Tryd.ntmps46
  go_wp2_with (go_at_call 79; refine (rbits_any _ _ _ _ _ _ _).mono ?_; rintro _ w1 ⟨rfl, hb1⟩; have hzw1 := hb1.size; (try simp only [World.size_alloc, World.size_setCell, World.size_drew] at hzw1); have cw1_0 := fun o => hb1.cell (p := ⟨w.heap.size, o, none⟩) (by dsimp only; (try simp only [World.size_alloc, World.size_setCell, World.size_drew]); omega); have fw1_0 := fun o => hb1.frozen (p := ⟨w.heap.size, o, none⟩) (by dsimp only; (try simp only [World.size_alloc, World.size_setCell, World.size_drew]); omega); have lw1_0 : w.heap.size < w1.heap.size := (by omega); have nw1_0 : (w.heap.size = w1.heap.size) = False := eq_false (by omega); have mw1_0 : (w1.heap.size = w.heap.size) = False := eq_false (by omega))
  have hb : Below w.heap.size w w1 := hb1.mono (by simp) |> fun h => ((Below.refl _ _).alloc (Nat.le_refl _) _).trans h
  have hB := hb.alloc hb.size (.cells #[.int .i64 a, .int .i64 b, .int .i64 c, .int .i64 d, .int .i64 e, .int .i64 f] 79)
  clear hb1 cw1_0 fw1_0 hzw1 hb
  go_rounds 7
  all_goals go_ret
  all_goals refine ⟨ret_bool ?_, hB⟩
  all_goals first
    | (refine (decide_eq_false (not_SV ?_)).symm; omega)
    | (refine decide_eq_decide.2 ⟨fun h => ⟨?_, ?_, ?_, ?_, ?_, ?_, ?_⟩, fun h => h.sum⟩ <;> omega)
theorem rvalid_yes {a b c d e f : Int} (h : SV a b c d e f) (w : World) : Calls Tryd.prog 46 #[v6 a b c d e f] w (Gives (.bool true) w) := by
  have := rvalid_any a b c d e f w
  rwa [decide_eq_true h] at this
theorem rvalid_no {a b c d e f : Int} (h : ¬ SV a b c d e f) (w : World) : Calls Tryd.prog 46 #[v6 a b c d e f] w (Gives (.bool false) w) := by
  have := rvalid_any a b c d e f w
  rwa [decide_eq_false h] at this

set_option maxHeartbeats 4000000 in
theorem rBits_yes {a b c d e f : Int} (h : SV a b c d e f) (w : World) : Calls Tryd.prog 47 #[v6 a b c d e f] w (Gives (.int .i64 (a + b + c + d + e + f)) w) := by
  obtain ⟨ha, hb, hc, hd, he, hf, hs⟩ := id h
  go_enter Tryd.func47, Tryd.ntmps47
  go_wp2_with (go_at_call 79; refine (rbits_any _ _ _ _ _ _ _).mono ?_; rintro _ w1 ⟨rfl, hb1⟩; have hzw1 := hb1.size; (try simp only [World.size_alloc, World.size_setCell, World.size_drew] at hzw1); have cw1_0 := fun o => hb1.cell (p := ⟨w.heap.size, o, none⟩) (by dsimp only; (try simp only [World.size_alloc, World.size_setCell, World.size_drew]); omega); have fw1_0 := fun o => hb1.frozen (p := ⟨w.heap.size, o, none⟩) (by dsimp only; (try simp only [World.size_alloc, World.size_setCell, World.size_drew]); omega); have lw1_0 : w.heap.size < w1.heap.size := (by omega); have nw1_0 : (w.heap.size = w1.heap.size) = False := eq_false (by omega); have mw1_0 : (w1.heap.size = w.heap.size) = False := eq_false (by omega))
  have hb : Below w.heap.size w w1 := hb1.mono (by simp) |> fun h => ((Below.refl _ _).alloc (Nat.le_refl _) _).trans h
  have hB := hb.alloc hb.size (.cells #[.int .i64 a, .int .i64 b, .int .i64 c, .int .i64 d, .int .i64 e, .int .i64 f] 79)
  clear hb1 cw1_0 fw1_0 hzw1 hb
  go_rounds 7
  go_ret
  refine ⟨ret_int ?_, hB⟩
  go_num
end Go.Proofs.YtplflpmkomeadaaDoor
