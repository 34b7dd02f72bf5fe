/- The specification of layer 9 (memfaultref09): Size, ValidPlace. -/
import Derived.Test.YtaeockopliplfaaRef
namespace Go.Proofs.Ytaeockopliplfaa
set_option linter.unusedSimpArgs false
set_option linter.unusedVariables false
open Go.RowKit
set_option maxRecDepth 100000
attribute [local go_sem] lt_more ne_more ne_more'

set_option maxHeartbeats 4000000 in
theorem rsize_yes {a b c d e f : Int} (h : SV a b c d e f) (w : World) : Calls Try.prog 12 #[v6 a b c d e f] w (Gives (.int .i64 (2 ^ (a + b + c + d + e + f).toNat)) w) := by
  obtain ⟨z, hz⟩ : ∃ z, z = a + b + c + d + e + f := ⟨_, rfl⟩
  have hzz : 0 ≤ z ∧ z ≤ 12 := by obtain ⟨ha, hb, hc, hd, he, hf, hs⟩ := h; omega
  have hB : ∀ w, Calls Try.prog 22 #[v6 a b c d e f] w (Gives (.int .i64 z) w) := fun w => by rw [hz]; exact rBits_yes h w
  rw [← hz]
  have HB := Lib.hid hB
  clear hB hz
  go_enter Try.func12, Try.ntmps12
  go_wp2_with (first | (go_at_call 21; refine (rvalid_yes h _).mono ?_; rintro _ w1 ⟨rfl, hb1⟩; have hzw1 := hb1.size; (try simp only [World.size_alloc, World.size_setCell, World.size_drew] at hzw1); have cw1_0 := fun o => hb1.cell (p := ⟨w.heap.size, o, none⟩) (by dsimp only; (try simp only [World.size_alloc, World.size_setCell, World.size_drew]); omega); have fw1_0 := fun o => hb1.frozen (p := ⟨w.heap.size, o, none⟩) (by dsimp only; (try simp only [World.size_alloc, World.size_setCell, World.size_drew]); omega); have lw1_0 : w.heap.size < w1.heap.size := (by omega); have nw1_0 : (w.heap.size = w1.heap.size) = False := eq_false (by omega); have mw1_0 : (w1.heap.size = w.heap.size) = False := eq_false (by omega)) | (go_at_call 22; refine (HB.out _).mono ?_; rintro _ w2 ⟨rfl, hb2⟩; have hzw2 := hb2.size; (try simp only [World.size_alloc, World.size_setCell, World.size_drew] at hzw2); have cw2_0 := fun o => hb2.cell (p := ⟨w.heap.size, o, none⟩) (by dsimp only; (try simp only [World.size_alloc, World.size_setCell, World.size_drew]); omega); have fw2_0 := fun o => hb2.frozen (p := ⟨w.heap.size, o, none⟩) (by dsimp only; (try simp only [World.size_alloc, World.size_setCell, World.size_drew]); omega); have lw2_0 : w.heap.size < w2.heap.size := (by omega); have nw2_0 : (w.heap.size = w2.heap.size) = False := eq_false (by omega); have mw2_0 : (w2.heap.size = w.heap.size) = False := eq_false (by omega)))
  go_ret
  refine ⟨ret_int (wrap_pw hzz.2), ?_⟩
  have h0 : Below w.heap.size w w1 := ((Below.refl _ _).alloc (Nat.le_refl _) _).trans (hb1.mono (by simp))
  exact h0.trans (hb2.mono (by omega))
theorem rsize_no {a b c d e f : Int} (h : ¬ SV a b c d e f) (w : World) : Calls Try.prog 12 #[v6 a b c d e f] w (Gives (.int .i64 0) w) := by
  go_enter Try.func12, Try.ntmps12
  go_wp2_with (go_at_call 21; refine (rvalid_no h _).mono ?_; rintro _ w1 ⟨rfl, hb1⟩; have hzw1 := hb1.size; (try simp only [World.size_alloc, World.size_setCell, World.size_drew] at hzw1); have cw1_0 := fun o => hb1.cell (p := ⟨w.heap.size, o, none⟩) (by dsimp only; (try simp only [World.size_alloc, World.size_setCell, World.size_drew]); omega); have fw1_0 := fun o => hb1.frozen (p := ⟨w.heap.size, o, none⟩) (by dsimp only; (try simp only [World.size_alloc, World.size_setCell, World.size_drew]); omega); have lw1_0 : w.heap.size < w1.heap.size := (by omega); have nw1_0 : (w.heap.size = w1.heap.size) = False := eq_false (by omega); have mw1_0 : (w1.heap.size = w.heap.size) = False := eq_false (by omega))
  go_ret
  exact ⟨rfl, ((Below.refl _ _).alloc (Nat.le_refl _) _).trans (hb1.mono (by simp))⟩
theorem size_no {a b c d e f : Int} (h : ¬ SV a b c d e f) (w : World) : Calls Try.prog 30 #[v6 a b c d e f] w (Gives (.int .i64 0) w) := by
  go_enter Try.func30, Try.ntmps30
  go_wp2_with (go_at_call 19; refine (valid_no h _).mono ?_; rintro _ w1 ⟨rfl, hb1⟩; have hzw1 := hb1.size; (try simp only [World.size_alloc, World.size_setCell, World.size_drew] at hzw1); have cw1_0 := fun o => hb1.cell (p := ⟨w.heap.size, o, none⟩) (by dsimp only; (try simp only [World.size_alloc, World.size_setCell, World.size_drew]); omega); have fw1_0 := fun o => hb1.frozen (p := ⟨w.heap.size, o, none⟩) (by dsimp only; (try simp only [World.size_alloc, World.size_setCell, World.size_drew]); omega); have lw1_0 : w.heap.size < w1.heap.size := (by omega); have nw1_0 : (w.heap.size = w1.heap.size) = False := eq_false (by omega); have mw1_0 : (w1.heap.size = w.heap.size) = False := eq_false (by omega))
  go_ret
  exact ⟨rfl, ((Below.refl _ _).alloc (Nat.le_refl _) _).trans (hb1.mono (by simp))⟩
theorem validPlace_no {a0 a1 a2 a3 a4 a5 p0 p1 p2 p3 p4 p5 : Int} (h : ¬ SV a0 a1 a2 a3 a4 a5) (w : World) : Calls Try.prog 28 #[v6 a0 a1 a2 a3 a4 a5, v6 p0 p1 p2 p3 p4 p5] w (Gives (.bool false) w) := by
  go_enter Try.func28, Try.ntmps28
  go_wp2_with (go_at_call 19; refine (valid_no h _).mono ?_; rintro _ w1 ⟨rfl, hb1⟩; have hzw1 := hb1.size; (try simp only [World.size_alloc, World.size_setCell, World.size_drew] at hzw1); have cw1_0 := fun o => hb1.cell (p := ⟨w.heap.size, o, none⟩) (by dsimp only; (try simp only [World.size_alloc, World.size_setCell, World.size_drew]); omega); have fw1_0 := fun o => hb1.frozen (p := ⟨w.heap.size, o, none⟩) (by dsimp only; (try simp only [World.size_alloc, World.size_setCell, World.size_drew]); omega); have lw1_0 : w.heap.size < w1.heap.size := (by omega); have nw1_0 : (w.heap.size = w1.heap.size) = False := eq_false (by omega); have mw1_0 : (w1.heap.size = w.heap.size) = False := eq_false (by omega); have cw1_1 := fun o => hb1.cell (p := ⟨w.heap.size + 1, o, none⟩) (by dsimp only; (try simp only [World.size_alloc, World.size_setCell, World.size_drew]); omega); have fw1_1 := fun o => hb1.frozen (p := ⟨w.heap.size + 1, o, none⟩) (by dsimp only; (try simp only [World.size_alloc, World.size_setCell, World.size_drew]); omega); have lw1_1 : w.heap.size + 1 < w1.heap.size := (by omega); have nw1_1 : (w.heap.size + 1 = w1.heap.size) = False := eq_false (by omega); have mw1_1 : (w1.heap.size = w.heap.size + 1) = False := eq_false (by omega))
  go_ret
  exact ⟨rfl, (((Below.refl _ _).alloc (Nat.le_refl _) _).alloc (by simp) _).trans (hb1.mono (by simp; omega))⟩
/-- The i-th of six numbers. -/
def pick6 (a0 a1 a2 a3 a4 a5 : Int) : Nat → Int
  | 0 => a0
  | 1 => a1
  | 2 => a2
  | 3 => a3
  | 4 => a4
  | _ => a5
theorem pick6_at (a0 a1 a2 a3 a4 a5 : Int) {i : Nat} (hi : i < 6) : (#[.int .i64 a0, .int .i64 a1, .int .i64 a2, .int .i64 a3, .int .i64 a4, .int .i64 a5] : Array Value)[i]? = some (.int .i64 (pick6 a0 a1 a2 a3 a4 a5 i)) := by
  have : i = 0 ∨ i = 1 ∨ i = 2 ∨ i = 3 ∨ i = 4 ∨ i = 5 := by omega
  rcases this with rfl | rfl | rfl | rfl | rfl | rfl <;> rfl
theorem pick6_SV {a0 a1 a2 a3 a4 a5 : Int} (h : SV a0 a1 a2 a3 a4 a5) (i : Nat) : 0 ≤ pick6 a0 a1 a2 a3 a4 a5 i ∧ pick6 a0 a1 a2 a3 a4 a5 i ≤ 12 := by
  obtain ⟨h0, h1, h2, h3, h4, h5, hs⟩ := h
  match i with
  | 0 => exact h0
  | 1 => exact h1
  | 2 => exact h2
  | 3 => exact h3
  | 4 => exact h4
  | _ + 5 => exact h5
theorem pick6_PV {a0 a1 a2 a3 a4 a5 p0 p1 p2 p3 p4 p5 : Int} : PV a0 a1 a2 a3 a4 a5 p0 p1 p2 p3 p4 p5 ↔ ∀ i, i < 6 → 0 ≤ pick6 p0 p1 p2 p3 p4 p5 i ∧ pick6 p0 p1 p2 p3 p4 p5 i < 2 ^ (pick6 a0 a1 a2 a3 a4 a5 i).toNat :=
  ⟨fun ⟨h0, h1, h2, h3, h4, h5⟩ i hi => by
    have : i = 0 ∨ i = 1 ∨ i = 2 ∨ i = 3 ∨ i = 4 ∨ i = 5 := by omega
    rcases this with rfl | rfl | rfl | rfl | rfl | rfl <;> assumption,
   fun h => ⟨h 0 (by decide), h 1 (by decide), h 2 (by decide), h 3 (by decide), h 4 (by decide), h 5 (by decide)⟩⟩

attribute [local irreducible] wpX
end Go.Proofs.Ytaeockopliplfaa
