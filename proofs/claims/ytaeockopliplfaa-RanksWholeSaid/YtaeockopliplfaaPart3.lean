/- Package part: At. -/
import Derived.Test.YtaeockopliplfaaPart2
import Derived.LoopTactic
namespace Go.Proofs.Ytaeockopliplfaa
set_option linter.unusedSimpArgs false
set_option linter.unusedVariables false
open Go.RowKit
set_option maxRecDepth 100000
attribute [local go_sem] lt_more ne_more ne_more' ix0 ix1 ix2 ix3 ix4 ix5

/-- Where the loop of At stands: its counter, what is left of the index, and the numbers that are found. -/
def AtRel (x0 x1 x2 x3 x4 x5 x6 m0 m1 m2 m3 m4 m5 : Int) (n : Nat) (v i : Value) (w : World) : Prop :=
  (i = .int .i64 5 ∧ v = .int .i64 x0 ∧ Blk w n #[.int .i64 0, .int .i64 0, .int .i64 0, .int .i64 0, .int .i64 0, .int .i64 0] 57) ∨
  (i = .int .i64 4 ∧ v = .int .i64 x1 ∧ Blk w n #[.int .i64 0, .int .i64 0, .int .i64 0, .int .i64 0, .int .i64 0, .int .i64 m5] 57) ∨
  (i = .int .i64 3 ∧ v = .int .i64 x2 ∧ Blk w n #[.int .i64 0, .int .i64 0, .int .i64 0, .int .i64 0, .int .i64 m4, .int .i64 m5] 57) ∨
  (i = .int .i64 2 ∧ v = .int .i64 x3 ∧ Blk w n #[.int .i64 0, .int .i64 0, .int .i64 0, .int .i64 m3, .int .i64 m4, .int .i64 m5] 57) ∨
  (i = .int .i64 1 ∧ v = .int .i64 x4 ∧ Blk w n #[.int .i64 0, .int .i64 0, .int .i64 m2, .int .i64 m3, .int .i64 m4, .int .i64 m5] 57) ∨
  (i = .int .i64 0 ∧ v = .int .i64 x5 ∧ Blk w n #[.int .i64 0, .int .i64 m1, .int .i64 m2, .int .i64 m3, .int .i64 m4, .int .i64 m5] 57) ∨
  (i = .int .i64 (-1) ∧ v = .int .i64 x6 ∧ Blk w n #[.int .i64 m0, .int .i64 m1, .int .i64 m2, .int .i64 m3, .int .i64 m4, .int .i64 m5] 57)

set_option maxHeartbeats 4000000 in
theorem at_yes {a0 a1 a2 a3 a4 a5 i : Int} (h : SV a0 a1 a2 a3 a4 a5) (hi0 : 0 ≤ i) (hi1 : i < 2 ^ (a0 + a1 + a2 + a3 + a4 + a5).toNat) {x1 x2 x3 x4 x5 x6 m0 m1 m2 m3 m4 m5 : Int}
    (H5 : AtEq a5 i x1 m5) (H4 : AtEq a4 x1 x2 m4) (H3 : AtEq a3 x2 x3 m3) (H2 : AtEq a2 x3 x4 m2) (H1 : AtEq a1 x4 x5 m1) (H0 : AtEq a0 x5 x6 m0) (w : World) : Calls Try.prog 26 #[v6 a0 a1 a2 a3 a4 a5, .int .i64 i] w (Gives (.tuple #[v6 m0 m1 m2 m3 m4 m5, .int .i64 0]) w) := by
  obtain ⟨ha, hb, hc, hd, he, hf, hs⟩ := id h
  go_enter Try.func26, Try.ntmps26
  go_wp2_with (first | (go_at_call 19; refine (valid_yes h _).mono ?_; rintro _ w1 ⟨rfl, hb1⟩; have hzw1 := hb1.size; (try simp only [World.size_alloc, World.size_setCell, World.size_drew] at hzw1); have cw1_0 := fun o => hb1.cell (p := ⟨w.heap.size, o, none⟩) (by dsimp only; (try simp only [World.size_alloc, World.size_setCell, World.size_drew]); omega); have fw1_0 := fun o => hb1.frozen (p := ⟨w.heap.size, o, none⟩) (by dsimp only; (try simp only [World.size_alloc, World.size_setCell, World.size_drew]); omega); have lw1_0 : w.heap.size < w1.heap.size := (by omega); have nw1_0 : (w.heap.size = w1.heap.size) = False := eq_false (by omega); have mw1_0 : (w1.heap.size = w.heap.size) = False := eq_false (by omega); have cw1_1 := fun o => hb1.cell (p := ⟨w.heap.size + 1, o, none⟩) (by dsimp only; (try simp only [World.size_alloc, World.size_setCell, World.size_drew]); omega); have fw1_1 := fun o => hb1.frozen (p := ⟨w.heap.size + 1, o, none⟩) (by dsimp only; (try simp only [World.size_alloc, World.size_setCell, World.size_drew]); omega); have lw1_1 : w.heap.size + 1 < w1.heap.size := (by omega); have nw1_1 : (w.heap.size + 1 = w1.heap.size) = False := eq_false (by omega); have mw1_1 : (w1.heap.size = w.heap.size + 1) = False := eq_false (by omega)) | (go_at_call 30; refine (size_yes h _).mono ?_; rintro _ w2 ⟨rfl, hb2⟩; have hzw2 := hb2.size; (try simp only [World.size_alloc, World.size_setCell, World.size_drew] at hzw2); have cw2_0 := fun o => hb2.cell (p := ⟨w.heap.size, o, none⟩) (by dsimp only; (try simp only [World.size_alloc, World.size_setCell, World.size_drew]); omega); have fw2_0 := fun o => hb2.frozen (p := ⟨w.heap.size, o, none⟩) (by dsimp only; (try simp only [World.size_alloc, World.size_setCell, World.size_drew]); omega); have lw2_0 : w.heap.size < w2.heap.size := (by omega); have nw2_0 : (w.heap.size = w2.heap.size) = False := eq_false (by omega); have mw2_0 : (w2.heap.size = w.heap.size) = False := eq_false (by omega); have cw2_1 := fun o => hb2.cell (p := ⟨w.heap.size + 1, o, none⟩) (by dsimp only; (try simp only [World.size_alloc, World.size_setCell, World.size_drew]); omega); have fw2_1 := fun o => hb2.frozen (p := ⟨w.heap.size + 1, o, none⟩) (by dsimp only; (try simp only [World.size_alloc, World.size_setCell, World.size_drew]); omega); have lw2_1 : w.heap.size + 1 < w2.heap.size := (by omega); have nw2_1 : (w.heap.size + 1 = w2.heap.size) = False := eq_false (by omega); have mw2_1 : (w2.heap.size = w.heap.size + 1) = False := eq_false (by omega)) | (go_at_call 27; refine (widths_any _ _ _ _ _ _ _).mono ?_; rintro _ w3 ⟨rfl, hb3⟩; have hzw3 := hb3.size; (try simp only [World.size_alloc, World.size_setCell, World.size_drew] at hzw3); have cw3_0 := fun o => hb3.cell (p := ⟨w.heap.size, o, none⟩) (by dsimp only; (try simp only [World.size_alloc, World.size_setCell, World.size_drew]); omega); have fw3_0 := fun o => hb3.frozen (p := ⟨w.heap.size, o, none⟩) (by dsimp only; (try simp only [World.size_alloc, World.size_setCell, World.size_drew]); omega); have lw3_0 : w.heap.size < w3.heap.size := (by omega); have nw3_0 : (w.heap.size = w3.heap.size) = False := eq_false (by omega); have mw3_0 : (w3.heap.size = w.heap.size) = False := eq_false (by omega); have cw3_1 := fun o => hb3.cell (p := ⟨w.heap.size + 1, o, none⟩) (by dsimp only; (try simp only [World.size_alloc, World.size_setCell, World.size_drew]); omega); have fw3_1 := fun o => hb3.frozen (p := ⟨w.heap.size + 1, o, none⟩) (by dsimp only; (try simp only [World.size_alloc, World.size_setCell, World.size_drew]); omega); have lw3_1 : w.heap.size + 1 < w3.heap.size := (by omega); have nw3_1 : (w.heap.size + 1 = w3.heap.size) = False := eq_false (by omega); have mw3_1 : (w3.heap.size = w.heap.size + 1) = False := eq_false (by omega); have cw3_2 := fun o => hb3.cell (p := ⟨w2.heap.size, o, none⟩) (by dsimp only; (try simp only [World.size_alloc, World.size_setCell, World.size_drew]); omega); have fw3_2 := fun o => hb3.frozen (p := ⟨w2.heap.size, o, none⟩) (by dsimp only; (try simp only [World.size_alloc, World.size_setCell, World.size_drew]); omega); have lw3_2 : w2.heap.size < w3.heap.size := (by omega); have nw3_2 : (w2.heap.size = w3.heap.size) = False := eq_false (by omega); have mw3_2 : (w3.heap.size = w2.heap.size) = False := eq_false (by omega)))
  have D6 : Blk w3 w2.heap.size #[.int .i64 0, .int .i64 0, .int .i64 0, .int .i64 0, .int .i64 0, .int .i64 0] 57 := (Blk.new w2 _ _).below hb3
  have D4 : Blk w3 (w.heap.size + 1) #[.int .i64 0, .int .i64 0, .int .i64 0, .int .i64 0, .int .i64 0, .int .i64 0] 30 := by
    refine Blk.below (Blk.alloc (Blk.below (Blk.below ?_ hb1) hb2) _) hb3
    have := Blk.new (w.alloc (.cells #[.int .i64 a0, .int .i64 a1, .int .i64 a2, .int .i64 a3, .int .i64 a4, .int .i64 a5] 29)) #[.int .i64 0, .int .i64 0, .int .i64 0, .int .i64 0, .int .i64 0, .int .i64 0] 30
    simpa using this
  have hB : Below w.heap.size w w3 := by
    have h0 : Below w.heap.size w w1 := (((Below.refl _ _).alloc (Nat.le_refl _) _).alloc (by simp) _).trans (hb1.mono (by simp; omega))
    exact ((h0.trans (hb2.mono (by omega))).trans (((Below.refl _ _).alloc (by omega) _).trans (hb3.mono (by simp; omega))))
  have hlt : w.heap.size + 1 < w2.heap.size ∧ w2.heap.size < w3.heap.size := ⟨by omega, by omega⟩
  go_loopw [1, 8] (fun v k wr => AtRel i x1 x2 x3 x4 x5 x6 m0 m1 m2 m3 m4 m5 w2.heap.size v k wr ∧ Blk wr w3.heap.size #[.int .i64 a0, .int .i64 a1, .int .i64 a2, .int .i64 a3, .int .i64 a4, .int .i64 a5] 57 ∧ Blk wr (w.heap.size + 1) #[.int .i64 0, .int .i64 0, .int .i64 0, .int .i64 0, .int .i64 0, .int .i64 0] 30 ∧ Below w.heap.size w wr) (fun _ k _ => (intOf k + 1).toNat)
  case atStart => exact ⟨.inl ⟨rfl, rfl, D6.alloc _⟩, Blk.new w3 _ _, D4.alloc _, hB.alloc (by omega) _⟩
  case round =>
    clear hb1 hb2 hb3 cw1_0 cw1_1 cw2_0 cw2_1 cw3_0 cw3_1 cw3_2 fw1_0 fw1_1 fw2_0 fw2_1 fw3_0 fw3_1 fw3_2 D6 D4 hB
    obtain ⟨hr, D7, D4, hB⟩ := hrel
    rcases hr with ⟨rfl, rfl, D6⟩ | ⟨rfl, rfl, D6⟩ | ⟨rfl, rfl, D6⟩ | ⟨rfl, rfl, D6⟩ | ⟨rfl, rfl, D6⟩ | ⟨rfl, rfl, D6⟩ | ⟨rfl, rfl, D6⟩
    all_goals
      have c7 := D7.cell
      have c6 := D6.cell
      have f6 := D6.free
      go_wp2_with fail
    · go_roundw
      case rel => exact ⟨.inr (.inl ⟨rfl, congrArg (Value.int .i64) H5.div, by rw [H5.band]; simpa using D6.set 5 (.int .i64 m5)⟩), D7.other (by simp; omega) _, D4.other (by simp; omega) _, hB.setCell (by simp; omega) _⟩
      case measure => simp [intOf]
    · go_roundw
      case rel => exact ⟨.inr (.inr (.inl ⟨rfl, congrArg (Value.int .i64) H4.div, by rw [H4.band]; simpa using D6.set 4 (.int .i64 m4)⟩)), D7.other (by simp; omega) _, D4.other (by simp; omega) _, hB.setCell (by simp; omega) _⟩
      case measure => simp [intOf]
    · go_roundw
      case rel => exact ⟨.inr (.inr (.inr (.inl ⟨rfl, congrArg (Value.int .i64) H3.div, by rw [H3.band]; simpa using D6.set 3 (.int .i64 m3)⟩))), D7.other (by simp; omega) _, D4.other (by simp; omega) _, hB.setCell (by simp; omega) _⟩
      case measure => simp [intOf]
    · go_roundw
      case rel => exact ⟨.inr (.inr (.inr (.inr (.inl ⟨rfl, congrArg (Value.int .i64) H2.div, by rw [H2.band]; simpa using D6.set 2 (.int .i64 m2)⟩)))), D7.other (by simp; omega) _, D4.other (by simp; omega) _, hB.setCell (by simp; omega) _⟩
      case measure => simp [intOf]
    · go_roundw
      case rel => exact ⟨.inr (.inr (.inr (.inr (.inr (.inl ⟨rfl, congrArg (Value.int .i64) H1.div, by rw [H1.band]; simpa using D6.set 1 (.int .i64 m1)⟩))))), D7.other (by simp; omega) _, D4.other (by simp; omega) _, hB.setCell (by simp; omega) _⟩
      case measure => simp [intOf]
    · go_roundw
      case rel => exact ⟨.inr (.inr (.inr (.inr (.inr (.inr ⟨rfl, congrArg (Value.int .i64) H0.div, by rw [H0.band]; simpa using D6.set 0 (.int .i64 m0)⟩))))), D7.other (by simp; omega) _, D4.other (by simp; omega) _, hB.setCell (by simp; omega) _⟩
      case measure => simp [intOf]
    · have c4 := D4.cell
      have f4 := D4.free
      have hz := D6.lt
      go_wp2_with (go_at_call 31; refine (place_of _ _ _ _ _ _ _).mono ?_; rintro _ w4 ⟨rfl, hb4⟩; have hzw4 := hb4.size; (try simp only [World.size_alloc, World.size_setCell, World.size_drew] at hzw4); have cw4_0 := fun o => hb4.cell (p := ⟨w.heap.size + 1, o, none⟩) (by dsimp only; (try simp only [World.size_alloc, World.size_setCell, World.size_drew]); omega); have fw4_0 := fun o => hb4.frozen (p := ⟨w.heap.size + 1, o, none⟩) (by dsimp only; (try simp only [World.size_alloc, World.size_setCell, World.size_drew]); omega); have lw4_0 : w.heap.size + 1 < w4.heap.size := (by omega); have nw4_0 : (w.heap.size + 1 = w4.heap.size) = False := eq_false (by omega); have mw4_0 : (w4.heap.size = w.heap.size + 1) = False := eq_false (by omega))
      refine bodyPost_ret (v := .tuple #[v6 m0 m1 m2 m3 m4 m5, .int .i64 0]) (by simp [results, Try.results26, go_sem, cw4_0, c4]) rfl ⟨rfl, ?_⟩
      have hB4 := hB.trans (hb4.mono (by omega))
      go_grown
end Go.Proofs.Ytaeockopliplfaa
