/- Several texts in one: Ref, Ref2, Ref3, Ref4, Ref5, Ref7, Ref8, Ref9. -/
import Derived.Test.YtplflpmkomeadaaDoorK5
import Derived.LoopTactic
import Derived.Test.YtplflpmkomeadaaDoorCov
import Derived.Test.YtplflpmkomeadaaDoorK1
/- The specification of layer 9 (memfaultref09): bits, Numbers, Valid, Bits, Size. -/
namespace Go.Proofs.YtplflpmkomeadaaDoor
set_option linter.unusedSimpArgs false
set_option linter.unusedVariables false
open Go.RowKit
set_option maxRecDepth 100000
attribute [local go_sem] lt_more ne_more ne_more' ix0 ix1 ix2 ix3 ix4 ix5

theorem rbits_any (a b c d e f : Int) (w : World) : Calls Tryd.prog 79 #[v6 a b c d e f] w (Gives (v6 a b c d e f) w) := by
  go_enter Tryd.func79, Tryd.ntmps79
  go_wp2
  go_returns
  refine ⟨rfl, ?_⟩
  go_grown
theorem rnumbers_any (a b c d e f : Int) (w : World) : Calls Tryd.prog 93 #[v6 a b c d e f] w (Gives (v6 a b c d e f) w) := by
  go_enter Tryd.func93, Tryd.ntmps93
  go_wp2
  go_returns
  refine ⟨rfl, ?_⟩
  go_grown

set_option maxHeartbeats 8000000 in
theorem rvalid_any (a b c d e f : Int) (w : World) : Calls Tryd.prog 46 #[v6 a b c d e f] w (Gives (.bool (decide (SV a b c d e f))) w) := by
  go_enter Tryd.func46, Tryd.ntmps46
  go_wp2_with (go_at_call 79; refine (rbits_any _ _ _ _ _ _ _).mono ?_; rintro _ w1 ⟨rfl, hb1⟩; have hzw1 := hb1.size; (try simp only [World.size_alloc, World.size_setCell, World.size_drew] at hzw1); have cw1_0 := fun o => hb1.cell (p := ⟨w.heap.size, o, none⟩) (by dsimp only; (try simp only [World.size_alloc, World.size_setCell, World.size_drew]); omega); have fw1_0 := fun o => hb1.frozen (p := ⟨w.heap.size, o, none⟩) (by dsimp only; (try simp only [World.size_alloc, World.size_setCell, World.size_drew]); omega); have lw1_0 : w.heap.size < w1.heap.size := (by omega); have nw1_0 : (w.heap.size = w1.heap.size) = False := eq_false (by omega); have mw1_0 : (w1.heap.size = w.heap.size) = False := eq_false (by omega))
  have hb : Below w.heap.size w w1 := hb1.mono (by simp) |> fun h => ((Below.refl _ _).alloc (Nat.le_refl _) _).trans h
  have hB := hb.alloc hb.size (.cells #[.int .i64 a, .int .i64 b, .int .i64 c, .int .i64 d, .int .i64 e, .int .i64 f] 79)
  clear hb1 cw1_0 fw1_0 hzw1 hb
  go_rounds 7
  all_goals go_ret
  all_goals refine ⟨ret_bool ?_, hB⟩
  all_goals first
    | (refine (decide_eq_false (not_SV ?_)).symm; omega)
    | (refine decide_eq_decide.2 ⟨fun h => ⟨?_, ?_, ?_, ?_, ?_, ?_, ?_⟩, fun h => h.sum⟩ <;> omega)
theorem rvalid_yes {a b c d e f : Int} (h : SV a b c d e f) (w : World) : Calls Tryd.prog 46 #[v6 a b c d e f] w (Gives (.bool true) w) := by
  have := rvalid_any a b c d e f w
  rwa [decide_eq_true h] at this
theorem rvalid_no {a b c d e f : Int} (h : ¬ SV a b c d e f) (w : World) : Calls Tryd.prog 46 #[v6 a b c d e f] w (Gives (.bool false) w) := by
  have := rvalid_any a b c d e f w
  rwa [decide_eq_false h] at this

set_option maxHeartbeats 4000000 in
theorem rBits_yes {a b c d e f : Int} (h : SV a b c d e f) (w : World) : Calls Tryd.prog 47 #[v6 a b c d e f] w (Gives (.int .i64 (a + b + c + d + e + f)) w) := by
  obtain ⟨ha, hb, hc, hd, he, hf, hs⟩ := id h
  go_enter Tryd.func47, Tryd.ntmps47
  go_wp2_with (go_at_call 79; refine (rbits_any _ _ _ _ _ _ _).mono ?_; rintro _ w1 ⟨rfl, hb1⟩; have hzw1 := hb1.size; (try simp only [World.size_alloc, World.size_setCell, World.size_drew] at hzw1); have cw1_0 := fun o => hb1.cell (p := ⟨w.heap.size, o, none⟩) (by dsimp only; (try simp only [World.size_alloc, World.size_setCell, World.size_drew]); omega); have fw1_0 := fun o => hb1.frozen (p := ⟨w.heap.size, o, none⟩) (by dsimp only; (try simp only [World.size_alloc, World.size_setCell, World.size_drew]); omega); have lw1_0 : w.heap.size < w1.heap.size := (by omega); have nw1_0 : (w.heap.size = w1.heap.size) = False := eq_false (by omega); have mw1_0 : (w1.heap.size = w.heap.size) = False := eq_false (by omega))
  have hb : Below w.heap.size w w1 := hb1.mono (by simp) |> fun h => ((Below.refl _ _).alloc (Nat.le_refl _) _).trans h
  have hB := hb.alloc hb.size (.cells #[.int .i64 a, .int .i64 b, .int .i64 c, .int .i64 d, .int .i64 e, .int .i64 f] 79)
  clear hb1 cw1_0 fw1_0 hzw1 hb
  go_rounds 7
  go_ret
  refine ⟨ret_int ?_, hB⟩
  go_num
end Go.Proofs.YtplflpmkomeadaaDoor

/- The specification of layer 9 (memfaultref09): Size, ValidPlace. -/
namespace Go.Proofs.YtplflpmkomeadaaDoor
set_option linter.unusedSimpArgs false
set_option linter.unusedVariables false
open Go.RowKit
set_option maxRecDepth 100000
attribute [local go_sem] lt_more ne_more ne_more'

set_option maxHeartbeats 4000000 in
theorem rsize_yes {a b c d e f : Int} (h : SV a b c d e f) (w : World) : Calls Tryd.prog 17 #[v6 a b c d e f] w (Gives (.int .i64 (2 ^ (a + b + c + d + e + f).toNat)) w) := by
  obtain ⟨z, hz⟩ : ∃ z, z = a + b + c + d + e + f := ⟨_, rfl⟩
  have hzz : 0 ≤ z ∧ z ≤ 12 := by obtain ⟨ha, hb, hc, hd, he, hf, hs⟩ := h; omega
  have hB : ∀ w, Calls Tryd.prog 47 #[v6 a b c d e f] w (Gives (.int .i64 z) w) := fun w => by rw [hz]; exact rBits_yes h w
  rw [← hz]
  have HB := Lib.hid hB
  clear hB hz
  go_enter Tryd.func17, Tryd.ntmps17
  go_wp2_with (first | (go_at_call 46; refine (rvalid_yes h _).mono ?_; rintro _ w1 ⟨rfl, hb1⟩; have hzw1 := hb1.size; (try simp only [World.size_alloc, World.size_setCell, World.size_drew] at hzw1); have cw1_0 := fun o => hb1.cell (p := ⟨w.heap.size, o, none⟩) (by dsimp only; (try simp only [World.size_alloc, World.size_setCell, World.size_drew]); omega); have fw1_0 := fun o => hb1.frozen (p := ⟨w.heap.size, o, none⟩) (by dsimp only; (try simp only [World.size_alloc, World.size_setCell, World.size_drew]); omega); have lw1_0 : w.heap.size < w1.heap.size := (by omega); have nw1_0 : (w.heap.size = w1.heap.size) = False := eq_false (by omega); have mw1_0 : (w1.heap.size = w.heap.size) = False := eq_false (by omega)) | (go_at_call 47; refine (HB.out _).mono ?_; rintro _ w2 ⟨rfl, hb2⟩; have hzw2 := hb2.size; (try simp only [World.size_alloc, World.size_setCell, World.size_drew] at hzw2); have cw2_0 := fun o => hb2.cell (p := ⟨w.heap.size, o, none⟩) (by dsimp only; (try simp only [World.size_alloc, World.size_setCell, World.size_drew]); omega); have fw2_0 := fun o => hb2.frozen (p := ⟨w.heap.size, o, none⟩) (by dsimp only; (try simp only [World.size_alloc, World.size_setCell, World.size_drew]); omega); have lw2_0 : w.heap.size < w2.heap.size := (by omega); have nw2_0 : (w.heap.size = w2.heap.size) = False := eq_false (by omega); have mw2_0 : (w2.heap.size = w.heap.size) = False := eq_false (by omega)))
  go_ret
  refine ⟨ret_int (wrap_pw hzz.2), ?_⟩
  have h0 : Below w.heap.size w w1 := ((Below.refl _ _).alloc (Nat.le_refl _) _).trans (hb1.mono (by simp))
  exact h0.trans (hb2.mono (by omega))
theorem rsize_no {a b c d e f : Int} (h : ¬ SV a b c d e f) (w : World) : Calls Tryd.prog 17 #[v6 a b c d e f] w (Gives (.int .i64 0) w) := by
  go_enter Tryd.func17, Tryd.ntmps17
  go_wp2_with (go_at_call 46; refine (rvalid_no h _).mono ?_; rintro _ w1 ⟨rfl, hb1⟩; have hzw1 := hb1.size; (try simp only [World.size_alloc, World.size_setCell, World.size_drew] at hzw1); have cw1_0 := fun o => hb1.cell (p := ⟨w.heap.size, o, none⟩) (by dsimp only; (try simp only [World.size_alloc, World.size_setCell, World.size_drew]); omega); have fw1_0 := fun o => hb1.frozen (p := ⟨w.heap.size, o, none⟩) (by dsimp only; (try simp only [World.size_alloc, World.size_setCell, World.size_drew]); omega); have lw1_0 : w.heap.size < w1.heap.size := (by omega); have nw1_0 : (w.heap.size = w1.heap.size) = False := eq_false (by omega); have mw1_0 : (w1.heap.size = w.heap.size) = False := eq_false (by omega))
  go_ret
  exact ⟨rfl, ((Below.refl _ _).alloc (Nat.le_refl _) _).trans (hb1.mono (by simp))⟩
theorem size_no {a b c d e f : Int} (h : ¬ SV a b c d e f) (w : World) : Calls Tryd.prog 49 #[v6 a b c d e f] w (Gives (.int .i64 0) w) := by
  go_enter Tryd.func49, Tryd.ntmps49
  go_wp2_with (go_at_call 48; refine (valid_no h _).mono ?_; rintro _ w1 ⟨rfl, hb1⟩; have hzw1 := hb1.size; (try simp only [World.size_alloc, World.size_setCell, World.size_drew] at hzw1); have cw1_0 := fun o => hb1.cell (p := ⟨w.heap.size, o, none⟩) (by dsimp only; (try simp only [World.size_alloc, World.size_setCell, World.size_drew]); omega); have fw1_0 := fun o => hb1.frozen (p := ⟨w.heap.size, o, none⟩) (by dsimp only; (try simp only [World.size_alloc, World.size_setCell, World.size_drew]); omega); have lw1_0 : w.heap.size < w1.heap.size := (by omega); have nw1_0 : (w.heap.size = w1.heap.size) = False := eq_false (by omega); have mw1_0 : (w1.heap.size = w.heap.size) = False := eq_false (by omega))
  go_ret
  exact ⟨rfl, ((Below.refl _ _).alloc (Nat.le_refl _) _).trans (hb1.mono (by simp))⟩
theorem validPlace_no {a0 a1 a2 a3 a4 a5 p0 p1 p2 p3 p4 p5 : Int} (h : ¬ SV a0 a1 a2 a3 a4 a5) (w : World) : Calls Tryd.prog 77 #[v6 a0 a1 a2 a3 a4 a5, v6 p0 p1 p2 p3 p4 p5] w (Gives (.bool false) w) := by
  go_enter Tryd.func77, Tryd.ntmps77
  go_wp2_with (go_at_call 48; refine (valid_no h _).mono ?_; rintro _ w1 ⟨rfl, hb1⟩; have hzw1 := hb1.size; (try simp only [World.size_alloc, World.size_setCell, World.size_drew] at hzw1); have cw1_0 := fun o => hb1.cell (p := ⟨w.heap.size, o, none⟩) (by dsimp only; (try simp only [World.size_alloc, World.size_setCell, World.size_drew]); omega); have fw1_0 := fun o => hb1.frozen (p := ⟨w.heap.size, o, none⟩) (by dsimp only; (try simp only [World.size_alloc, World.size_setCell, World.size_drew]); omega); have lw1_0 : w.heap.size < w1.heap.size := (by omega); have nw1_0 : (w.heap.size = w1.heap.size) = False := eq_false (by omega); have mw1_0 : (w1.heap.size = w.heap.size) = False := eq_false (by omega); have cw1_1 := fun o => hb1.cell (p := ⟨w.heap.size + 1, o, none⟩) (by dsimp only; (try simp only [World.size_alloc, World.size_setCell, World.size_drew]); omega); have fw1_1 := fun o => hb1.frozen (p := ⟨w.heap.size + 1, o, none⟩) (by dsimp only; (try simp only [World.size_alloc, World.size_setCell, World.size_drew]); omega); have lw1_1 : w.heap.size + 1 < w1.heap.size := (by omega); have nw1_1 : (w.heap.size + 1 = w1.heap.size) = False := eq_false (by omega); have mw1_1 : (w1.heap.size = w.heap.size + 1) = False := eq_false (by omega))
  go_ret
  exact ⟨rfl, (((Below.refl _ _).alloc (Nat.le_refl _) _).alloc (by simp) _).trans (hb1.mono (by simp; omega))⟩
theorem rvalidPlace_no {a0 a1 a2 a3 a4 a5 p0 p1 p2 p3 p4 p5 : Int} (h : ¬ SV a0 a1 a2 a3 a4 a5) (w : World) : Calls Tryd.prog 92 #[v6 a0 a1 a2 a3 a4 a5, v6 p0 p1 p2 p3 p4 p5] w (Gives (.bool false) w) := by
  go_enter Tryd.func92, Tryd.ntmps92
  go_wp2_with (go_at_call 46; refine (rvalid_no h _).mono ?_; rintro _ w1 ⟨rfl, hb1⟩; have hzw1 := hb1.size; (try simp only [World.size_alloc, World.size_setCell, World.size_drew] at hzw1); have cw1_0 := fun o => hb1.cell (p := ⟨w.heap.size, o, none⟩) (by dsimp only; (try simp only [World.size_alloc, World.size_setCell, World.size_drew]); omega); have fw1_0 := fun o => hb1.frozen (p := ⟨w.heap.size, o, none⟩) (by dsimp only; (try simp only [World.size_alloc, World.size_setCell, World.size_drew]); omega); have lw1_0 : w.heap.size < w1.heap.size := (by omega); have nw1_0 : (w.heap.size = w1.heap.size) = False := eq_false (by omega); have mw1_0 : (w1.heap.size = w.heap.size) = False := eq_false (by omega); have cw1_1 := fun o => hb1.cell (p := ⟨w.heap.size + 1, o, none⟩) (by dsimp only; (try simp only [World.size_alloc, World.size_setCell, World.size_drew]); omega); have fw1_1 := fun o => hb1.frozen (p := ⟨w.heap.size + 1, o, none⟩) (by dsimp only; (try simp only [World.size_alloc, World.size_setCell, World.size_drew]); omega); have lw1_1 : w.heap.size + 1 < w1.heap.size := (by omega); have nw1_1 : (w.heap.size + 1 = w1.heap.size) = False := eq_false (by omega); have mw1_1 : (w1.heap.size = w.heap.size + 1) = False := eq_false (by omega))
  go_ret
  exact ⟨rfl, (((Below.refl _ _).alloc (Nat.le_refl _) _).alloc (by simp) _).trans (hb1.mono (by simp; omega))⟩

/-- The i-th of six numbers. -/
def pick6 (a0 a1 a2 a3 a4 a5 : Int) : Nat → Int
  | 0 => a0
  | 1 => a1
  | 2 => a2
  | 3 => a3
  | 4 => a4
  | _ => a5
theorem pick6_at (a0 a1 a2 a3 a4 a5 : Int) {i : Nat} (hi : i < 6) : (#[.int .i64 a0, .int .i64 a1, .int .i64 a2, .int .i64 a3, .int .i64 a4, .int .i64 a5] : Array Value)[i]? = some (.int .i64 (pick6 a0 a1 a2 a3 a4 a5 i)) := by
  have : i = 0 ∨ i = 1 ∨ i = 2 ∨ i = 3 ∨ i = 4 ∨ i = 5 := by omega
  rcases this with rfl | rfl | rfl | rfl | rfl | rfl <;> rfl
theorem pick6_SV {a0 a1 a2 a3 a4 a5 : Int} (h : SV a0 a1 a2 a3 a4 a5) (i : Nat) : 0 ≤ pick6 a0 a1 a2 a3 a4 a5 i ∧ pick6 a0 a1 a2 a3 a4 a5 i ≤ 12 := by
  obtain ⟨h0, h1, h2, h3, h4, h5, hs⟩ := h
  match i with
  | 0 => exact h0
  | 1 => exact h1
  | 2 => exact h2
  | 3 => exact h3
  | 4 => exact h4
  | _ + 5 => exact h5
theorem pick6_PV {a0 a1 a2 a3 a4 a5 p0 p1 p2 p3 p4 p5 : Int} : PV a0 a1 a2 a3 a4 a5 p0 p1 p2 p3 p4 p5 ↔ ∀ i, i < 6 → 0 ≤ pick6 p0 p1 p2 p3 p4 p5 i ∧ pick6 p0 p1 p2 p3 p4 p5 i < 2 ^ (pick6 a0 a1 a2 a3 a4 a5 i).toNat :=
  ⟨fun ⟨h0, h1, h2, h3, h4, h5⟩ i hi => by
    have : i = 0 ∨ i = 1 ∨ i = 2 ∨ i = 3 ∨ i = 4 ∨ i = 5 := by omega
    rcases this with rfl | rfl | rfl | rfl | rfl | rfl <;> assumption,
   fun h => ⟨h 0 (by decide), h 1 (by decide), h 2 (by decide), h 3 (by decide), h 4 (by decide), h 5 (by decide)⟩⟩

attribute [local irreducible] wpX
set_option maxHeartbeats 8000000 in
theorem rvalidPlace_any {a0 a1 a2 a3 a4 a5 p0 p1 p2 p3 p4 p5 : Int} (h : SV a0 a1 a2 a3 a4 a5) (w : World) : Calls Tryd.prog 92 #[v6 a0 a1 a2 a3 a4 a5, v6 p0 p1 p2 p3 p4 p5] w (Gives (.bool (decide (PV a0 a1 a2 a3 a4 a5 p0 p1 p2 p3 p4 p5))) w) := by
  have HS := Lib.hid h
  go_enter Tryd.func92, Tryd.ntmps92
  go_wp2_with (go_at_call 46; refine (rvalid_yes h _).mono ?_; rintro _ w1 ⟨rfl, hb1⟩; have hzw1 := hb1.size; (try simp only [World.size_alloc, World.size_setCell, World.size_drew] at hzw1); have cw1_0 := fun o => hb1.cell (p := ⟨w.heap.size, o, none⟩) (by dsimp only; (try simp only [World.size_alloc, World.size_setCell, World.size_drew]); omega); have fw1_0 := fun o => hb1.frozen (p := ⟨w.heap.size, o, none⟩) (by dsimp only; (try simp only [World.size_alloc, World.size_setCell, World.size_drew]); omega); have lw1_0 : w.heap.size < w1.heap.size := (by omega); have nw1_0 : (w.heap.size = w1.heap.size) = False := eq_false (by omega); have mw1_0 : (w1.heap.size = w.heap.size) = False := eq_false (by omega); have cw1_1 := fun o => hb1.cell (p := ⟨w.heap.size + 1, o, none⟩) (by dsimp only; (try simp only [World.size_alloc, World.size_setCell, World.size_drew]); omega); have fw1_1 := fun o => hb1.frozen (p := ⟨w.heap.size + 1, o, none⟩) (by dsimp only; (try simp only [World.size_alloc, World.size_setCell, World.size_drew]); omega); have lw1_1 : w.heap.size + 1 < w1.heap.size := (by omega); have nw1_1 : (w.heap.size + 1 = w1.heap.size) = False := eq_false (by omega); have mw1_1 : (w1.heap.size = w.heap.size + 1) = False := eq_false (by omega))
  have B1 : Blk w1 w.heap.size #[.int .i64 a0, .int .i64 a1, .int .i64 a2, .int .i64 a3, .int .i64 a4, .int .i64 a5] 28 := ((Blk.new w _ _).alloc _).below hb1
  have B2 : Blk w1 (w.heap.size + 1) #[.int .i64 p0, .int .i64 p1, .int .i64 p2, .int .i64 p3, .int .i64 p4, .int .i64 p5] 36 := by
    have := Blk.new (w.alloc (.cells #[.int .i64 a0, .int .i64 a1, .int .i64 a2, .int .i64 a3, .int .i64 a4, .int .i64 a5] 28)) #[.int .i64 p0, .int .i64 p1, .int .i64 p2, .int .i64 p3, .int .i64 p4, .int .i64 p5] 36
    exact Blk.below (by simpa using this) hb1
  have hB : Below w.heap.size w w1 := (((Below.refl _ _).alloc (Nat.le_refl _) _).alloc (by simp) _).trans (hb1.mono (by simp; omega))
  clear hb1 cw1_0 cw1_1 fw1_0 fw1_1 h hzw1 lw1_0 nw1_0 mw1_0 lw1_1 nw1_1 mw1_1
  have zS := B1.lt
  have zP := B2.lt
  refine wp_region_f (by kernel_rfl) [0, 1, 2, 3, 4, 5, 6, 7] (by kernel_rfl) (by kernel_rfl) (by kernel_rfl) (fun k => k < w1.heap.size) (fun w' => Below w.heap.size w w') (fun _ h => h) (lasting_below hB.size) hB.drew ?_
  intro w0 hw0
  have S0 : Blk w0 w.heap.size #[.int .i64 a0, .int .i64 a1, .int .i64 a2, .int .i64 a3, .int .i64 a4, .int .i64 a5] 28 := by rw [hw0]; exact B1.drew
  have P0 : Blk w0 (w.heap.size + 1) #[.int .i64 p0, .int .i64 p1, .int .i64 p2, .int .i64 p3, .int .i64 p4, .int .i64 p5] 36 := by rw [hw0]; exact B2.drew
  have hz0 : w1.heap.size = w0.heap.size := by rw [hw0]; rfl
  rw [hz0] at zS zP ⊢
  clear hw0 hz0 B1 B2 hB w1
  have cS := S0.cell
  have cP := P0.cell
  simp only [List.filterMap_cons, List.filterMap_nil, List.getElem?_toArray, List.getElem?_cons_zero, List.getElem?_cons_succ]
  refine wpF_load rfl rfl rfl zS (by simp [*]) (fun _ _ => ?_)
  go_step
  go_step
  refine wpF_call rfl rfl (fun w1 hc1 _ _ => ?_)
  go_step
  refine (rbits_any _ _ _ _ _ _ _).mono ?_
  rintro _ w2 ⟨rfl, hb2⟩
  dsimp only
  go_step
  refine ⟨hc1.below (fun _ h => h) hb2 (hc1.inv.trans (hb2.mono (by have := hc1.size; omega))), fun k _ hk => hb2.block k hk, ?_⟩
  clear hb2 hc1 w1 w2
  refine wpF_load rfl rfl rfl zP (by simp [*]) (fun _ _ => ?_)
  go_step
  go_step
  refine wpF_call rfl rfl (fun w1 hc1 _ _ => ?_)
  go_step
  refine (rnumbers_any _ _ _ _ _ _ _).mono ?_
  rintro _ w2 ⟨rfl, hb2⟩
  dsimp only
  go_step
  refine ⟨hc1.below (fun _ h => h) hb2 (hc1.inv.trans (hb2.mono (by have := hc1.size; omega))), fun k _ hk => hb2.block k hk, ?_⟩
  clear hb2 hc1 w1 w2
  refine wpF_float rfl rfl #[.int .i64 0, .int .i64 0, .int .i64 0, .int .i64 0, .int .i64 0, .int .i64 0] 79 (fun w => by kernel_rfl) (fun b5 hb5 hn5 _ _ => ?_)
  go_simp
  go_step
  refine wpF_float rfl rfl #[.int .i64 0, .int .i64 0, .int .i64 0, .int .i64 0, .int .i64 0, .int .i64 0] 79 (fun w => by kernel_rfl) (fun b6 hb6 hn6 _ _ => ?_)
  go_simp
  go_step
  have hne : b6 ≠ b5 := fun e => by rw [e] at hn6; simp [Fl.put] at hn6
  refine wpF_store (cs := #[.int .i64 a0, .int .i64 a1, .int .i64 a2, .int .i64 a3, .int .i64 a4, .int .i64 a5]) rfl rfl rfl rfl ((Fl.ne _ (Ne.symm hne) _).trans (Fl.at _ _ _)) rfl (by kernel_rfl) rfl rfl (fun _ _ => ?_)
  go_simp
  go_step
  refine wpF_store (cs := #[.int .i64 p0, .int .i64 p1, .int .i64 p2, .int .i64 p3, .int .i64 p4, .int .i64 p5]) rfl rfl rfl rfl ((Fl.ne _ hne _).trans (Fl.at _ _ _)) rfl (by kernel_rfl) rfl rfl (fun _ _ => ?_)
  go_simp
  go_step
  refine wpF_nil ?_
  intro w3 hC
  have A3 : Blk w3 b5 #[.int .i64 a0, .int .i64 a1, .int .i64 a2, .int .i64 a3, .int .i64 a4, .int .i64 a5] 79 := (hC.laid b5 _ ((Fl.ne _ (Ne.symm hne) _).trans (Fl.at _ _ _))).2
  have P3 : Blk w3 b6 #[.int .i64 p0, .int .i64 p1, .int .i64 p2, .int .i64 p3, .int .i64 p4, .int .i64 p5] 79 := (hC.laid b6 _ (Fl.at _ _ _)).2
  have hB3 := hC.inv
  clear hC cS cP S0 P0 hb5 hn5 hb6 hn6 zS zP w0
  go_step
  go_step
  go_wp2_with fail
  go_loopw [7] (fun c wr => ∃ i : Nat, i ≤ 6 ∧ c = .int .i64 i ∧ Blk wr b5 #[.int .i64 a0, .int .i64 a1, .int .i64 a2, .int .i64 a3, .int .i64 a4, .int .i64 a5] 79 ∧ Blk wr b6 #[.int .i64 p0, .int .i64 p1, .int .i64 p2, .int .i64 p3, .int .i64 p4, .int .i64 p5] 79 ∧ Below w.heap.size w wr ∧ (∀ j, j < i → 0 ≤ pick6 p0 p1 p2 p3 p4 p5 j ∧ pick6 p0 p1 p2 p3 p4 p5 j < 2 ^ (pick6 a0 a1 a2 a3 a4 a5 j).toNat)) (fun c _ => 6 - (intOf c).toNat)
  case atStart => exact ⟨0, by decide, rfl, A3, P3, hB3, fun j hj => absurd hj (Nat.not_lt_zero _)⟩
  case round =>
    clear A3 P3 hB3 w3
    obtain ⟨i, hi, rfl, A, P, hB, hall⟩ := hrel
    have HALL := Lib.hid hall
    clear hall
    by_cases hi6 : i < 6
    · have cA : wr.cell? ⟨b5, i, none⟩ = some _ := (A.cell i).trans (pick6_at a0 a1 a2 a3 a4 a5 hi6)
      have cP : wr.cell? ⟨b6, i, none⟩ = some _ := (P.cell i).trans (pick6_at p0 p1 p2 p3 p4 p5 hi6)
      have hx := pick6_SV HS.out i
      obtain ⟨x, hxe⟩ : ∃ x, x = pick6 a0 a1 a2 a3 a4 a5 i := ⟨_, rfl⟩
      obtain ⟨y, hye⟩ : ∃ y, y = pick6 p0 p1 p2 p3 p4 p5 i := ⟨_, rfl⟩
      rw [← hxe] at cA hx
      rw [← hye] at cP
      have HX := Lib.hid hxe
      have HY := Lib.hid hye
      have hxw := wrap_pw hx.2
      clear hxe hye
      by_cases hy0 : y < 0
      · go_wp2_with fail
        refine wp_region_x (by kernel_rfl) (by kernel_rfl) (by kernel_rfl) (by kernel_rfl) (fun k => k = b5 ∨ k = b6) ?_
        intro w0 hw0 hs0
        replace A := A.drew
        replace P := P.drew
        replace hB := hB.drew
        rw [← hw0] at A P hB
        replace cA : w0.cell? ⟨b5, i, none⟩ = some (.int .i64 x) := by rw [hw0]; exact cA
        replace cP : w0.cell? ⟨b6, i, none⟩ = some (.int .i64 y) := by rw [hw0]; exact cP
        clear hw0
        repeat (first
          | (refine wpX_skip rfl ?_; go_simp)
          | (refine wpX_free rfl rfl rfl (fun K hK => ?_); go_step; refine hK _ _ ?_; clear hK K)
          | (refine wpX_load rfl rfl rfl (by simp) hs0 (by simp [*]) (fun K hK => ?_); go_step; refine hK _ _ ?_; clear hK K))
        refine wpX_nil ?_
        go_step
        go_wp2_with fail
        go_ret
        refine ⟨ret_bool (decide_eq_false fun hpv => ?_).symm, hB⟩
        have := (pick6_PV.1 hpv i hi6).1
        rw [← HY.out] at this
        omega
      · have hd0 : decide (y < 0) = false := decide_eq_false hy0
        by_cases hyx : 2 ^ x.toNat ≤ y
        · go_wp2_with fail
          refine wp_region_x (by kernel_rfl) (by kernel_rfl) (by kernel_rfl) (by kernel_rfl) (fun k => k = b5 ∨ k = b6) ?_
          intro w0 hw0 hs0
          replace A := A.drew
          replace P := P.drew
          replace hB := hB.drew
          rw [← hw0] at A P hB
          replace cA : w0.cell? ⟨b5, i, none⟩ = some (.int .i64 x) := by rw [hw0]; exact cA
          replace cP : w0.cell? ⟨b6, i, none⟩ = some (.int .i64 y) := by rw [hw0]; exact cP
          clear hw0
          repeat (first
            | (refine wpX_skip rfl ?_; go_simp)
            | (refine wpX_free rfl rfl rfl (fun K hK => ?_); go_step; refine hK _ _ ?_; clear hK K)
            | (refine wpX_load rfl rfl rfl (by simp) hs0 (by simp [*]) (fun K hK => ?_); go_step; refine hK _ _ ?_; clear hK K))
          refine wpX_nil ?_
          go_step
          go_wp2_with fail
          go_ret
          refine ⟨ret_bool (decide_eq_false fun hpv => ?_).symm, hB⟩
          have := (pick6_PV.1 hpv i hi6).2
          rw [← HY.out, ← HX.out] at this
          omega
        · have hd1 : decide (2 ^ x.toNat ≤ y) = false := decide_eq_false hyx
          go_wp2_with fail
          refine wp_region_x (by kernel_rfl) (by kernel_rfl) (by kernel_rfl) (by kernel_rfl) (fun k => k = b5 ∨ k = b6) ?_
          intro w0 hw0 hs0
          replace A := A.drew
          replace P := P.drew
          replace hB := hB.drew
          rw [← hw0] at A P hB
          replace cA : w0.cell? ⟨b5, i, none⟩ = some (.int .i64 x) := by rw [hw0]; exact cA
          replace cP : w0.cell? ⟨b6, i, none⟩ = some (.int .i64 y) := by rw [hw0]; exact cP
          clear hw0
          repeat (first
            | (refine wpX_skip rfl ?_; go_simp)
            | (refine wpX_free rfl rfl rfl (fun K hK => ?_); go_step; refine hK _ _ ?_; clear hK K)
            | (refine wpX_load rfl rfl rfl (by simp) hs0 (by simp [*]) (fun K hK => ?_); go_step; refine hK _ _ ?_; clear hK K))
          refine wpX_nil ?_
          go_step
          go_wp2_with fail
          go_roundw
          case rel =>
            refine ⟨i + 1, by omega, by go_num, A, P, hB, fun j hj => ?_⟩
            by_cases e : j = i
            · subst e; rw [← HY.out, ← HX.out]; omega
            · exact HALL.out j (by omega)
          case measure => simp [intOf]; omega
    · have hie : i = 6 := by omega
      subst hie
      go_wp2_with fail
      go_ret
      exact ⟨ret_bool (decide_eq_true (pick6_PV.2 HALL.out)).symm, hB⟩
end Go.Proofs.YtplflpmkomeadaaDoor

/- The specification of layer 9 (memfaultref09): Index. -/
namespace Go.Proofs.YtplflpmkomeadaaDoor
set_option linter.unusedSimpArgs false
set_option linter.unusedVariables false
open Go.RowKit
set_option maxRecDepth 100000
attribute [local go_sem] lt_more ne_more ne_more'
attribute [local irreducible] wpX

end Go.Proofs.YtplflpmkomeadaaDoor

/- The specification of layer 9 (memfaultref09): At. -/
namespace Go.Proofs.YtplflpmkomeadaaDoor
set_option linter.unusedSimpArgs false
set_option linter.unusedVariables false
open Go.RowKit
set_option maxRecDepth 100000
attribute [local go_sem] lt_more ne_more ne_more'

theorem AtEq.le {b x y m : Int} (h : AtEq b x y m) (hx : 0 ≤ x) : 0 ≤ y ∧ y ≤ x := by
  rw [← h.div]
  have := pw_pos b
  exact ⟨Int.ediv_nonneg hx (by omega), Int.ediv_le_self _ hx⟩

set_option maxHeartbeats 4000000 in
theorem rat_yes {a0 a1 a2 a3 a4 a5 i : Int} (h : SV a0 a1 a2 a3 a4 a5) (hi0 : 0 ≤ i) (hi1 : i < 2 ^ (a0 + a1 + a2 + a3 + a4 + a5).toNat) {x1 x2 x3 x4 x5 x6 m0 m1 m2 m3 m4 m5 : Int}
    (H5 : AtEq a5 i x1 m5) (H4 : AtEq a4 x1 x2 m4) (H3 : AtEq a3 x2 x3 m3) (H2 : AtEq a2 x3 x4 m2) (H1 : AtEq a1 x4 x5 m1) (H0 : AtEq a0 x5 x6 m0) (w : World) : Calls Tryd.prog 94 #[v6 a0 a1 a2 a3 a4 a5, .int .i64 i] w (Gives (.tuple #[v6 m0 m1 m2 m3 m4 m5, .int .i64 0]) w) := by
  obtain ⟨ha, hb, hc, hd, he, hf, hs⟩ := id h
  go_enter Tryd.func94, Tryd.ntmps94
  go_wp2_with (first | (go_at_call 46; refine (rvalid_yes h _).mono ?_; rintro _ w1 ⟨rfl, hb1⟩; have hzw1 := hb1.size; (try simp only [World.size_alloc, World.size_setCell, World.size_drew] at hzw1); have cw1_0 := fun o => hb1.cell (p := ⟨w.heap.size, o, none⟩) (by dsimp only; (try simp only [World.size_alloc, World.size_setCell, World.size_drew]); omega); have fw1_0 := fun o => hb1.frozen (p := ⟨w.heap.size, o, none⟩) (by dsimp only; (try simp only [World.size_alloc, World.size_setCell, World.size_drew]); omega); have lw1_0 : w.heap.size < w1.heap.size := (by omega); have nw1_0 : (w.heap.size = w1.heap.size) = False := eq_false (by omega); have mw1_0 : (w1.heap.size = w.heap.size) = False := eq_false (by omega); have cw1_1 := fun o => hb1.cell (p := ⟨w.heap.size + 1, o, none⟩) (by dsimp only; (try simp only [World.size_alloc, World.size_setCell, World.size_drew]); omega); have fw1_1 := fun o => hb1.frozen (p := ⟨w.heap.size + 1, o, none⟩) (by dsimp only; (try simp only [World.size_alloc, World.size_setCell, World.size_drew]); omega); have lw1_1 : w.heap.size + 1 < w1.heap.size := (by omega); have nw1_1 : (w.heap.size + 1 = w1.heap.size) = False := eq_false (by omega); have mw1_1 : (w1.heap.size = w.heap.size + 1) = False := eq_false (by omega)) | (go_at_call 17; refine (rsize_yes h _).mono ?_; rintro _ w2 ⟨rfl, hb2⟩; have hzw2 := hb2.size; (try simp only [World.size_alloc, World.size_setCell, World.size_drew] at hzw2); have cw2_0 := fun o => hb2.cell (p := ⟨w.heap.size, o, none⟩) (by dsimp only; (try simp only [World.size_alloc, World.size_setCell, World.size_drew]); omega); have fw2_0 := fun o => hb2.frozen (p := ⟨w.heap.size, o, none⟩) (by dsimp only; (try simp only [World.size_alloc, World.size_setCell, World.size_drew]); omega); have lw2_0 : w.heap.size < w2.heap.size := (by omega); have nw2_0 : (w.heap.size = w2.heap.size) = False := eq_false (by omega); have mw2_0 : (w2.heap.size = w.heap.size) = False := eq_false (by omega); have cw2_1 := fun o => hb2.cell (p := ⟨w.heap.size + 1, o, none⟩) (by dsimp only; (try simp only [World.size_alloc, World.size_setCell, World.size_drew]); omega); have fw2_1 := fun o => hb2.frozen (p := ⟨w.heap.size + 1, o, none⟩) (by dsimp only; (try simp only [World.size_alloc, World.size_setCell, World.size_drew]); omega); have lw2_1 : w.heap.size + 1 < w2.heap.size := (by omega); have nw2_1 : (w.heap.size + 1 = w2.heap.size) = False := eq_false (by omega); have mw2_1 : (w2.heap.size = w.heap.size + 1) = False := eq_false (by omega)) | (go_at_call 79; refine (rbits_any _ _ _ _ _ _ _).mono ?_; rintro _ w3 ⟨rfl, hb3⟩; have hzw3 := hb3.size; (try simp only [World.size_alloc, World.size_setCell, World.size_drew] at hzw3); have cw3_0 := fun o => hb3.cell (p := ⟨w.heap.size, o, none⟩) (by dsimp only; (try simp only [World.size_alloc, World.size_setCell, World.size_drew]); omega); have fw3_0 := fun o => hb3.frozen (p := ⟨w.heap.size, o, none⟩) (by dsimp only; (try simp only [World.size_alloc, World.size_setCell, World.size_drew]); omega); have lw3_0 : w.heap.size < w3.heap.size := (by omega); have nw3_0 : (w.heap.size = w3.heap.size) = False := eq_false (by omega); have mw3_0 : (w3.heap.size = w.heap.size) = False := eq_false (by omega); have cw3_1 := fun o => hb3.cell (p := ⟨w.heap.size + 1, o, none⟩) (by dsimp only; (try simp only [World.size_alloc, World.size_setCell, World.size_drew]); omega); have fw3_1 := fun o => hb3.frozen (p := ⟨w.heap.size + 1, o, none⟩) (by dsimp only; (try simp only [World.size_alloc, World.size_setCell, World.size_drew]); omega); have lw3_1 : w.heap.size + 1 < w3.heap.size := (by omega); have nw3_1 : (w.heap.size + 1 = w3.heap.size) = False := eq_false (by omega); have mw3_1 : (w3.heap.size = w.heap.size + 1) = False := eq_false (by omega)))
  have D4 : Blk w3 (w.heap.size + 1) #[.int .i64 0, .int .i64 0, .int .i64 0, .int .i64 0, .int .i64 0, .int .i64 0] 36 := by
    refine Blk.below (Blk.below (Blk.below ?_ hb1) hb2) hb3
    have := Blk.new (w.alloc (.cells #[.int .i64 a0, .int .i64 a1, .int .i64 a2, .int .i64 a3, .int .i64 a4, .int .i64 a5] 28)) #[.int .i64 0, .int .i64 0, .int .i64 0, .int .i64 0, .int .i64 0, .int .i64 0] 36
    simpa using this
  have hB : Below w.heap.size w w3 := by
    have h0 : Below w.heap.size w w1 := (((Below.refl _ _).alloc (Nat.le_refl _) _).alloc (by simp) _).trans (hb1.mono (by simp; omega))
    exact (h0.trans (hb2.mono (by omega))).trans (hb3.mono (by omega))
  have hlt : w.heap.size + 1 < w3.heap.size := by omega
  have hz : ∀ b : Int, 0 ≤ b ∧ b ≤ 12 → (wrap64 (2 ^ b.toNat) = 0) = False := fun b hb => by rw [wrap_pw hb.2]; have := pw_pos b; exact eq_false (by omega)
  have H5m : i % wrap64 (2 ^ a5.toNat) = m5 := by rw [← Int.tmod_eq_emod_of_nonneg hi0]; exact H5.mod
  have hp12 := pw_12 (a := a0 + a1 + a2 + a3 + a4 + a5) hs
  have r1 := H5.le hi0
  have r2 := H4.le r1.1
  have r3 := H3.le r2.1
  have r4 := H2.le r3.1
  have r5 := H1.le r4.1
  have r6 := H0.le r5.1
  have H4m : x1 % wrap64 (2 ^ a4.toNat) = m4 := by rw [← Int.tmod_eq_emod_of_nonneg r1.1]; exact H4.mod
  have H3m : x2 % wrap64 (2 ^ a3.toNat) = m3 := by rw [← Int.tmod_eq_emod_of_nonneg r2.1]; exact H3.mod
  have H2m : x3 % wrap64 (2 ^ a2.toNat) = m2 := by rw [← Int.tmod_eq_emod_of_nonneg r3.1]; exact H2.mod
  have H1m : x4 % wrap64 (2 ^ a1.toNat) = m1 := by rw [← Int.tmod_eq_emod_of_nonneg r4.1]; exact H1.mod
  have H0m : x5 % wrap64 (2 ^ a0.toNat) = m0 := by rw [← Int.tmod_eq_emod_of_nonneg r5.1]; exact H0.mod
  have n0 := hz a0 ha
  have n1 := hz a1 hb
  have n2 := hz a2 hc
  have n3 := hz a3 hd
  have n4 := hz a4 he
  have n5 := hz a5 hf
  clear hz
  go_loopw [1, 8] (fun v k wr => AtRel i x1 x2 x3 x4 x5 x6 m0 m1 m2 m3 m4 m5 (w3.heap.size + 1) v k wr ∧ Blk wr w3.heap.size #[.int .i64 a0, .int .i64 a1, .int .i64 a2, .int .i64 a3, .int .i64 a4, .int .i64 a5] 79 ∧ Blk wr (w.heap.size + 1) #[.int .i64 0, .int .i64 0, .int .i64 0, .int .i64 0, .int .i64 0, .int .i64 0] 36 ∧ Below w.heap.size w wr) (fun _ k _ => (intOf k + 1).toNat)
  case atStart => exact ⟨.inl ⟨rfl, rfl, by simpa using Blk.new (w3.alloc _) #[.int .i64 0, .int .i64 0, .int .i64 0, .int .i64 0, .int .i64 0, .int .i64 0] 79⟩, (Blk.new w3 _ _).alloc _, (D4.alloc _).alloc _, (hB.alloc (by omega) _).alloc (by simp; omega) _⟩
  case round =>
    clear hb1 hb2 hb3 cw1_0 cw1_1 cw2_0 cw2_1 cw3_0 cw3_1 fw1_0 fw1_1 fw2_0 fw2_1 fw3_0 fw3_1 D4 hB
    obtain ⟨hr, D7, D4, hB⟩ := hrel
    rcases hr with ⟨rfl, rfl, D6⟩ | ⟨rfl, rfl, D6⟩ | ⟨rfl, rfl, D6⟩ | ⟨rfl, rfl, D6⟩ | ⟨rfl, rfl, D6⟩ | ⟨rfl, rfl, D6⟩ | ⟨rfl, rfl, D6⟩
    all_goals
      have c7 := D7.cell
      have c6 := D6.cell
      have f6 := D6.free
      have c4 := D4.cell
      have f4 := D4.free
      go_wp2_with fail
    · go_roundw
      case rel => exact ⟨.inr (.inl ⟨rfl, congrArg (Value.int .i64) ((congrArg wrap64 H5.quo).trans (IntWalk.wrap64_in _ (by omega))), by simpa using D6.set 5 (.int .i64 m5)⟩), D7.other (by first | omega | (simp; done) | (simp; omega)) _, D4.other (by simp; omega) _, hB.setCell (by simp; omega) _⟩
      case measure => simp [intOf]
    · go_roundw
      case rel => exact ⟨.inr (.inr (.inl ⟨rfl, congrArg (Value.int .i64) ((congrArg wrap64 H4.quo).trans (IntWalk.wrap64_in _ (by omega))), by simpa using D6.set 4 (.int .i64 m4)⟩)), D7.other (by first | omega | (simp; done) | (simp; omega)) _, D4.other (by simp; omega) _, hB.setCell (by simp; omega) _⟩
      case measure => simp [intOf]
    · go_roundw
      case rel => exact ⟨.inr (.inr (.inr (.inl ⟨rfl, congrArg (Value.int .i64) ((congrArg wrap64 H3.quo).trans (IntWalk.wrap64_in _ (by omega))), by simpa using D6.set 3 (.int .i64 m3)⟩))), D7.other (by first | omega | (simp; done) | (simp; omega)) _, D4.other (by simp; omega) _, hB.setCell (by simp; omega) _⟩
      case measure => simp [intOf]
    · go_roundw
      case rel => exact ⟨.inr (.inr (.inr (.inr (.inl ⟨rfl, congrArg (Value.int .i64) ((congrArg wrap64 H2.quo).trans (IntWalk.wrap64_in _ (by omega))), by simpa using D6.set 2 (.int .i64 m2)⟩)))), D7.other (by first | omega | (simp; done) | (simp; omega)) _, D4.other (by simp; omega) _, hB.setCell (by simp; omega) _⟩
      case measure => simp [intOf]
    · go_roundw
      case rel => exact ⟨.inr (.inr (.inr (.inr (.inr (.inl ⟨rfl, congrArg (Value.int .i64) ((congrArg wrap64 H1.quo).trans (IntWalk.wrap64_in _ (by omega))), by simpa using D6.set 1 (.int .i64 m1)⟩))))), D7.other (by first | omega | (simp; done) | (simp; omega)) _, D4.other (by simp; omega) _, hB.setCell (by simp; omega) _⟩
      case measure => simp [intOf]
    · go_roundw
      case rel => exact ⟨.inr (.inr (.inr (.inr (.inr (.inr ⟨rfl, congrArg (Value.int .i64) ((congrArg wrap64 H0.quo).trans (IntWalk.wrap64_in _ (by omega))), by simpa using D6.set 0 (.int .i64 m0)⟩))))), D7.other (by first | omega | (simp; done) | (simp; omega)) _, D4.other (by simp; omega) _, hB.setCell (by simp; omega) _⟩
      case measure => simp [intOf]
    · refine bodyPost_ret (v := .tuple #[v6 m0 m1 m2 m3 m4 m5, .int .i64 0]) (by simp [results, Tryd.results94, go_sem, c4]) rfl ⟨rfl, ?_⟩
      repeat refine Below.setCell ?_ (by simp) _
      exact hB
end Go.Proofs.YtplflpmkomeadaaDoor

/- The specification of layer 9 (memfaultref09) and package part: Index and At on what is not valid; which numbers a kind names. -/
namespace Go.Proofs.YtplflpmkomeadaaDoor
set_option linter.unusedSimpArgs false
set_option linter.unusedVariables false
open Go.RowKit
set_option maxRecDepth 100000
attribute [local go_sem] lt_more ne_more ne_more'

end Go.Proofs.YtplflpmkomeadaaDoor

/- The specification of layer 9 (memfaultref09): which numbers a kind names, Covers. -/
namespace Go.Proofs.YtplflpmkomeadaaDoor
set_option linter.unusedSimpArgs false
set_option linter.unusedVariables false
open Go.RowKit
set_option maxRecDepth 100000
attribute [local go_sem] lt_more ne_more ne_more'
attribute [local irreducible] wpX

@[reducible] def b6 (k : Int) : Value := .agg #[.bool (nmB k 0), .bool (nmB k 1), .bool (nmB k 2), .bool (nmB k 3), .bool (nmB k 4), .bool (nmB k 5)]
theorem named_yes (k : Int) (hk : 1 ≤ k ∧ k ≤ 6) (w : World) : Calls Tryd.prog 91 #[.int .i64 k] w (Gives (.tuple #[b6 k, .bool true]) w) := by
  have : k = 1 ∨ k = 2 ∨ k = 3 ∨ k = 4 ∨ k = 5 ∨ k = 6 := by omega
  rcases this with rfl | rfl | rfl | rfl | rfl | rfl
  all_goals
    go_enter Tryd.func91, Tryd.ntmps91
    go_wp2
    go_returns
    refine ⟨rfl, ?_⟩
    go_grown
theorem named_no (k : Int) (hk : ¬ (1 ≤ k ∧ k ≤ 6)) (w : World) : Calls Tryd.prog 91 #[.int .i64 k] w (Gives (.tuple #[.agg #[.bool false, .bool false, .bool false, .bool false, .bool false, .bool false], .bool false]) w) := by
  have h1 : ¬ k = 1 := by omega
  have h2 : ¬ k = 2 := by omega
  have h3 : ¬ k = 3 := by omega
  have h4 : ¬ k = 4 := by omega
  have h5 : ¬ k = 5 := by omega
  have h6 : ¬ k = 6 := by omega
  clear hk
  go_enter Tryd.func91, Tryd.ntmps91
  go_wp2
  go_returns
  refine ⟨rfl, ?_⟩
  go_grown
end Go.Proofs.YtplflpmkomeadaaDoor

/- The specification of layer 9 (memfaultref09): Covers. -/
namespace Go.Proofs.YtplflpmkomeadaaDoor
set_option linter.unusedSimpArgs false
set_option linter.unusedVariables false
open Go.RowKit
set_option maxRecDepth 100000
attribute [local go_sem] lt_more ne_more ne_more'
attribute [local irreducible] wpX

theorem nmB_at (k : Int) {i : Nat} (hi : i < 6) : (#[.bool (nmB k 0), .bool (nmB k 1), .bool (nmB k 2), .bool (nmB k 3), .bool (nmB k 4), .bool (nmB k 5)] : Array Value)[i]? = some (.bool (nmB k i)) := by
  have : i = 0 ∨ i = 1 ∨ i = 2 ∨ i = 3 ∨ i = 4 ∨ i = 5 := by omega
  rcases this with rfl | rfl | rfl | rfl | rfl | rfl <;> rfl
theorem pick6_CV {k p0 p1 p2 p3 p4 p5 q0 q1 q2 q3 q4 q5 : Int} : CV k p0 p1 p2 p3 p4 p5 q0 q1 q2 q3 q4 q5 ↔ ∀ i, i < 6 → nmB k i = true → pick6 p0 p1 p2 p3 p4 p5 i = pick6 q0 q1 q2 q3 q4 q5 i := by
  constructor
  · rintro ⟨h0, h1, h2, h3, h4, h5⟩ i hi
    have : i = 0 ∨ i = 1 ∨ i = 2 ∨ i = 3 ∨ i = 4 ∨ i = 5 := by omega
    rcases this with rfl | rfl | rfl | rfl | rfl | rfl
    · exact fun _ => h0
    · exact fun _ => h1
    · exact fun h => h2 (by simpa [nmB] using h)
    · exact fun h => h3 (by simpa [nmB] using h)
    · exact fun h => h4 (by simpa [nmB] using h)
    · exact fun h => h5 (by simpa [nmB] using h)
  · intro h
    exact ⟨h 0 (by decide) rfl, h 1 (by decide) rfl, fun hk => h 2 (by decide) (by simpa [nmB] using hk), fun hk => h 3 (by decide) (by simpa [nmB] using hk), fun hk => h 4 (by decide) (by simpa [nmB] using hk), fun hk => h 5 (by decide) (by simpa [nmB] using hk)⟩

theorem rcovers_no (k p0 p1 p2 p3 p4 p5 ch ms vl q0 q1 q2 q3 q4 q5 : Int) (hd : Bool) (hk : ¬ (1 ≤ k ∧ k ≤ 6)) (w : World) :
    Calls Tryd.prog 95 #[vF k p0 p1 p2 p3 p4 p5 ch ms vl hd, v6 q0 q1 q2 q3 q4 q5] w (Gives (.bool false) w) := by
  go_enter Tryd.func95, Tryd.ntmps95
  have H := HS.start NoD w
  go_wp2_with fail
  refine (named_no _ hk _).mono ?_
  rintro _ w1 ⟨rfl, hb⟩
  replace H := H.alloc.alloc.below hb
  clear hb
  try clear C
  try simp only [World.size_alloc, List.nil_append, List.cons_append, List.append_assoc] at H
  generalize w.heap.size + 1 = bP at H ⊢
  generalize w.heap.size = bF at H ⊢
  have C := H.cells
  try simp only [cellsOf, cellsM, apartOf, apartM, and_true] at C
  dsimp only
  go_wp2_with fail
  go_ret
  refine ⟨rfl, ?_⟩
  (first | exact H.done | exact H.skipAlloc.done | exact H.skipAlloc.skipAlloc.done | exact H.skipAlloc.skipAlloc.skipAlloc.done)

set_option maxHeartbeats 8000000 in
theorem rcovers_yes (k p0 p1 p2 p3 p4 p5 ch ms vl q0 q1 q2 q3 q4 q5 : Int) (hd : Bool) (hk : 1 ≤ k ∧ k ≤ 6) (w : World) :
    Calls Tryd.prog 95 #[vF k p0 p1 p2 p3 p4 p5 ch ms vl hd, v6 q0 q1 q2 q3 q4 q5] w (Gives (.bool (decide (CV k p0 p1 p2 p3 p4 p5 q0 q1 q2 q3 q4 q5))) w) := by
  go_enter Tryd.func95, Tryd.ntmps95
  have H := HS.start NoD w
  go_wp2_with fail
  refine (named_yes _ hk _).mono ?_
  rintro _ w1 ⟨rfl, hb⟩
  replace H := H.alloc.alloc.below hb
  clear hb
  try clear C
  try simp only [World.size_alloc, List.nil_append, List.cons_append, List.append_assoc] at H
  generalize w.heap.size + 1 = bP at H ⊢
  generalize w.heap.size = bF at H ⊢
  have C := H.cells
  try simp only [cellsOf, cellsM, apartOf, apartM, and_true] at C
  dsimp only
  go_wp2_with fail
  refine wp_region_fH (by kernel_rfl) [0, 1, 2, 3, 4, 5, 6, 7, 8] (by kernel_rfl) (by kernel_rfl) (by kernel_rfl) (fun _ => False) (H.alloc) ?_
  clear H; intro w2 H hz0
  try clear C
  try simp only [World.size_alloc, List.nil_append, List.cons_append, List.append_assoc] at H hz0 ⊢
  generalize w1.heap.size = bN at H hz0 ⊢
  clear hz0
  try clear w1
  have C := H.cells
  try simp only [cellsOf, cellsM, apartOf, apartM, and_true] at C
  simp only [List.filterMap_cons, List.filterMap_nil, List.getElem?_toArray, List.getElem?_cons_zero, List.getElem?_cons_succ]
  (refine wpF_free rfl rfl rfl (fun _ _ => ?_); go_step; go_step)
  (refine wpF_load rfl rfl rfl (by simp [Stay, OneD, NoD, *]) (by simp [*]) (fun _ _ => ?_); go_step; go_step)
  (refine wpF_call rfl rfl (fun wc hc _ _ => ?_); go_step; refine (rnumbers_any _ _ _ _ _ _ _).mono ?_; rintro _ wd ⟨rfl, hb⟩; dsimp only; go_step; refine ⟨hc.below (fun _ h => h.lt) hb (hc.inv.below hb), fun k _ hk => hb.block k hk, ?_⟩; clear hb hc wc wd)
  (refine wpF_load rfl rfl rfl (by simp [Stay, OneD, NoD, *]) (by simp [*]) (fun _ _ => ?_); go_step; go_step)
  (refine wpF_call rfl rfl (fun wc hc _ _ => ?_); go_step; refine (rnumbers_any _ _ _ _ _ _ _).mono ?_; rintro _ wd ⟨rfl, hb⟩; dsimp only; go_step; refine ⟨hc.below (fun _ h => h.lt) hb (hc.inv.below hb), fun k _ hk => hb.block k hk, ?_⟩; clear hb hc wc wd)
  (refine wpF_float rfl rfl #[.int .i64 0, .int .i64 0, .int .i64 0, .int .i64 0, .int .i64 0, .int .i64 0]   79 (fun w => by kernel_rfl) (fun b5 hb5 nb5 _ _ => ?_); go_simp; go_step)
  (refine wpF_float rfl rfl #[.int .i64 0, .int .i64 0, .int .i64 0, .int .i64 0, .int .i64 0, .int .i64 0]   79 (fun w => by kernel_rfl) (fun b6 hb6 nb6 _ _ => ?_); go_simp; go_step)
  have hne : b6 ≠ b5 := fun e => by rw [e] at nb6; simp [Fl.put] at nb6
  (refine wpF_store (cs := #[.int .i64 p0, .int .i64 p1, .int .i64 p2, .int .i64 p3, .int .i64 p4, .int .i64 p5]) rfl rfl rfl rfl ((Fl.ne _ (Ne.symm hne) _).trans (Fl.at _ _ _)) rfl (by kernel_rfl) rfl rfl (fun _ _ => ?_); go_simp; go_step)
  (refine wpF_store (cs := #[.int .i64 q0, .int .i64 q1, .int .i64 q2, .int .i64 q3, .int .i64 q4, .int .i64 q5]) rfl rfl rfl rfl ((Fl.ne _ hne _).trans (Fl.at _ _ _)) rfl (by kernel_rfl) rfl rfl (fun _ _ => ?_); go_simp; go_step)
  refine wpF_nil ?_
  intro w3 hC
  replace H := H.floats2 hC hne ((Fl.ne _ (Ne.symm hne) _).trans (Fl.at _ _ _)) (Fl.at _ _ _)
  clear hC hne C hb5 nb5 hb6 nb6 w2
  try simp only [List.nil_append, List.cons_append, List.append_assoc] at H
  have C := H.cells
  try simp only [cellsOf, cellsM, apartOf, apartM, and_true] at C
  go_step
  go_step
  go_wp2_with fail
  replace H := H.less (L' := [.blk bN _ _, .blk b5 _ _, .blk b6 _ _]) (by repeat (first | exact .slnil | refine .cons_cons _ ?_ | refine .cons _ ?_))
  try clear C
  go_loopw [9] (fun c wr => ∃ i : Nat, i ≤ 6 ∧ c = .int .i64 i ∧ HS NoD w [.blk bN #[.bool (nmB k 0), .bool (nmB k 1), .bool (nmB k 2), .bool (nmB k 3), .bool (nmB k 4), .bool (nmB k 5)] 86, .blk b5 #[.int .i64 p0, .int .i64 p1, .int .i64 p2, .int .i64 p3, .int .i64 p4, .int .i64 p5] 79, .blk b6 #[.int .i64 q0, .int .i64 q1, .int .i64 q2, .int .i64 q3, .int .i64 q4, .int .i64 q5] 79] wr ∧ ∀ j, j < i → nmB k j = true → pick6 p0 p1 p2 p3 p4 p5 j = pick6 q0 q1 q2 q3 q4 q5 j) (fun c _ => 6 - (intOf c).toNat)
  case atStart => exact ⟨0, by decide, rfl, H, fun j hj => absurd hj (Nat.not_lt_zero _)⟩
  case round =>
    clear H w3
    obtain ⟨i, hi, rfl, H, hall⟩ := hrel
    have HALL := Lib.hid hall
    clear hall
    by_cases hi6 : i < 6
    · obtain ⟨x, hx⟩ : ∃ x, x = pick6 p0 p1 p2 p3 p4 p5 i := ⟨_, rfl⟩
      obtain ⟨y, hy⟩ : ∃ y, y = pick6 q0 q1 q2 q3 q4 q5 i := ⟨_, rfl⟩
      have HX := Lib.hid hx
      have HY := Lib.hid hy
      clear hx hy
      cases hn : nmB k i
      · have hj : ∀ j, j < i + 1 → nmB k j = true → pick6 p0 p1 p2 p3 p4 p5 j = pick6 q0 q1 q2 q3 q4 q5 j := fun j hj hjn => by
          by_cases e : j = i
          · subst e; rw [hn] at hjn; cases hjn
          · exact HALL.out j (by omega) hjn
        have HJ := Lib.hid hj
        clear hj
        go_wp2_with fail
        refine wp_region_xH (by kernel_rfl) (by kernel_rfl) (by kernel_rfl) (by kernel_rfl) (fun _ => False) (H) ?_
        clear H; intro w4 H hz0 hs0
        try clear C
        try simp only [World.size_alloc, List.nil_append, List.cons_append, List.append_assoc] at H hz0
        clear hz0
        try clear w3
        have C := H.cells
        try simp only [cellsOf, cellsM, apartOf, apartM, and_true] at C
        have Z := H.zs
        try simp only [ltsOf, ltsM, and_true] at Z
        have hz0 := Nat.le_refl w4.heap.size
        try clear C
        have cN : w4.cell? ⟨bN, i, none⟩ = some _ := (Blk.cell (H.at 0 rfl) i).trans (nmB_at k hi6)
        have zN := Blk.lt (H.at 0 rfl)
        rw [hn] at cN
        repeat (first | (refine wpX_skip rfl ?_; go_simp) | (refine wpX_free rfl rfl rfl (fun K hK => ?_); go_step; refine hK _ _ ?_; clear hK K) | (refine wpX_load rfl rfl rfl (by simp [Stay, OneD, NoD, *]) hs0 (by simp [*]) (fun K hK => ?_); go_step; refine hK _ _ ?_; clear hK K))
        (refine wpX_nil ?_; go_step)
        go_wp2_with fail
        go_roundw
        case rel => exact ⟨i + 1, by omega, by go_num, H, HJ.out⟩
        case measure => simp [intOf]; omega
      · by_cases hxy : x = y
        · have hj : ∀ j, j < i + 1 → nmB k j = true → pick6 p0 p1 p2 p3 p4 p5 j = pick6 q0 q1 q2 q3 q4 q5 j := fun j hj hjn => by
            by_cases e : j = i
            · subst e; rw [← HX.out, ← HY.out, hxy]
            · exact HALL.out j (by omega) hjn
          have HJ := Lib.hid hj
          clear hj
          have hb : (x != y) = false := by simp [hxy]
          go_wp2_with fail
          refine wp_region_xH (by kernel_rfl) (by kernel_rfl) (by kernel_rfl) (by kernel_rfl) (fun _ => False) (H) ?_
          clear H; intro w5 H hz0 hs0
          try clear C
          try simp only [World.size_alloc, List.nil_append, List.cons_append, List.append_assoc] at H hz0
          clear hz0
          try clear w4
          have C := H.cells
          try simp only [cellsOf, cellsM, apartOf, apartM, and_true] at C
          have Z := H.zs
          try simp only [ltsOf, ltsM, and_true] at Z
          have hz0 := Nat.le_refl w5.heap.size
          try clear C
          have cN : w5.cell? ⟨bN, i, none⟩ = some _ := (Blk.cell (H.at 0 rfl) i).trans (nmB_at k hi6)
          have zN := Blk.lt (H.at 0 rfl)
          rw [hn] at cN
          have cP : w5.cell? ⟨b5, i, none⟩ = some _ := (Blk.cell (H.at 1 rfl) i).trans (pick6_at p0 p1 p2 p3 p4 p5 hi6)
          have zP := Blk.lt (H.at 1 rfl)
          have zQ := Blk.lt (H.at 2 rfl)
          have cQ : w5.cell? ⟨b6, i, none⟩ = some _ := (Blk.cell (H.at 2 rfl) i).trans (pick6_at q0 q1 q2 q3 q4 q5 hi6)
          rw [← HX.out] at cP
          rw [← HY.out] at cQ
          repeat (first | (refine wpX_skip rfl ?_; go_simp) | (refine wpX_free rfl rfl rfl (fun K hK => ?_); go_step; refine hK _ _ ?_; clear hK K) | (refine wpX_load rfl rfl rfl (by simp [Stay, OneD, NoD, *]) hs0 (by simp [*]) (fun K hK => ?_); go_step; refine hK _ _ ?_; clear hK K))
          (refine wpX_nil ?_; go_step)
          go_wp2_with fail
          go_roundw
          case rel => exact ⟨i + 1, by omega, by go_num, H, HJ.out⟩
          case measure => simp [intOf]; omega
        · have hb : (x != y) = true := by simpa using hxy
          go_wp2_with fail
          refine wp_region_xH (by kernel_rfl) (by kernel_rfl) (by kernel_rfl) (by kernel_rfl) (fun _ => False) (H) ?_
          clear H; intro w6 H hz0 hs0
          try clear C
          try simp only [World.size_alloc, List.nil_append, List.cons_append, List.append_assoc] at H hz0
          clear hz0
          try clear w5
          have C := H.cells
          try simp only [cellsOf, cellsM, apartOf, apartM, and_true] at C
          have Z := H.zs
          try simp only [ltsOf, ltsM, and_true] at Z
          have hz0 := Nat.le_refl w6.heap.size
          try clear C
          have cN : w6.cell? ⟨bN, i, none⟩ = some _ := (Blk.cell (H.at 0 rfl) i).trans (nmB_at k hi6)
          have zN := Blk.lt (H.at 0 rfl)
          rw [hn] at cN
          have cP : w6.cell? ⟨b5, i, none⟩ = some _ := (Blk.cell (H.at 1 rfl) i).trans (pick6_at p0 p1 p2 p3 p4 p5 hi6)
          have zP := Blk.lt (H.at 1 rfl)
          have zQ := Blk.lt (H.at 2 rfl)
          have cQ : w6.cell? ⟨b6, i, none⟩ = some _ := (Blk.cell (H.at 2 rfl) i).trans (pick6_at q0 q1 q2 q3 q4 q5 hi6)
          rw [← HX.out] at cP
          rw [← HY.out] at cQ
          repeat (first | (refine wpX_skip rfl ?_; go_simp) | (refine wpX_free rfl rfl rfl (fun K hK => ?_); go_step; refine hK _ _ ?_; clear hK K) | (refine wpX_load rfl rfl rfl (by simp [Stay, OneD, NoD, *]) hs0 (by simp [*]) (fun K hK => ?_); go_step; refine hK _ _ ?_; clear hK K))
          (refine wpX_nil ?_; go_step)
          go_wp2_with fail
          go_ret
          refine ⟨ret_bool (decide_eq_false fun hc => ?_).symm, H.done⟩
          have := pick6_CV.1 hc i hi6 hn
          rw [← HX.out, ← HY.out] at this
          exact hxy this
    · have hie : i = 6 := by omega
      subst hie
      go_wp2_with fail
      go_ret
      exact ⟨ret_bool (decide_eq_true (pick6_CV.2 HALL.out)).symm, H.done⟩
end Go.Proofs.YtplflpmkomeadaaDoor

/- Package part and the specification of layer 9: ValidFault. -/
namespace Go.Proofs.YtplflpmkomeadaaDoor
set_option linter.unusedSimpArgs false
set_option linter.unusedVariables false
open Go.RowKit
set_option maxRecDepth 100000
attribute [local go_sem] lt_more ne_more ne_more'
attribute [local irreducible] wpX

theorem gives_of {P : Program} {f : FuncId} {args : Array Value} {w : World} {v : Value} (h : Calls P f args w fun e w' => e = .returned v ∧ w = w') : Calls P f args w (Gives v w) :=
  h.mono fun _ _ ⟨he, hw⟩ => ⟨he, hw ▸ Below.refl _ _⟩

theorem ixN (a0 a1 a2 a3 a4 a5 : Int) {i : Nat} (hi : i < 6) (w : World) : (Instr.index 79 (v6 a0 a1 a2 a3 a4 a5) (.int .i64 i)).run Tryd.prog w = .ok (.int .i64 (pick6 a0 a1 a2 a3 a4 a5 i)) w := by
  have : i = 0 ∨ i = 1 ∨ i = 2 ∨ i = 3 ∨ i = 4 ∨ i = 5 := by omega
  rcases this with rfl | rfl | rfl | rfl | rfl | rfl
  · exact ix0 _ _ _ _ _ _ w
  · exact ix1 _ _ _ _ _ _ w
  · exact ix2 _ _ _ _ _ _ w
  · exact ix3 _ _ _ _ _ _ w
  · exact ix4 _ _ _ _ _ _ w
  · exact ix5 _ _ _ _ _ _ w

/-- Is it a valid place, of a valid shape? -/
theorem validPlace_all (a0 a1 a2 a3 a4 a5 p0 p1 p2 p3 p4 p5 : Int) (w : World) : Calls Tryd.prog 77 #[v6 a0 a1 a2 a3 a4 a5, v6 p0 p1 p2 p3 p4 p5] w (Gives (.bool (decide (SV a0 a1 a2 a3 a4 a5 ∧ PV a0 a1 a2 a3 a4 a5 p0 p1 p2 p3 p4 p5))) w) := by
  by_cases h : SV a0 a1 a2 a3 a4 a5
  · have := validPlace_any (p0 := p0) (p1 := p1) (p2 := p2) (p3 := p3) (p4 := p4) (p5 := p5) h w
    simpa [h] using this
  · have := validPlace_no (p0 := p0) (p1 := p1) (p2 := p2) (p3 := p3) (p4 := p4) (p5 := p5) h w
    simpa [h] using this
theorem rvalidPlace_all (a0 a1 a2 a3 a4 a5 p0 p1 p2 p3 p4 p5 : Int) (w : World) : Calls Tryd.prog 92 #[v6 a0 a1 a2 a3 a4 a5, v6 p0 p1 p2 p3 p4 p5] w (Gives (.bool (decide (SV a0 a1 a2 a3 a4 a5 ∧ PV a0 a1 a2 a3 a4 a5 p0 p1 p2 p3 p4 p5))) w) := by
  by_cases h : SV a0 a1 a2 a3 a4 a5
  · have := rvalidPlace_any (p0 := p0) (p1 := p1) (p2 := p2) (p3 := p3) (p4 := p4) (p5 := p5) h w
    simpa [h] using this
  · have := rvalidPlace_no (p0 := p0) (p1 := p1) (p2 := p2) (p3 := p3) (p4 := p4) (p5 := p5) h w
    simpa [h] using this

/-- The numbers of a place that a fault of kind k does not name are 0. -/
def Unnamed (k p0 p1 p2 p3 p4 p5 : Int) : Prop := ∀ i, i < 6 → nmB k i = false → pick6 p0 p1 p2 p3 p4 p5 i = 0
instance (k p0 p1 p2 p3 p4 p5 : Int) : Decidable (Unnamed k p0 p1 p2 p3 p4 p5) := by unfold Unnamed; infer_instance

/-- What ValidFault answers for a known kind and a valid place. -/
def vfB (n k p0 p1 p2 p3 p4 p5 ch ms vl : Int) (hd : Bool) : Bool :=
  decide (Unnamed k p0 p1 p2 p3 p4 p5) && decide (0 ≤ ch) && decide (ch < n) && (ms != 0) && (bits BinOp.andNot .u8 vl ms == 0) && (hd || vl == 0)

theorem vfault_kind (a0 a1 a2 a3 a4 a5 n k p0 p1 p2 p3 p4 p5 ch ms vl : Int) (hd : Bool) (hk : ¬ (1 ≤ k ∧ k ≤ 6)) (w : World) :
    Calls Tryd.prog 42 #[v6 a0 a1 a2 a3 a4 a5, .int .i64 n, vF k p0 p1 p2 p3 p4 p5 ch ms vl hd] w (Gives (.bool false) w) := by
  go_enter Tryd.func42, Tryd.ntmps42
  have H := HS.start NoD w
  go_wp2_with fail
  refine (gives_of (known_no _ hk _)).mono ?_
  rintro _ w1 ⟨rfl, hb⟩
  replace H := H.alloc.alloc.below hb
  clear hb
  try clear C
  try simp only [World.size_alloc, List.nil_append, List.cons_append, List.append_assoc] at H
  generalize w.heap.size + 1 = bF at H ⊢
  generalize w.heap.size = bS at H ⊢
  have C := H.cells
  try simp only [cellsOf, cellsM, apartOf, apartM, and_true] at C
  dsimp only
  go_wp2_with fail
  go_ret
  exact ⟨rfl, by (first | exact H.done | exact H.skipAlloc.done | exact H.skipAlloc.skipAlloc.done | exact H.skipAlloc.skipAlloc.skipAlloc.done)⟩
theorem vfault_place (a0 a1 a2 a3 a4 a5 n k p0 p1 p2 p3 p4 p5 ch ms vl : Int) (hd : Bool) (hk : 1 ≤ k ∧ k ≤ 6) (hp : ¬ (SV a0 a1 a2 a3 a4 a5 ∧ PV a0 a1 a2 a3 a4 a5 p0 p1 p2 p3 p4 p5)) (w : World) :
    Calls Tryd.prog 42 #[v6 a0 a1 a2 a3 a4 a5, .int .i64 n, vF k p0 p1 p2 p3 p4 p5 ch ms vl hd] w (Gives (.bool false) w) := by
  have hv : ∀ w, Calls Tryd.prog 77 #[v6 a0 a1 a2 a3 a4 a5, v6 p0 p1 p2 p3 p4 p5] w (Gives (.bool false) w) := fun w => by
    have := validPlace_all a0 a1 a2 a3 a4 a5 p0 p1 p2 p3 p4 p5 w
    rwa [decide_eq_false hp] at this
  have HV := Lib.hid hv
  clear hv hp
  go_enter Tryd.func42, Tryd.ntmps42
  have H := HS.start NoD w
  go_wp2_with fail
  refine (gives_of (known_yes _ hk _)).mono ?_
  rintro _ w1 ⟨rfl, hb⟩
  replace H := H.alloc.alloc.below hb
  clear hb
  try clear C
  try simp only [World.size_alloc, List.nil_append, List.cons_append, List.append_assoc] at H
  generalize w.heap.size + 1 = bF at H ⊢
  generalize w.heap.size = bS at H ⊢
  have C := H.cells
  try simp only [cellsOf, cellsM, apartOf, apartM, and_true] at C
  dsimp only
  go_wp2_with fail
  refine (HV.out _).mono ?_
  rintro _ w2 ⟨rfl, hb⟩
  replace H := H.below hb
  clear hb
  try clear C
  try simp only [World.size_alloc, List.nil_append, List.cons_append, List.append_assoc] at H
  try clear w1
  have C := H.cells
  try simp only [cellsOf, cellsM, apartOf, apartM, and_true] at C
  dsimp only
  go_wp2_with fail
  go_ret
  exact ⟨rfl, by (first | exact H.done | exact H.skipAlloc.done | exact H.skipAlloc.skipAlloc.done | exact H.skipAlloc.skipAlloc.skipAlloc.done)⟩
set_option maxHeartbeats 8000000 in
theorem vfault_rest (a0 a1 a2 a3 a4 a5 n k p0 p1 p2 p3 p4 p5 ch ms vl : Int) (hd : Bool) (hk : 1 ≤ k ∧ k ≤ 6) (hp : SV a0 a1 a2 a3 a4 a5 ∧ PV a0 a1 a2 a3 a4 a5 p0 p1 p2 p3 p4 p5) (w : World) (hN : Nm w) :
    Calls Tryd.prog 42 #[v6 a0 a1 a2 a3 a4 a5, .int .i64 n, vF k p0 p1 p2 p3 p4 p5 ch ms vl hd] w (Gives (.bool (vfB n k p0 p1 p2 p3 p4 p5 ch ms vl hd)) w) := by
  have hv : ∀ w, Calls Tryd.prog 77 #[v6 a0 a1 a2 a3 a4 a5, v6 p0 p1 p2 p3 p4 p5] w (Gives (.bool true) w) := fun w => by
    have := validPlace_all a0 a1 a2 a3 a4 a5 p0 p1 p2 p3 p4 p5 w
    rwa [decide_eq_true hp] at this
  have HV := Lib.hid hv
  clear hv hp
  obtain ⟨m, rfl⟩ : ∃ m : Nat, k = m := ⟨k.toNat, by omega⟩
  go_enter Tryd.func42, Tryd.ntmps42
  have H := HS.start NoD w
  go_wp2_with fail
  refine (gives_of (known_yes _ hk _)).mono ?_
  rintro _ w1 ⟨rfl, hb⟩
  replace H := H.alloc.alloc.below hb
  clear hb
  try clear C
  try simp only [World.size_alloc, List.nil_append, List.cons_append, List.append_assoc] at H
  generalize w.heap.size + 1 = bF at H ⊢
  generalize w.heap.size = bS at H ⊢
  have C := H.cells
  try simp only [cellsOf, cellsM, apartOf, apartM, and_true] at C
  dsimp only
  go_wp2_with fail
  refine (HV.out _).mono ?_
  rintro _ w2 ⟨rfl, hb⟩
  replace H := H.below hb
  clear hb
  try clear C
  try simp only [World.size_alloc, List.nil_append, List.cons_append, List.append_assoc] at H
  try clear w1
  have C := H.cells
  try simp only [cellsOf, cellsM, apartOf, apartM, and_true] at C
  dsimp only
  go_wp2_with fail
  refine (numbers_any _ _ _ _ _ _ _).mono ?_
  rintro _ w3 ⟨rfl, hb⟩
  replace H := H.below hb
  clear hb
  try clear C
  try simp only [World.size_alloc, List.nil_append, List.cons_append, List.append_assoc] at H
  try clear w2
  have C := H.cells
  try simp only [cellsOf, cellsM, apartOf, apartM, and_true] at C
  dsimp only
  go_wp2_with fail
  go_loopw [23] (fun c wr => ∃ i : Nat, i ≤ 6 ∧ c = .int .i64 i ∧ HS NoD w [.blk bS #[.int .i64 a0, .int .i64 a1, .int .i64 a2, .int .i64 a3, .int .i64 a4, .int .i64 a5] 28, .blk bF #[.int .i64 m, .int .i64 p0, .int .i64 p1, .int .i64 p2, .int .i64 p3, .int .i64 p4, .int .i64 p5, .int .i64 ch, .int .u8 ms, .int .u8 vl, .bool hd] 38] wr ∧ ∀ j, j < i → nmB m j = false → pick6 p0 p1 p2 p3 p4 p5 j = 0) (fun c _ => 6 - (intOf c).toNat)
  case atStart => exact ⟨0, by decide, rfl, H, fun j hj => absurd hj (Nat.not_lt_zero _)⟩
  case round =>
    clear H C w3
    obtain ⟨i, hi, rfl, H, hall⟩ := hrel
    have HALL := Lib.hid hall
    clear hall
    try clear C
    try simp only [World.size_alloc, List.nil_append, List.cons_append, List.append_assoc] at H
    have C := H.cells
    try simp only [cellsOf, cellsM, apartOf, apartM, and_true] at C
    by_cases hi6 : i < 6
    · have hix := ixN p0 p1 p2 p3 p4 p5 hi6
      have cT : wr.cell? ⟨0, m * 6 + i, none⟩ = some (.bool (nmB m i)) := (H.was (p := ⟨0, m * 6 + i, none⟩) hN.lt id).trans (by rw [Nat.mul_comm]; exact hN m (by omega) (by omega) i hi6)
      obtain ⟨x, hx⟩ : ∃ x, x = pick6 p0 p1 p2 p3 p4 p5 i := ⟨_, rfl⟩
      rw [← hx] at hix
      have HX := Lib.hid hx
      clear hx
      by_cases hx0 : x = 0
      · have hb : (x != 0) = false := by simp [hx0]
        go_wp2_with fail
        go_roundw
        case rel =>
          refine ⟨i + 1, by omega, by go_num, H, fun j hj hjn => ?_⟩
          by_cases e : j = i
          · subst e; rw [← HX.out, hx0]
          · exact HALL.out j (by omega) hjn
        case measure => simp [intOf]; omega
      · have hb : (x != 0) = true := by simpa using hx0
        cases hn : nmB m i
        · rw [hn] at cT
          go_wp2_with fail
          go_ret
          refine ⟨ret_bool ?_, H.done⟩
          have hu : ¬ Unnamed m p0 p1 p2 p3 p4 p5 := fun h => hx0 (by rw [HX.out]; exact h i hi6 hn)
          simp [vfB, hu]
        · rw [hn] at cT
          go_wp2_with fail
          go_roundw
          case rel =>
            refine ⟨i + 1, by omega, by go_num, H, fun j hj hjn => ?_⟩
            by_cases e : j = i
            · subst e; rw [hn] at hjn; cases hjn
            · exact HALL.out j (by omega) hjn
          case measure => simp [intOf]; omega
    · have hie : i = 6 := by omega
      subst hie
      go_wp2_with fail
      all_goals go_ret
      all_goals have hu : Unnamed m p0 p1 p2 p3 p4 p5 := HALL.out
      all_goals exact ⟨ret_bool (by first | (simp [vfB, *]; done) | (simp [vfB, *]; exact hu) | (cases hd <;> simp_all [vfB]; done) | (simp [vfB, *] <;> intros <;> omega)), H.done⟩

/-- What ValidFault answers. -/
def vfAll (a0 a1 a2 a3 a4 a5 n k p0 p1 p2 p3 p4 p5 ch ms vl : Int) (hd : Bool) : Bool :=
  decide (1 ≤ k ∧ k ≤ 6) && decide (SV a0 a1 a2 a3 a4 a5 ∧ PV a0 a1 a2 a3 a4 a5 p0 p1 p2 p3 p4 p5) && vfB n k p0 p1 p2 p3 p4 p5 ch ms vl hd
theorem vfault_any (a0 a1 a2 a3 a4 a5 n k p0 p1 p2 p3 p4 p5 ch ms vl : Int) (hd : Bool) (w : World) (hN : Nm w) :
    Calls Tryd.prog 42 #[v6 a0 a1 a2 a3 a4 a5, .int .i64 n, vF k p0 p1 p2 p3 p4 p5 ch ms vl hd] w (Gives (.bool (vfAll a0 a1 a2 a3 a4 a5 n k p0 p1 p2 p3 p4 p5 ch ms vl hd)) w) := by
  unfold vfAll
  by_cases hk : 1 ≤ k ∧ k ≤ 6
  · rw [decide_eq_true hk]
    by_cases hp : SV a0 a1 a2 a3 a4 a5 ∧ PV a0 a1 a2 a3 a4 a5 p0 p1 p2 p3 p4 p5
    · rw [decide_eq_true hp]
      exact vfault_rest a0 a1 a2 a3 a4 a5 n k p0 p1 p2 p3 p4 p5 ch ms vl hd hk hp w hN
    · rw [decide_eq_false hp]
      exact vfault_place a0 a1 a2 a3 a4 a5 n k p0 p1 p2 p3 p4 p5 ch ms vl hd hk hp w
  · rw [decide_eq_false hk]
    exact vfault_kind a0 a1 a2 a3 a4 a5 n k p0 p1 p2 p3 p4 p5 ch ms vl hd hk w

theorem rvfault_kind (a0 a1 a2 a3 a4 a5 n k p0 p1 p2 p3 p4 p5 ch ms vl : Int) (hd : Bool) (hk : ¬ (1 ≤ k ∧ k ≤ 6)) (w : World) :
    Calls Tryd.prog 72 #[v6 a0 a1 a2 a3 a4 a5, .int .i64 n, vF k p0 p1 p2 p3 p4 p5 ch ms vl hd] w (Gives (.bool false) w) := by
  go_enter Tryd.func72, Tryd.ntmps72
  have H := HS.start NoD w
  go_wp2_with fail
  refine (named_no _ hk _).mono ?_
  rintro _ w1 ⟨rfl, hb⟩
  replace H := H.alloc.alloc.below hb
  clear hb
  try clear C
  try simp only [World.size_alloc, List.nil_append, List.cons_append, List.append_assoc] at H
  generalize w.heap.size + 1 = bF at H ⊢
  generalize w.heap.size = bS at H ⊢
  have C := H.cells
  try simp only [cellsOf, cellsM, apartOf, apartM, and_true] at C
  dsimp only
  go_wp2_with fail
  go_ret
  exact ⟨rfl, by (first | exact H.done | exact H.skipAlloc.done | exact H.skipAlloc.skipAlloc.done | exact H.skipAlloc.skipAlloc.skipAlloc.done)⟩
theorem rvfault_place (a0 a1 a2 a3 a4 a5 n k p0 p1 p2 p3 p4 p5 ch ms vl : Int) (hd : Bool) (hk : 1 ≤ k ∧ k ≤ 6) (hp : ¬ (SV a0 a1 a2 a3 a4 a5 ∧ PV a0 a1 a2 a3 a4 a5 p0 p1 p2 p3 p4 p5)) (w : World) :
    Calls Tryd.prog 72 #[v6 a0 a1 a2 a3 a4 a5, .int .i64 n, vF k p0 p1 p2 p3 p4 p5 ch ms vl hd] w (Gives (.bool false) w) := by
  have hv : ∀ w, Calls Tryd.prog 92 #[v6 a0 a1 a2 a3 a4 a5, v6 p0 p1 p2 p3 p4 p5] w (Gives (.bool false) w) := fun w => by
    have := rvalidPlace_all a0 a1 a2 a3 a4 a5 p0 p1 p2 p3 p4 p5 w
    rwa [decide_eq_false hp] at this
  have HV := Lib.hid hv
  clear hv hp
  go_enter Tryd.func72, Tryd.ntmps72
  have H := HS.start NoD w
  go_wp2_with fail
  refine (named_yes _ hk _).mono ?_
  rintro _ w1 ⟨rfl, hb⟩
  replace H := H.alloc.alloc.below hb
  clear hb
  try clear C
  try simp only [World.size_alloc, List.nil_append, List.cons_append, List.append_assoc] at H
  generalize w.heap.size + 1 = bF at H ⊢
  generalize w.heap.size = bS at H ⊢
  have C := H.cells
  try simp only [cellsOf, cellsM, apartOf, apartM, and_true] at C
  dsimp only
  go_wp2_with fail
  refine (HV.out _).mono ?_
  rintro _ w2 ⟨rfl, hb⟩
  replace H := H.alloc.below hb
  clear hb
  try clear C
  try simp only [World.size_alloc, List.nil_append, List.cons_append, List.append_assoc] at H
  generalize w1.heap.size = bN at H ⊢
  try clear w1
  have C := H.cells
  try simp only [cellsOf, cellsM, apartOf, apartM, and_true] at C
  dsimp only
  go_wp2_with fail
  go_ret
  exact ⟨rfl, by (first | exact H.done | exact H.skipAlloc.done | exact H.skipAlloc.skipAlloc.done | exact H.skipAlloc.skipAlloc.skipAlloc.done)⟩
/-- The numbers of a fault besides its place fit. -/
def Fit (n ch ms vl : Int) (hd : Bool) : Prop := 0 ≤ ch ∧ ch < n ∧ ¬ ms = 0 ∧ bits BinOp.andNot .u8 vl ms = 0 ∧ (hd = false → vl = 0)
set_option maxHeartbeats 8000000 in
theorem rvfault_unfit (a0 a1 a2 a3 a4 a5 n k p0 p1 p2 p3 p4 p5 ch ms vl : Int) (hd : Bool) (hk : 1 ≤ k ∧ k ≤ 6) (hp : SV a0 a1 a2 a3 a4 a5 ∧ PV a0 a1 a2 a3 a4 a5 p0 p1 p2 p3 p4 p5) (hf : ¬ Fit n ch ms vl hd) (w : World) :
    Calls Tryd.prog 72 #[v6 a0 a1 a2 a3 a4 a5, .int .i64 n, vF k p0 p1 p2 p3 p4 p5 ch ms vl hd] w (Gives (.bool false) w) := by
  have hv : ∀ w, Calls Tryd.prog 92 #[v6 a0 a1 a2 a3 a4 a5, v6 p0 p1 p2 p3 p4 p5] w (Gives (.bool true) w) := fun w => by
    have := rvalidPlace_all a0 a1 a2 a3 a4 a5 p0 p1 p2 p3 p4 p5 w
    rwa [decide_eq_true hp] at this
  have HV := Lib.hid hv
  have HF := Lib.hid hf
  clear hv hp hf
  go_enter Tryd.func72, Tryd.ntmps72
  have H := HS.start NoD w
  go_wp2_with fail
  refine (named_yes _ hk _).mono ?_
  rintro _ w1 ⟨rfl, hb⟩
  replace H := H.alloc.alloc.below hb
  clear hb
  try clear C
  try simp only [World.size_alloc, List.nil_append, List.cons_append, List.append_assoc] at H
  generalize w.heap.size + 1 = bF at H ⊢
  generalize w.heap.size = bS at H ⊢
  have C := H.cells
  try simp only [cellsOf, cellsM, apartOf, apartM, and_true] at C
  dsimp only
  go_wp2_with fail
  refine (HV.out _).mono ?_
  rintro _ w2 ⟨rfl, hb⟩
  replace H := H.alloc.below hb
  clear hb
  try clear C
  try simp only [World.size_alloc, List.nil_append, List.cons_append, List.append_assoc] at H
  generalize w1.heap.size = bN at H ⊢
  try clear w1
  have C := H.cells
  try simp only [cellsOf, cellsM, apartOf, apartM, and_true] at C
  dsimp only
  go_wp2_with fail
  all_goals first
    | (go_ret; exact ⟨rfl, H.done⟩)
    | (exfalso; have hf := HF.out; simp_all [Fit]; done)
    | (exfalso; have hf := HF.out; simp_all [Fit]; omega)
set_option maxHeartbeats 8000000 in
theorem rvfault_fit (a0 a1 a2 a3 a4 a5 n k p0 p1 p2 p3 p4 p5 ch ms vl : Int) (hd : Bool) (hk : 1 ≤ k ∧ k ≤ 6) (hp : SV a0 a1 a2 a3 a4 a5 ∧ PV a0 a1 a2 a3 a4 a5 p0 p1 p2 p3 p4 p5) (hf : Fit n ch ms vl hd) (w : World) :
    Calls Tryd.prog 72 #[v6 a0 a1 a2 a3 a4 a5, .int .i64 n, vF k p0 p1 p2 p3 p4 p5 ch ms vl hd] w (Gives (.bool (decide (Unnamed k p0 p1 p2 p3 p4 p5))) w) := by
  have hv : ∀ w, Calls Tryd.prog 92 #[v6 a0 a1 a2 a3 a4 a5, v6 p0 p1 p2 p3 p4 p5] w (Gives (.bool true) w) := fun w => by
    have := rvalidPlace_all a0 a1 a2 a3 a4 a5 p0 p1 p2 p3 p4 p5 w
    rwa [decide_eq_true hp] at this
  have HV := Lib.hid hv
  obtain ⟨f1, f2, f3, f4, f5⟩ := hf
  have g1 : decide (ch < 0) = false := decide_eq_false (by omega)
  have g2 : decide (n ≤ ch) = false := decide_eq_false (by omega)
  have g3 : (ms == 0) = false := by simpa using f3
  have g5 : hd = false → (vl != 0) = false := fun h => by simpa using f5 h
  clear hv hp f1 f2 f3 f5
  cases hd
  all_goals (first | (have g6 := g5 rfl; clear g5) | clear g5)
  all_goals (
    go_enter Tryd.func72, Tryd.ntmps72
    have H := HS.start NoD w
    go_wp2_with fail
    refine (named_yes _ hk _).mono ?_
    rintro _ w1 ⟨rfl, hb⟩
    replace H := H.alloc.alloc.below hb
    clear hb
    try clear C
    try simp only [World.size_alloc, List.nil_append, List.cons_append, List.append_assoc] at H
    generalize w.heap.size + 1 = bF at H ⊢
    generalize w.heap.size = bS at H ⊢
    have C := H.cells
    try simp only [cellsOf, cellsM, apartOf, apartM, and_true] at C
    dsimp only
    go_wp2_with fail
    refine (HV.out _).mono ?_
    rintro _ w2 ⟨rfl, hb⟩
    replace H := H.alloc.below hb
    clear hb
    try clear C
    try simp only [World.size_alloc, List.nil_append, List.cons_append, List.append_assoc] at H
    generalize w1.heap.size = bN at H ⊢
    try clear w1
    have C := H.cells
    try simp only [cellsOf, cellsM, apartOf, apartM, and_true] at C
    dsimp only
    go_wp2_with fail
    refine (rnumbers_any _ _ _ _ _ _ _).mono ?_
    rintro _ w3 ⟨rfl, hb⟩
    replace H := H.below hb
    clear hb
    try clear C
    try simp only [World.size_alloc, List.nil_append, List.cons_append, List.append_assoc] at H
    try clear w2
    have C := H.cells
    try simp only [cellsOf, cellsM, apartOf, apartM, and_true] at C
    dsimp only
    go_wp2_with fail
    generalize hwb : w3.alloc _ = w4
    replace H := HS.eqW hwb H.alloc
    try simp only [World.size_alloc, List.nil_append, List.cons_append, List.append_assoc] at H
    clear hwb
    generalize w3.heap.size = b9 at H ⊢
    try clear C
    try clear w3
    have C := H.cells
    try simp only [cellsOf, cellsM, apartOf, apartM, and_true] at C
    replace H := H.less (L' := [.blk bN _ _, .blk b9 _ _]) (by repeat (first | exact .slnil | refine .cons_cons _ ?_ | refine .cons _ ?_))
    try clear C
    clear g1 g2 g3 f4
    try clear g6
    go_loopw [10] (fun c wr => ∃ i : Nat, i ≤ 6 ∧ c = .int .i64 i ∧ HS NoD w [.blk bN #[.bool (nmB k 0), .bool (nmB k 1), .bool (nmB k 2), .bool (nmB k 3), .bool (nmB k 4), .bool (nmB k 5)] 86, .blk b9 #[.int .i64 p0, .int .i64 p1, .int .i64 p2, .int .i64 p3, .int .i64 p4, .int .i64 p5] 79] wr ∧ ∀ j, j < i → nmB k j = false → pick6 p0 p1 p2 p3 p4 p5 j = 0) (fun c _ => 6 - (intOf c).toNat)
    case atStart => exact ⟨0, by decide, rfl, H, fun j hj => absurd hj (Nat.not_lt_zero _)⟩
    case round =>
      clear H w4
      obtain ⟨i, hi, rfl, H, hall⟩ := hrel
      have HALL := Lib.hid hall
      clear hall
      by_cases hi6 : i < 6
      · obtain ⟨x, hx⟩ : ∃ x, x = pick6 p0 p1 p2 p3 p4 p5 i := ⟨_, rfl⟩
        have cN : wr.cell? ⟨bN, i, none⟩ = some _ := (Blk.cell (H.at 0 rfl) i).trans (nmB_at k hi6)
        have cP : wr.cell? ⟨b9, i, none⟩ = some _ := (Blk.cell (H.at 1 rfl) i).trans (pick6_at p0 p1 p2 p3 p4 p5 hi6)
        rw [← hx] at cP
        have HX := Lib.hid hx
        clear hx
        cases hn : nmB k i
        · rw [hn] at cN
          by_cases hx0 : x = 0
          · have hb : (x != 0) = false := by simp [hx0]
            go_wp2_with fail
            go_roundw
            case rel =>
              refine ⟨i + 1, by omega, by go_num, H, fun j hj hjn => ?_⟩
              by_cases e : j = i
              · subst e; rw [← HX.out, hx0]
              · exact HALL.out j (by omega) hjn
            case measure => simp [intOf]; omega
          · have hb : (x != 0) = true := by simpa using hx0
            go_wp2_with fail
            go_ret
            exact ⟨ret_bool (decide_eq_false fun h => hx0 (by rw [HX.out]; exact h i hi6 hn)).symm, H.done⟩
        · rw [hn] at cN
          go_wp2_with fail
          go_roundw
          case rel =>
            refine ⟨i + 1, by omega, by go_num, H, fun j hj hjn => ?_⟩
            by_cases e : j = i
            · subst e; rw [hn] at hjn; cases hjn
            · exact HALL.out j (by omega) hjn
          case measure => simp [intOf]; omega
      · have hie : i = 6 := by omega
        subst hie
        go_wp2_with fail
        go_ret
        exact ⟨ret_bool (decide_eq_true HALL.out).symm, H.done⟩)

theorem rvfault_any (a0 a1 a2 a3 a4 a5 n k p0 p1 p2 p3 p4 p5 ch ms vl : Int) (hd : Bool) (w : World) :
    Calls Tryd.prog 72 #[v6 a0 a1 a2 a3 a4 a5, .int .i64 n, vF k p0 p1 p2 p3 p4 p5 ch ms vl hd] w (Gives (.bool (vfAll a0 a1 a2 a3 a4 a5 n k p0 p1 p2 p3 p4 p5 ch ms vl hd)) w) := by
  unfold vfAll
  by_cases hk : 1 ≤ k ∧ k ≤ 6
  · rw [decide_eq_true hk]
    by_cases hp : SV a0 a1 a2 a3 a4 a5 ∧ PV a0 a1 a2 a3 a4 a5 p0 p1 p2 p3 p4 p5
    · rw [decide_eq_true hp]
      by_cases hf : Fit n ch ms vl hd
      · have e : vfB n k p0 p1 p2 p3 p4 p5 ch ms vl hd = decide (Unnamed k p0 p1 p2 p3 p4 p5) := by
          obtain ⟨f1, f2, f3, f4, f5⟩ := hf
          cases hd <;> simp_all [vfB]
        rw [e]
        exact rvfault_fit a0 a1 a2 a3 a4 a5 n k p0 p1 p2 p3 p4 p5 ch ms vl hd hk hp hf w
      · have e : vfB n k p0 p1 p2 p3 p4 p5 ch ms vl hd = false := by
          refine Bool.eq_false_iff.2 fun h => hf ?_
          simp only [vfB, Bool.and_eq_true, decide_eq_true_eq, bne_iff_ne, ne_eq, beq_iff_eq, Bool.or_eq_true] at h
          obtain ⟨⟨⟨⟨⟨h0, h1⟩, h2⟩, h3⟩, h4⟩, h5⟩ := h
          exact ⟨h1, h2, h3, h4, fun h => by rcases h5 with h5 | h5; rw [h] at h5; cases h5; exact h5⟩
        rw [e]
        exact rvfault_unfit a0 a1 a2 a3 a4 a5 n k p0 p1 p2 p3 p4 p5 ch ms vl hd hk hp hf w
    · rw [decide_eq_false hp]
      exact rvfault_place a0 a1 a2 a3 a4 a5 n k p0 p1 p2 p3 p4 p5 ch ms vl hd hk hp w
  · rw [decide_eq_false hk]
    exact rvfault_kind a0 a1 a2 a3 a4 a5 n k p0 p1 p2 p3 p4 p5 ch ms vl hd hk w
end Go.Proofs.YtplflpmkomeadaaDoor
