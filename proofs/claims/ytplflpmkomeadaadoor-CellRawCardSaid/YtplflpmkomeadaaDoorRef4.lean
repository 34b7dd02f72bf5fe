/- The specification of layer 9 (memfaultref09): At. -/
import Derived.Test.YtplflpmkomeadaaDoorK6
import Derived.LoopTactic
namespace Go.Proofs.YtplflpmkomeadaaDoor
set_option linter.unusedSimpArgs false
set_option linter.unusedVariables false
open Go.RowKit
set_option maxRecDepth 100000
attribute [local go_sem] lt_more ne_more ne_more'

theorem AtEq.le {b x y m : Int} (h : AtEq b x y m) (hx : 0 ≤ x) : 0 ≤ y ∧ y ≤ x := by
  rw [← h.div]
  have := pw_pos b
  exact ⟨Int.ediv_nonneg hx (by omega), Int.ediv_le_self _ hx⟩

set_option maxHeartbeats 4000000 in
theorem rat_yes {a0 a1 a2 a3 a4 a5 i : Int} (h : SV a0 a1 a2 a3 a4 a5) (hi0 : 0 ≤ i) (hi1 : i < 2 ^ (a0 + a1 + a2 + a3 + a4 + a5).toNat) {x1 x2 x3 x4 x5 x6 m0 m1 m2 m3 m4 m5 : Int}
    (H5 : AtEq a5 i x1 m5) (H4 : AtEq a4 x1 x2 m4) (H3 : AtEq a3 x2 x3 m3) (H2 : AtEq a2 x3 x4 m2) (H1 : AtEq a1 x4 x5 m1) (H0 : AtEq a0 x5 x6 m0) (w : World) : Calls Tryd.prog 94 #[v6 a0 a1 a2 a3 a4 a5, .int .i64 i] w (Gives (.tuple #[v6 m0 m1 m2 m3 m4 m5, .int .i64 0]) w) := by
  obtain ⟨ha, hb, hc, hd, he, hf, hs⟩ := id h
  go_enter Tryd.func94, Tryd.ntmps94
  go_wp2_with (first | (go_at_call 46; refine (rvalid_yes h _).mono ?_; rintro _ w1 ⟨rfl, hb1⟩; have hzw1 := hb1.size; (try simp only [World.size_alloc, World.size_setCell, World.size_drew] at hzw1); have cw1_0 := fun o => hb1.cell (p := ⟨w.heap.size, o, none⟩) (by dsimp only; (try simp only [World.size_alloc, World.size_setCell, World.size_drew]); omega); have fw1_0 := fun o => hb1.frozen (p := ⟨w.heap.size, o, none⟩) (by dsimp only; (try simp only [World.size_alloc, World.size_setCell, World.size_drew]); omega); have lw1_0 : w.heap.size < w1.heap.size := (by omega); have nw1_0 : (w.heap.size = w1.heap.size) = False := eq_false (by omega); have mw1_0 : (w1.heap.size = w.heap.size) = False := eq_false (by omega); have cw1_1 := fun o => hb1.cell (p := ⟨w.heap.size + 1, o, none⟩) (by dsimp only; (try simp only [World.size_alloc, World.size_setCell, World.size_drew]); omega); have fw1_1 := fun o => hb1.frozen (p := ⟨w.heap.size + 1, o, none⟩) (by dsimp only; (try simp only [World.size_alloc, World.size_setCell, World.size_drew]); omega); have lw1_1 : w.heap.size + 1 < w1.heap.size := (by omega); have nw1_1 : (w.heap.size + 1 = w1.heap.size) = False := eq_false (by omega); have mw1_1 : (w1.heap.size = w.heap.size + 1) = False := eq_false (by omega)) | (go_at_call 17; refine (rsize_yes h _).mono ?_; rintro _ w2 ⟨rfl, hb2⟩; have hzw2 := hb2.size; (try simp only [World.size_alloc, World.size_setCell, World.size_drew] at hzw2); have cw2_0 := fun o => hb2.cell (p := ⟨w.heap.size, o, none⟩) (by dsimp only; (try simp only [World.size_alloc, World.size_setCell, World.size_drew]); omega); have fw2_0 := fun o => hb2.frozen (p := ⟨w.heap.size, o, none⟩) (by dsimp only; (try simp only [World.size_alloc, World.size_setCell, World.size_drew]); omega); have lw2_0 : w.heap.size < w2.heap.size := (by omega); have nw2_0 : (w.heap.size = w2.heap.size) = False := eq_false (by omega); have mw2_0 : (w2.heap.size = w.heap.size) = False := eq_false (by omega); have cw2_1 := fun o => hb2.cell (p := ⟨w.heap.size + 1, o, none⟩) (by dsimp only; (try simp only [World.size_alloc, World.size_setCell, World.size_drew]); omega); have fw2_1 := fun o => hb2.frozen (p := ⟨w.heap.size + 1, o, none⟩) (by dsimp only; (try simp only [World.size_alloc, World.size_setCell, World.size_drew]); omega); have lw2_1 : w.heap.size + 1 < w2.heap.size := (by omega); have nw2_1 : (w.heap.size + 1 = w2.heap.size) = False := eq_false (by omega); have mw2_1 : (w2.heap.size = w.heap.size + 1) = False := eq_false (by omega)) | (go_at_call 79; refine (rbits_any _ _ _ _ _ _ _).mono ?_; rintro _ w3 ⟨rfl, hb3⟩; have hzw3 := hb3.size; (try simp only [World.size_alloc, World.size_setCell, World.size_drew] at hzw3); have cw3_0 := fun o => hb3.cell (p := ⟨w.heap.size, o, none⟩) (by dsimp only; (try simp only [World.size_alloc, World.size_setCell, World.size_drew]); omega); have fw3_0 := fun o => hb3.frozen (p := ⟨w.heap.size, o, none⟩) (by dsimp only; (try simp only [World.size_alloc, World.size_setCell, World.size_drew]); omega); have lw3_0 : w.heap.size < w3.heap.size := (by omega); have nw3_0 : (w.heap.size = w3.heap.size) = False := eq_false (by omega); have mw3_0 : (w3.heap.size = w.heap.size) = False := eq_false (by omega); have cw3_1 := fun o => hb3.cell (p := ⟨w.heap.size + 1, o, none⟩) (by dsimp only; (try simp only [World.size_alloc, World.size_setCell, World.size_drew]); omega); have fw3_1 := fun o => hb3.frozen (p := ⟨w.heap.size + 1, o, none⟩) (by dsimp only; (try simp only [World.size_alloc, World.size_setCell, World.size_drew]); omega); have lw3_1 : w.heap.size + 1 < w3.heap.size := (by omega); have nw3_1 : (w.heap.size + 1 = w3.heap.size) = False := eq_false (by omega); have mw3_1 : (w3.heap.size = w.heap.size + 1) = False := eq_false (by omega)))
  have D4 : Blk w3 (w.heap.size + 1) #[.int .i64 0, .int .i64 0, .int .i64 0, .int .i64 0, .int .i64 0, .int .i64 0] 36 := by
    refine Blk.below (Blk.below (Blk.below ?_ hb1) hb2) hb3
    have := Blk.new (w.alloc (.cells #[.int .i64 a0, .int .i64 a1, .int .i64 a2, .int .i64 a3, .int .i64 a4, .int .i64 a5] 28)) #[.int .i64 0, .int .i64 0, .int .i64 0, .int .i64 0, .int .i64 0, .int .i64 0] 36
    simpa using this
  have hB : Below w.heap.size w w3 := by
    have h0 : Below w.heap.size w w1 := (((Below.refl _ _).alloc (Nat.le_refl _) _).alloc (by simp) _).trans (hb1.mono (by simp; omega))
    exact (h0.trans (hb2.mono (by omega))).trans (hb3.mono (by omega))
  have hlt : w.heap.size + 1 < w3.heap.size := by omega
  have hz : ∀ b : Int, 0 ≤ b ∧ b ≤ 12 → (wrap64 (2 ^ b.toNat) = 0) = False := fun b hb => by rw [wrap_pw hb.2]; have := pw_pos b; exact eq_false (by omega)
  have H5m : i % wrap64 (2 ^ a5.toNat) = m5 := by rw [← Int.tmod_eq_emod_of_nonneg hi0]; exact H5.mod
  have hp12 := pw_12 (a := a0 + a1 + a2 + a3 + a4 + a5) hs
  have r1 := H5.le hi0
  have r2 := H4.le r1.1
  have r3 := H3.le r2.1
  have r4 := H2.le r3.1
  have r5 := H1.le r4.1
  have r6 := H0.le r5.1
  have H4m : x1 % wrap64 (2 ^ a4.toNat) = m4 := by rw [← Int.tmod_eq_emod_of_nonneg r1.1]; exact H4.mod
  have H3m : x2 % wrap64 (2 ^ a3.toNat) = m3 := by rw [← Int.tmod_eq_emod_of_nonneg r2.1]; exact H3.mod
  have H2m : x3 % wrap64 (2 ^ a2.toNat) = m2 := by rw [← Int.tmod_eq_emod_of_nonneg r3.1]; exact H2.mod
  have H1m : x4 % wrap64 (2 ^ a1.toNat) = m1 := by rw [← Int.tmod_eq_emod_of_nonneg r4.1]; exact H1.mod
  have H0m : x5 % wrap64 (2 ^ a0.toNat) = m0 := by rw [← Int.tmod_eq_emod_of_nonneg r5.1]; exact H0.mod
  have n0 := hz a0 ha
  have n1 := hz a1 hb
  have n2 := hz a2 hc
  have n3 := hz a3 hd
  have n4 := hz a4 he
  have n5 := hz a5 hf
  clear hz
  go_loopw [1, 8] (fun v k wr => AtRel i x1 x2 x3 x4 x5 x6 m0 m1 m2 m3 m4 m5 (w3.heap.size + 1) v k wr ∧ Blk wr w3.heap.size #[.int .i64 a0, .int .i64 a1, .int .i64 a2, .int .i64 a3, .int .i64 a4, .int .i64 a5] 79 ∧ Blk wr (w.heap.size + 1) #[.int .i64 0, .int .i64 0, .int .i64 0, .int .i64 0, .int .i64 0, .int .i64 0] 36 ∧ Below w.heap.size w wr) (fun _ k _ => (intOf k + 1).toNat)
  case atStart => exact ⟨.inl ⟨rfl, rfl, by simpa using Blk.new (w3.alloc _) #[.int .i64 0, .int .i64 0, .int .i64 0, .int .i64 0, .int .i64 0, .int .i64 0] 79⟩, (Blk.new w3 _ _).alloc _, (D4.alloc _).alloc _, (hB.alloc (by omega) _).alloc (by simp; omega) _⟩
  case round =>
    clear hb1 hb2 hb3 cw1_0 cw1_1 cw2_0 cw2_1 cw3_0 cw3_1 fw1_0 fw1_1 fw2_0 fw2_1 fw3_0 fw3_1 D4 hB
    obtain ⟨hr, D7, D4, hB⟩ := hrel
    rcases hr with ⟨rfl, rfl, D6⟩ | ⟨rfl, rfl, D6⟩ | ⟨rfl, rfl, D6⟩ | ⟨rfl, rfl, D6⟩ | ⟨rfl, rfl, D6⟩ | ⟨rfl, rfl, D6⟩ | ⟨rfl, rfl, D6⟩
    all_goals
      have c7 := D7.cell
      have c6 := D6.cell
      have f6 := D6.free
      have c4 := D4.cell
      have f4 := D4.free
      go_wp2_with fail
    · go_roundw
      case rel => exact ⟨.inr (.inl ⟨rfl, congrArg (Value.int .i64) ((congrArg wrap64 H5.quo).trans (IntWalk.wrap64_in _ (by omega))), by simpa using D6.set 5 (.int .i64 m5)⟩), D7.other (by first | omega | (simp; done) | (simp; omega)) _, D4.other (by simp; omega) _, hB.setCell (by simp; omega) _⟩
      case measure => simp [intOf]
    · go_roundw
      case rel => exact ⟨.inr (.inr (.inl ⟨rfl, congrArg (Value.int .i64) ((congrArg wrap64 H4.quo).trans (IntWalk.wrap64_in _ (by omega))), by simpa using D6.set 4 (.int .i64 m4)⟩)), D7.other (by first | omega | (simp; done) | (simp; omega)) _, D4.other (by simp; omega) _, hB.setCell (by simp; omega) _⟩
      case measure => simp [intOf]
    · go_roundw
      case rel => exact ⟨.inr (.inr (.inr (.inl ⟨rfl, congrArg (Value.int .i64) ((congrArg wrap64 H3.quo).trans (IntWalk.wrap64_in _ (by omega))), by simpa using D6.set 3 (.int .i64 m3)⟩))), D7.other (by first | omega | (simp; done) | (simp; omega)) _, D4.other (by simp; omega) _, hB.setCell (by simp; omega) _⟩
      case measure => simp [intOf]
    · go_roundw
      case rel => exact ⟨.inr (.inr (.inr (.inr (.inl ⟨rfl, congrArg (Value.int .i64) ((congrArg wrap64 H2.quo).trans (IntWalk.wrap64_in _ (by omega))), by simpa using D6.set 2 (.int .i64 m2)⟩)))), D7.other (by first | omega | (simp; done) | (simp; omega)) _, D4.other (by simp; omega) _, hB.setCell (by simp; omega) _⟩
      case measure => simp [intOf]
    · go_roundw
      case rel => exact ⟨.inr (.inr (.inr (.inr (.inr (.inl ⟨rfl, congrArg (Value.int .i64) ((congrArg wrap64 H1.quo).trans (IntWalk.wrap64_in _ (by omega))), by simpa using D6.set 1 (.int .i64 m1)⟩))))), D7.other (by first | omega | (simp; done) | (simp; omega)) _, D4.other (by simp; omega) _, hB.setCell (by simp; omega) _⟩
      case measure => simp [intOf]
    · go_roundw
      case rel => exact ⟨.inr (.inr (.inr (.inr (.inr (.inr ⟨rfl, congrArg (Value.int .i64) ((congrArg wrap64 H0.quo).trans (IntWalk.wrap64_in _ (by omega))), by simpa using D6.set 0 (.int .i64 m0)⟩))))), D7.other (by first | omega | (simp; done) | (simp; omega)) _, D4.other (by simp; omega) _, hB.setCell (by simp; omega) _⟩
      case measure => simp [intOf]
    · refine bodyPost_ret (v := .tuple #[v6 m0 m1 m2 m3 m4 m5, .int .i64 0]) (by simp [results, Tryd.results94, go_sem, c4]) rfl ⟨rfl, ?_⟩
      repeat refine Below.setCell ?_ (by simp) _
      exact hB
end Go.Proofs.YtplflpmkomeadaaDoor
