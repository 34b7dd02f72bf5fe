/- Several texts in one: Ref2, Ref3. -/
import Derived.Test.YtplflpmkomeadaaDoorRef
/- The specification of layer 9 (memfaultref09): Size, ValidPlace. -/
namespace Go.Proofs.YtplflpmkomeadaaDoor
set_option linter.unusedSimpArgs false
set_option linter.unusedVariables false
open Go.RowKit
set_option maxRecDepth 100000
attribute [local go_sem] lt_more ne_more ne_more'

set_option maxHeartbeats 4000000 in
theorem rsize_yes {a b c d e f : Int} (h : SV a b c d e f) (w : World) : Calls Tryd.prog 17 #[v6 a b c d e f] w (Gives (.int .i64 (2 ^ (a + b + c + d + e + f).toNat)) w) := by
  obtain ⟨z, hz⟩ : ∃ z, z = a + b + c + d + e + f := ⟨_, rfl⟩
  have hzz : 0 ≤ z ∧ z ≤ 12 := by obtain ⟨ha, hb, hc, hd, he, hf, hs⟩ := h; omega
  have hB : ∀ w, Calls Tryd.prog 47 #[v6 a b c d e f] w (Gives (.int .i64 z) w) := fun w => by rw [hz]; exact rBits_yes h w
  rw [← hz]
  have HB := Lib.hid hB
  clear hB hz
  go_enter Tryd.func17, Tryd.ntmps17
  go_wp2_with (first | (go_at_call 46; refine (rvalid_yes h _).mono ?_; rintro _ w1 ⟨rfl, hb1⟩; have hzw1 := hb1.size; (try simp only [World.size_alloc, World.size_setCell, World.size_drew] at hzw1); have cw1_0 := fun o => hb1.cell (p := ⟨w.heap.size, o, none⟩) (by dsimp only; (try simp only [World.size_alloc, World.size_setCell, World.size_drew]); omega); have fw1_0 := fun o => hb1.frozen (p := ⟨w.heap.size, o, none⟩) (by dsimp only; (try simp only [World.size_alloc, World.size_setCell, World.size_drew]); omega); have lw1_0 : w.heap.size < w1.heap.size := (by omega); have nw1_0 : (w.heap.size = w1.heap.size) = False := eq_false (by omega); have mw1_0 : (w1.heap.size = w.heap.size) = False := eq_false (by omega)) | (go_at_call 47; refine (HB.out _).mono ?_; rintro _ w2 ⟨rfl, hb2⟩; have hzw2 := hb2.size; (try simp only [World.size_alloc, World.size_setCell, World.size_drew] at hzw2); have cw2_0 := fun o => hb2.cell (p := ⟨w.heap.size, o, none⟩) (by dsimp only; (try simp only [World.size_alloc, World.size_setCell, World.size_drew]); omega); have fw2_0 := fun o => hb2.frozen (p := ⟨w.heap.size, o, none⟩) (by dsimp only; (try simp only [World.size_alloc, World.size_setCell, World.size_drew]); omega); have lw2_0 : w.heap.size < w2.heap.size := (by omega); have nw2_0 : (w.heap.size = w2.heap.size) = False := eq_false (by omega); have mw2_0 : (w2.heap.size = w.heap.size) = False := eq_false (by omega)))
  go_ret
  refine ⟨ret_int (wrap_pw hzz.2), ?_⟩
  have h0 : Below w.heap.size w w1 := ((Below.refl _ _).alloc (Nat.le_refl _) _).trans (hb1.mono (by simp))
  exact h0.trans (hb2.mono (by omega))
theorem rsize_no {a b c d e f : Int} (h : ¬ SV a b c d e f) (w : World) : Calls Tryd.prog 17 #[v6 a b c d e f] w (Gives (.int .i64 0) w) := by
  go_enter Tryd.func17, Tryd.ntmps17
  go_wp2_with (go_at_call 46; refine (rvalid_no h _).mono ?_; rintro _ w1 ⟨rfl, hb1⟩; have hzw1 := hb1.size; (try simp only [World.size_alloc, World.size_setCell, World.size_drew] at hzw1); have cw1_0 := fun o => hb1.cell (p := ⟨w.heap.size, o, none⟩) (by dsimp only; (try simp only [World.size_alloc, World.size_setCell, World.size_drew]); omega); have fw1_0 := fun o => hb1.frozen (p := ⟨w.heap.size, o, none⟩) (by dsimp only; (try simp only [World.size_alloc, World.size_setCell, World.size_drew]); omega); have lw1_0 : w.heap.size < w1.heap.size := (by omega); have nw1_0 : (w.heap.size = w1.heap.size) = False := eq_false (by omega); have mw1_0 : (w1.heap.size = w.heap.size) = False := eq_false (by omega))
  go_ret
  exact ⟨rfl, ((Below.refl _ _).alloc (Nat.le_refl _) _).trans (hb1.mono (by simp))⟩
theorem size_no {a b c d e f : Int} (h : ¬ SV a b c d e f) (w : World) : Calls Tryd.prog 49 #[v6 a b c d e f] w (Gives (.int .i64 0) w) := by
  go_enter Tryd.func49, Tryd.ntmps49
  go_wp2_with (go_at_call 48; refine (valid_no h _).mono ?_; rintro _ w1 ⟨rfl, hb1⟩; have hzw1 := hb1.size; (try simp only [World.size_alloc, World.size_setCell, World.size_drew] at hzw1); have cw1_0 := fun o => hb1.cell (p := ⟨w.heap.size, o, none⟩) (by dsimp only; (try simp only [World.size_alloc, World.size_setCell, World.size_drew]); omega); have fw1_0 := fun o => hb1.frozen (p := ⟨w.heap.size, o, none⟩) (by dsimp only; (try simp only [World.size_alloc, World.size_setCell, World.size_drew]); omega); have lw1_0 : w.heap.size < w1.heap.size := (by omega); have nw1_0 : (w.heap.size = w1.heap.size) = False := eq_false (by omega); have mw1_0 : (w1.heap.size = w.heap.size) = False := eq_false (by omega))
  go_ret
  exact ⟨rfl, ((Below.refl _ _).alloc (Nat.le_refl _) _).trans (hb1.mono (by simp))⟩
theorem validPlace_no {a0 a1 a2 a3 a4 a5 p0 p1 p2 p3 p4 p5 : Int} (h : ¬ SV a0 a1 a2 a3 a4 a5) (w : World) : Calls Tryd.prog 77 #[v6 a0 a1 a2 a3 a4 a5, v6 p0 p1 p2 p3 p4 p5] w (Gives (.bool false) w) := by
  go_enter Tryd.func77, Tryd.ntmps77
  go_wp2_with (go_at_call 48; refine (valid_no h _).mono ?_; rintro _ w1 ⟨rfl, hb1⟩; have hzw1 := hb1.size; (try simp only [World.size_alloc, World.size_setCell, World.size_drew] at hzw1); have cw1_0 := fun o => hb1.cell (p := ⟨w.heap.size, o, none⟩) (by dsimp only; (try simp only [World.size_alloc, World.size_setCell, World.size_drew]); omega); have fw1_0 := fun o => hb1.frozen (p := ⟨w.heap.size, o, none⟩) (by dsimp only; (try simp only [World.size_alloc, World.size_setCell, World.size_drew]); omega); have lw1_0 : w.heap.size < w1.heap.size := (by omega); have nw1_0 : (w.heap.size = w1.heap.size) = False := eq_false (by omega); have mw1_0 : (w1.heap.size = w.heap.size) = False := eq_false (by omega); have cw1_1 := fun o => hb1.cell (p := ⟨w.heap.size + 1, o, none⟩) (by dsimp only; (try simp only [World.size_alloc, World.size_setCell, World.size_drew]); omega); have fw1_1 := fun o => hb1.frozen (p := ⟨w.heap.size + 1, o, none⟩) (by dsimp only; (try simp only [World.size_alloc, World.size_setCell, World.size_drew]); omega); have lw1_1 : w.heap.size + 1 < w1.heap.size := (by omega); have nw1_1 : (w.heap.size + 1 = w1.heap.size) = False := eq_false (by omega); have mw1_1 : (w1.heap.size = w.heap.size + 1) = False := eq_false (by omega))
  go_ret
  exact ⟨rfl, (((Below.refl _ _).alloc (Nat.le_refl _) _).alloc (by simp) _).trans (hb1.mono (by simp; omega))⟩
theorem rvalidPlace_no {a0 a1 a2 a3 a4 a5 p0 p1 p2 p3 p4 p5 : Int} (h : ¬ SV a0 a1 a2 a3 a4 a5) (w : World) : Calls Tryd.prog 92 #[v6 a0 a1 a2 a3 a4 a5, v6 p0 p1 p2 p3 p4 p5] w (Gives (.bool false) w) := by
  go_enter Tryd.func92, Tryd.ntmps92
  go_wp2_with (go_at_call 46; refine (rvalid_no h _).mono ?_; rintro _ w1 ⟨rfl, hb1⟩; have hzw1 := hb1.size; (try simp only [World.size_alloc, World.size_setCell, World.size_drew] at hzw1); have cw1_0 := fun o => hb1.cell (p := ⟨w.heap.size, o, none⟩) (by dsimp only; (try simp only [World.size_alloc, World.size_setCell, World.size_drew]); omega); have fw1_0 := fun o => hb1.frozen (p := ⟨w.heap.size, o, none⟩) (by dsimp only; (try simp only [World.size_alloc, World.size_setCell, World.size_drew]); omega); have lw1_0 : w.heap.size < w1.heap.size := (by omega); have nw1_0 : (w.heap.size = w1.heap.size) = False := eq_false (by omega); have mw1_0 : (w1.heap.size = w.heap.size) = False := eq_false (by omega); have cw1_1 := fun o => hb1.cell (p := ⟨w.heap.size + 1, o, none⟩) (by dsimp only; (try simp only [World.size_alloc, World.size_setCell, World.size_drew]); omega); have fw1_1 := fun o => hb1.frozen (p := ⟨w.heap.size + 1, o, none⟩) (by dsimp only; (try simp only [World.size_alloc, World.size_setCell, World.size_drew]); omega); have lw1_1 : w.heap.size + 1 < w1.heap.size := (by omega); have nw1_1 : (w.heap.size + 1 = w1.heap.size) = False := eq_false (by omega); have mw1_1 : (w1.heap.size = w.heap.size + 1) = False := eq_false (by omega))
  go_ret
  exact ⟨rfl, (((Below.refl _ _).alloc (Nat.le_refl _) _).alloc (by simp) _).trans (hb1.mono (by simp; omega))⟩

/-- The i-th of six numbers. -/
def pick6 (a0 a1 a2 a3 a4 a5 : Int) : Nat → Int
  | 0 => a0
  | 1 => a1
  | 2 => a2
  | 3 => a3
  | 4 => a4
  | _ => a5
theorem pick6_at (a0 a1 a2 a3 a4 a5 : Int) {i : Nat} (hi : i < 6) : (#[.int .i64 a0, .int .i64 a1, .int .i64 a2, .int .i64 a3, .int .i64 a4, .int .i64 a5] : Array Value)[i]? = some (.int .i64 (pick6 a0 a1 a2 a3 a4 a5 i)) := by
  have : i = 0 ∨ i = 1 ∨ i = 2 ∨ i = 3 ∨ i = 4 ∨ i = 5 := by omega
  rcases this with rfl | rfl | rfl | rfl | rfl | rfl <;> rfl
theorem pick6_SV {a0 a1 a2 a3 a4 a5 : Int} (h : SV a0 a1 a2 a3 a4 a5) (i : Nat) : 0 ≤ pick6 a0 a1 a2 a3 a4 a5 i ∧ pick6 a0 a1 a2 a3 a4 a5 i ≤ 12 := by
  obtain ⟨h0, h1, h2, h3, h4, h5, hs⟩ := h
  match i with
  | 0 => exact h0
  | 1 => exact h1
  | 2 => exact h2
  | 3 => exact h3
  | 4 => exact h4
  | _ + 5 => exact h5
theorem pick6_PV {a0 a1 a2 a3 a4 a5 p0 p1 p2 p3 p4 p5 : Int} : PV a0 a1 a2 a3 a4 a5 p0 p1 p2 p3 p4 p5 ↔ ∀ i, i < 6 → 0 ≤ pick6 p0 p1 p2 p3 p4 p5 i ∧ pick6 p0 p1 p2 p3 p4 p5 i < 2 ^ (pick6 a0 a1 a2 a3 a4 a5 i).toNat :=
  ⟨fun ⟨h0, h1, h2, h3, h4, h5⟩ i hi => by
    have : i = 0 ∨ i = 1 ∨ i = 2 ∨ i = 3 ∨ i = 4 ∨ i = 5 := by omega
    rcases this with rfl | rfl | rfl | rfl | rfl | rfl <;> assumption,
   fun h => ⟨h 0 (by decide), h 1 (by decide), h 2 (by decide), h 3 (by decide), h 4 (by decide), h 5 (by decide)⟩⟩

attribute [local irreducible] wpX
set_option maxHeartbeats 8000000 in
theorem rvalidPlace_any {a0 a1 a2 a3 a4 a5 p0 p1 p2 p3 p4 p5 : Int} (h : SV a0 a1 a2 a3 a4 a5) (w : World) : Calls Tryd.prog 92 #[v6 a0 a1 a2 a3 a4 a5, v6 p0 p1 p2 p3 p4 p5] w (Gives (.bool (decide (PV a0 a1 a2 a3 a4 a5 p0 p1 p2 p3 p4 p5))) w) := by
  have HS := Lib.hid h
  go_enter Tryd.func92, Tryd.ntmps92
  go_wp2_with (go_at_call 46; refine (rvalid_yes h _).mono ?_; rintro _ w1 ⟨rfl, hb1⟩; have hzw1 := hb1.size; (try simp only [World.size_alloc, World.size_setCell, World.size_drew] at hzw1); have cw1_0 := fun o => hb1.cell (p := ⟨w.heap.size, o, none⟩) (by dsimp only; (try simp only [World.size_alloc, World.size_setCell, World.size_drew]); omega); have fw1_0 := fun o => hb1.frozen (p := ⟨w.heap.size, o, none⟩) (by dsimp only; (try simp only [World.size_alloc, World.size_setCell, World.size_drew]); omega); have lw1_0 : w.heap.size < w1.heap.size := (by omega); have nw1_0 : (w.heap.size = w1.heap.size) = False := eq_false (by omega); have mw1_0 : (w1.heap.size = w.heap.size) = False := eq_false (by omega); have cw1_1 := fun o => hb1.cell (p := ⟨w.heap.size + 1, o, none⟩) (by dsimp only; (try simp only [World.size_alloc, World.size_setCell, World.size_drew]); omega); have fw1_1 := fun o => hb1.frozen (p := ⟨w.heap.size + 1, o, none⟩) (by dsimp only; (try simp only [World.size_alloc, World.size_setCell, World.size_drew]); omega); have lw1_1 : w.heap.size + 1 < w1.heap.size := (by omega); have nw1_1 : (w.heap.size + 1 = w1.heap.size) = False := eq_false (by omega); have mw1_1 : (w1.heap.size = w.heap.size + 1) = False := eq_false (by omega))
  have B1 : Blk w1 w.heap.size #[.int .i64 a0, .int .i64 a1, .int .i64 a2, .int .i64 a3, .int .i64 a4, .int .i64 a5] 28 := ((Blk.new w _ _).alloc _).below hb1
  have B2 : Blk w1 (w.heap.size + 1) #[.int .i64 p0, .int .i64 p1, .int .i64 p2, .int .i64 p3, .int .i64 p4, .int .i64 p5] 36 := by
    have := Blk.new (w.alloc (.cells #[.int .i64 a0, .int .i64 a1, .int .i64 a2, .int .i64 a3, .int .i64 a4, .int .i64 a5] 28)) #[.int .i64 p0, .int .i64 p1, .int .i64 p2, .int .i64 p3, .int .i64 p4, .int .i64 p5] 36
    exact Blk.below (by simpa using this) hb1
  have hB : Below w.heap.size w w1 := (((Below.refl _ _).alloc (Nat.le_refl _) _).alloc (by simp) _).trans (hb1.mono (by simp; omega))
  clear hb1 cw1_0 cw1_1 fw1_0 fw1_1 h hzw1 lw1_0 nw1_0 mw1_0 lw1_1 nw1_1 mw1_1
  have zS := B1.lt
  have zP := B2.lt
  refine wp_region_f (by kernel_rfl) [0, 1, 2, 3, 4, 5, 6, 7] (by kernel_rfl) (by kernel_rfl) (by kernel_rfl) (fun k => k < w1.heap.size) (fun w' => Below w.heap.size w w') (fun _ h => h) (lasting_below hB.size) hB.drew ?_
  intro w0 hw0
  have S0 : Blk w0 w.heap.size #[.int .i64 a0, .int .i64 a1, .int .i64 a2, .int .i64 a3, .int .i64 a4, .int .i64 a5] 28 := by rw [hw0]; exact B1.drew
  have P0 : Blk w0 (w.heap.size + 1) #[.int .i64 p0, .int .i64 p1, .int .i64 p2, .int .i64 p3, .int .i64 p4, .int .i64 p5] 36 := by rw [hw0]; exact B2.drew
  have hz0 : w1.heap.size = w0.heap.size := by rw [hw0]; rfl
  rw [hz0] at zS zP ⊢
  clear hw0 hz0 B1 B2 hB w1
  have cS := S0.cell
  have cP := P0.cell
  simp only [List.filterMap_cons, List.filterMap_nil, List.getElem?_toArray, List.getElem?_cons_zero, List.getElem?_cons_succ]
  refine wpF_load rfl rfl rfl zS (by simp [*]) (fun _ _ => ?_)
  go_step
  go_step
  refine wpF_call rfl rfl (fun w1 hc1 _ _ => ?_)
  go_step
  refine (rbits_any _ _ _ _ _ _ _).mono ?_
  rintro _ w2 ⟨rfl, hb2⟩
  dsimp only
  go_step
  refine ⟨hc1.below (fun _ h => h) hb2 (hc1.inv.trans (hb2.mono (by have := hc1.size; omega))), fun k _ hk => hb2.block k hk, ?_⟩
  clear hb2 hc1 w1 w2
  refine wpF_load rfl rfl rfl zP (by simp [*]) (fun _ _ => ?_)
  go_step
  go_step
  refine wpF_call rfl rfl (fun w1 hc1 _ _ => ?_)
  go_step
  refine (rnumbers_any _ _ _ _ _ _ _).mono ?_
  rintro _ w2 ⟨rfl, hb2⟩
  dsimp only
  go_step
  refine ⟨hc1.below (fun _ h => h) hb2 (hc1.inv.trans (hb2.mono (by have := hc1.size; omega))), fun k _ hk => hb2.block k hk, ?_⟩
  clear hb2 hc1 w1 w2
  refine wpF_float rfl rfl #[.int .i64 0, .int .i64 0, .int .i64 0, .int .i64 0, .int .i64 0, .int .i64 0] 79 (fun w => by kernel_rfl) (fun b5 hb5 hn5 _ _ => ?_)
  go_simp
  go_step
  refine wpF_float rfl rfl #[.int .i64 0, .int .i64 0, .int .i64 0, .int .i64 0, .int .i64 0, .int .i64 0] 79 (fun w => by kernel_rfl) (fun b6 hb6 hn6 _ _ => ?_)
  go_simp
  go_step
  have hne : b6 ≠ b5 := fun e => by rw [e] at hn6; simp [Fl.put] at hn6
  refine wpF_store (cs := #[.int .i64 a0, .int .i64 a1, .int .i64 a2, .int .i64 a3, .int .i64 a4, .int .i64 a5]) rfl rfl rfl rfl ((Fl.ne _ (Ne.symm hne) _).trans (Fl.at _ _ _)) rfl (by kernel_rfl) rfl rfl (fun _ _ => ?_)
  go_simp
  go_step
  refine wpF_store (cs := #[.int .i64 p0, .int .i64 p1, .int .i64 p2, .int .i64 p3, .int .i64 p4, .int .i64 p5]) rfl rfl rfl rfl ((Fl.ne _ hne _).trans (Fl.at _ _ _)) rfl (by kernel_rfl) rfl rfl (fun _ _ => ?_)
  go_simp
  go_step
  refine wpF_nil ?_
  intro w3 hC
  have A3 : Blk w3 b5 #[.int .i64 a0, .int .i64 a1, .int .i64 a2, .int .i64 a3, .int .i64 a4, .int .i64 a5] 79 := (hC.laid b5 _ ((Fl.ne _ (Ne.symm hne) _).trans (Fl.at _ _ _))).2
  have P3 : Blk w3 b6 #[.int .i64 p0, .int .i64 p1, .int .i64 p2, .int .i64 p3, .int .i64 p4, .int .i64 p5] 79 := (hC.laid b6 _ (Fl.at _ _ _)).2
  have hB3 := hC.inv
  clear hC cS cP S0 P0 hb5 hn5 hb6 hn6 zS zP w0
  go_step
  go_step
  go_wp2_with fail
  go_loopw [7] (fun c wr => ∃ i : Nat, i ≤ 6 ∧ c = .int .i64 i ∧ Blk wr b5 #[.int .i64 a0, .int .i64 a1, .int .i64 a2, .int .i64 a3, .int .i64 a4, .int .i64 a5] 79 ∧ Blk wr b6 #[.int .i64 p0, .int .i64 p1, .int .i64 p2, .int .i64 p3, .int .i64 p4, .int .i64 p5] 79 ∧ Below w.heap.size w wr ∧ (∀ j, j < i → 0 ≤ pick6 p0 p1 p2 p3 p4 p5 j ∧ pick6 p0 p1 p2 p3 p4 p5 j < 2 ^ (pick6 a0 a1 a2 a3 a4 a5 j).toNat)) (fun c _ => 6 - (intOf c).toNat)
  case atStart => exact ⟨0, by decide, rfl, A3, P3, hB3, fun j hj => absurd hj (Nat.not_lt_zero _)⟩
  case round =>
    clear A3 P3 hB3 w3
    obtain ⟨i, hi, rfl, A, P, hB, hall⟩ := hrel
    have HALL := Lib.hid hall
    clear hall
    by_cases hi6 : i < 6
    · have cA : wr.cell? ⟨b5, i, none⟩ = some _ := (A.cell i).trans (pick6_at a0 a1 a2 a3 a4 a5 hi6)
      have cP : wr.cell? ⟨b6, i, none⟩ = some _ := (P.cell i).trans (pick6_at p0 p1 p2 p3 p4 p5 hi6)
      have hx := pick6_SV HS.out i
      obtain ⟨x, hxe⟩ : ∃ x, x = pick6 a0 a1 a2 a3 a4 a5 i := ⟨_, rfl⟩
      obtain ⟨y, hye⟩ : ∃ y, y = pick6 p0 p1 p2 p3 p4 p5 i := ⟨_, rfl⟩
      rw [← hxe] at cA hx
      rw [← hye] at cP
      have HX := Lib.hid hxe
      have HY := Lib.hid hye
      have hxw := wrap_pw hx.2
      clear hxe hye
      by_cases hy0 : y < 0
      · go_wp2_with fail
        refine wp_region_x (by kernel_rfl) (by kernel_rfl) (by kernel_rfl) (by kernel_rfl) (fun k => k = b5 ∨ k = b6) ?_
        intro w0 hw0 hs0
        replace A := A.drew
        replace P := P.drew
        replace hB := hB.drew
        rw [← hw0] at A P hB
        replace cA : w0.cell? ⟨b5, i, none⟩ = some (.int .i64 x) := by rw [hw0]; exact cA
        replace cP : w0.cell? ⟨b6, i, none⟩ = some (.int .i64 y) := by rw [hw0]; exact cP
        clear hw0
        repeat (first
          | (refine wpX_skip rfl ?_; go_simp)
          | (refine wpX_free rfl rfl rfl (fun K hK => ?_); go_step; refine hK _ _ ?_; clear hK K)
          | (refine wpX_load rfl rfl rfl (by simp) hs0 (by simp [*]) (fun K hK => ?_); go_step; refine hK _ _ ?_; clear hK K))
        refine wpX_nil ?_
        go_step
        go_wp2_with fail
        go_ret
        refine ⟨ret_bool (decide_eq_false fun hpv => ?_).symm, hB⟩
        have := (pick6_PV.1 hpv i hi6).1
        rw [← HY.out] at this
        omega
      · have hd0 : decide (y < 0) = false := decide_eq_false hy0
        by_cases hyx : 2 ^ x.toNat ≤ y
        · go_wp2_with fail
          refine wp_region_x (by kernel_rfl) (by kernel_rfl) (by kernel_rfl) (by kernel_rfl) (fun k => k = b5 ∨ k = b6) ?_
          intro w0 hw0 hs0
          replace A := A.drew
          replace P := P.drew
          replace hB := hB.drew
          rw [← hw0] at A P hB
          replace cA : w0.cell? ⟨b5, i, none⟩ = some (.int .i64 x) := by rw [hw0]; exact cA
          replace cP : w0.cell? ⟨b6, i, none⟩ = some (.int .i64 y) := by rw [hw0]; exact cP
          clear hw0
          repeat (first
            | (refine wpX_skip rfl ?_; go_simp)
            | (refine wpX_free rfl rfl rfl (fun K hK => ?_); go_step; refine hK _ _ ?_; clear hK K)
            | (refine wpX_load rfl rfl rfl (by simp) hs0 (by simp [*]) (fun K hK => ?_); go_step; refine hK _ _ ?_; clear hK K))
          refine wpX_nil ?_
          go_step
          go_wp2_with fail
          go_ret
          refine ⟨ret_bool (decide_eq_false fun hpv => ?_).symm, hB⟩
          have := (pick6_PV.1 hpv i hi6).2
          rw [← HY.out, ← HX.out] at this
          omega
        · have hd1 : decide (2 ^ x.toNat ≤ y) = false := decide_eq_false hyx
          go_wp2_with fail
          refine wp_region_x (by kernel_rfl) (by kernel_rfl) (by kernel_rfl) (by kernel_rfl) (fun k => k = b5 ∨ k = b6) ?_
          intro w0 hw0 hs0
          replace A := A.drew
          replace P := P.drew
          replace hB := hB.drew
          rw [← hw0] at A P hB
          replace cA : w0.cell? ⟨b5, i, none⟩ = some (.int .i64 x) := by rw [hw0]; exact cA
          replace cP : w0.cell? ⟨b6, i, none⟩ = some (.int .i64 y) := by rw [hw0]; exact cP
          clear hw0
          repeat (first
            | (refine wpX_skip rfl ?_; go_simp)
            | (refine wpX_free rfl rfl rfl (fun K hK => ?_); go_step; refine hK _ _ ?_; clear hK K)
            | (refine wpX_load rfl rfl rfl (by simp) hs0 (by simp [*]) (fun K hK => ?_); go_step; refine hK _ _ ?_; clear hK K))
          refine wpX_nil ?_
          go_step
          go_wp2_with fail
          go_roundw
          case rel =>
            refine ⟨i + 1, by omega, by go_num, A, P, hB, fun j hj => ?_⟩
            by_cases e : j = i
            · subst e; rw [← HY.out, ← HX.out]; omega
            · exact HALL.out j (by omega)
          case measure => simp [intOf]; omega
    · have hie : i = 6 := by omega
      subst hie
      go_wp2_with fail
      go_ret
      exact ⟨ret_bool (decide_eq_true (pick6_PV.2 HALL.out)).symm, hB⟩
end Go.Proofs.YtplflpmkomeadaaDoor

/- The specification of layer 9 (memfaultref09): Index. -/
namespace Go.Proofs.YtplflpmkomeadaaDoor
set_option linter.unusedSimpArgs false
set_option linter.unusedVariables false
open Go.RowKit
set_option maxRecDepth 100000
attribute [local go_sem] lt_more ne_more ne_more'
attribute [local irreducible] wpX

theorem rvalidPlace_yes {a0 a1 a2 a3 a4 a5 p0 p1 p2 p3 p4 p5 : Int} (h : SV a0 a1 a2 a3 a4 a5) (hp : PV a0 a1 a2 a3 a4 a5 p0 p1 p2 p3 p4 p5) (w : World) : Calls Tryd.prog 92 #[v6 a0 a1 a2 a3 a4 a5, v6 p0 p1 p2 p3 p4 p5] w (Gives (.bool true) w) := by
  have := rvalidPlace_any (p0 := p0) (p1 := p1) (p2 := p2) (p3 := p3) (p4 := p4) (p5 := p5) h w
  rwa [decide_eq_true hp] at this

/-- The index of the first i numbers of a place. -/
def idxN (a0 a1 a2 a3 a4 a5 p0 p1 p2 p3 p4 p5 : Int) : Nat → Int
  | 0 => 0
  | i + 1 => idxN a0 a1 a2 a3 a4 a5 p0 p1 p2 p3 p4 p5 i * 2 ^ (pick6 a0 a1 a2 a3 a4 a5 i).toNat + pick6 p0 p1 p2 p3 p4 p5 i
theorem idxN_last (a0 a1 a2 a3 a4 a5 p0 p1 p2 p3 p4 p5 : Int) : idxN a0 a1 a2 a3 a4 a5 p0 p1 p2 p3 p4 p5 6 = idx a1 a2 a3 a4 a5 p0 p1 p2 p3 p4 p5 := by
  simp [idxN, idx, pick6]
theorem idxN_in {a0 a1 a2 a3 a4 a5 p0 p1 p2 p3 p4 p5 : Int} (h : SV a0 a1 a2 a3 a4 a5) (hp : PV a0 a1 a2 a3 a4 a5 p0 p1 p2 p3 p4 p5) {i : Nat} (hi : i ≤ 6) :
    0 ≤ idxN a0 a1 a2 a3 a4 a5 p0 p1 p2 p3 p4 p5 i ∧ idxN a0 a1 a2 a3 a4 a5 p0 p1 p2 p3 p4 p5 i < 4096 := by
  obtain ⟨ha, hb, hc, hd, he, hf, hs⟩ := h
  obtain ⟨h0, h1, h2, h3, h4, h5⟩ := hp
  have s1 : 0 ≤ p0 ∧ p0 < 2 ^ a0.toNat := h0
  have s2 := step_lt (by omega) (by omega) s1 h1
  have s3 := step_lt (by omega) (by omega) s2 h2
  have s4 := step_lt (by omega) (by omega) s3 h3
  have s5 := step_lt (by omega) (by omega) s4 h4
  have s6 := step_lt (by omega) (by omega) s5 h5
  have q1 := pw_12 (a := a0) (by omega)
  have q2 := pw_12 (a := a0 + a1) (by omega)
  have q3 := pw_12 (a := a0 + a1 + a2) (by omega)
  have q4 := pw_12 (a := a0 + a1 + a2 + a3) (by omega)
  have q5 := pw_12 (a := a0 + a1 + a2 + a3 + a4) (by omega)
  have q6 := pw_12 (a := a0 + a1 + a2 + a3 + a4 + a5) (by omega)
  have : i = 0 ∨ i = 1 ∨ i = 2 ∨ i = 3 ∨ i = 4 ∨ i = 5 ∨ i = 6 := by omega
  rcases this with rfl | rfl | rfl | rfl | rfl | rfl | rfl <;> simp only [idxN, pick6, Int.zero_mul, Int.zero_add] <;> omega

end Go.Proofs.YtplflpmkomeadaaDoor
