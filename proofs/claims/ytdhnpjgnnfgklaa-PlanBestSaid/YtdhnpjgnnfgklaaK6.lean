/- Several texts in one: Ref, Ref2, Ref3, Ref4, Ref5, Ref7, Ref8, Ref9. -/
import Derived.Test.YtdhnpjgnnfgklaaK5
import Derived.LoopTactic
import Derived.Test.YtdhnpjgnnfgklaaCov
import Derived.Test.YtdhnpjgnnfgklaaK1
/- The specification of layer 9 (memfaultref09): bits, Numbers, Valid, Bits, Size. -/
namespace Go.Proofs.Ytdhnpjgnnfgklaa
set_option linter.unusedSimpArgs false
set_option linter.unusedVariables false
open Go.RowKit
set_option maxRecDepth 100000
attribute [local go_sem] lt_more ne_more ne_more' ix0 ix1 ix2 ix3 ix4 ix5

theorem rbits_any (a b c d e f : Int) (w : World) : Calls Try.prog 62 #[v6 a b c d e f] w (Gives (v6 a b c d e f) w) := by
  go_enter Try.func62, Try.ntmps62
  go_wp2
  go_returns
  refine ⟨rfl, ?_⟩
  go_grown
theorem rnumbers_any (a b c d e f : Int) (w : World) : Calls Try.prog 63 #[v6 a b c d e f] w (Gives (v6 a b c d e f) w) := by
  go_enter Try.func63, Try.ntmps63
  go_wp2
  go_returns
  refine ⟨rfl, ?_⟩
  go_grown

set_option maxHeartbeats 8000000 in
theorem rvalid_any (a b c d e f : Int) (w : World) : Calls Try.prog 43 #[v6 a b c d e f] w (Gives (.bool (decide (SV a b c d e f))) w) := by
  go_enter Try.func43, Try.ntmps43
  go_wp2_with (go_at_call 62; refine (rbits_any _ _ _ _ _ _ _).mono ?_; rintro _ w1 ⟨rfl, hb1⟩; have hzw1 := hb1.size; (try simp only [World.size_alloc, World.size_setCell, World.size_drew] at hzw1); have cw1_0 := fun o => hb1.cell (p := ⟨w.heap.size, o, none⟩) (by dsimp only; (try simp only [World.size_alloc, World.size_setCell, World.size_drew]); omega); have fw1_0 := fun o => hb1.frozen (p := ⟨w.heap.size, o, none⟩) (by dsimp only; (try simp only [World.size_alloc, World.size_setCell, World.size_drew]); omega); have lw1_0 : w.heap.size < w1.heap.size := (by omega); have nw1_0 : (w.heap.size = w1.heap.size) = False := eq_false (by omega); have mw1_0 : (w1.heap.size = w.heap.size) = False := eq_false (by omega))
  have hb : Below w.heap.size w w1 := hb1.mono (by simp) |> fun h => ((Below.refl _ _).alloc (Nat.le_refl _) _).trans h
  have hB := hb.alloc hb.size (.cells #[.int .i64 a, .int .i64 b, .int .i64 c, .int .i64 d, .int .i64 e, .int .i64 f] 81)
  clear hb1 cw1_0 fw1_0 hzw1 hb
  go_rounds 7
  all_goals go_ret
  all_goals refine ⟨ret_bool ?_, hB⟩
  all_goals first
    | (refine (decide_eq_false (not_SV ?_)).symm; omega)
    | (refine decide_eq_decide.2 ⟨fun h => ⟨?_, ?_, ?_, ?_, ?_, ?_, ?_⟩, fun h => h.sum⟩ <;> omega)
theorem rvalid_yes {a b c d e f : Int} (h : SV a b c d e f) (w : World) : Calls Try.prog 43 #[v6 a b c d e f] w (Gives (.bool true) w) := by
  have := rvalid_any a b c d e f w
  rwa [decide_eq_true h] at this
theorem rvalid_no {a b c d e f : Int} (h : ¬ SV a b c d e f) (w : World) : Calls Try.prog 43 #[v6 a b c d e f] w (Gives (.bool false) w) := by
  have := rvalid_any a b c d e f w
  rwa [decide_eq_false h] at this

end Go.Proofs.Ytdhnpjgnnfgklaa

/- The specification of layer 9 (memfaultref09): Size, ValidPlace. -/
namespace Go.Proofs.Ytdhnpjgnnfgklaa
set_option linter.unusedSimpArgs false
set_option linter.unusedVariables false
open Go.RowKit
set_option maxRecDepth 100000
attribute [local go_sem] lt_more ne_more ne_more'

theorem validPlace_no {a0 a1 a2 a3 a4 a5 p0 p1 p2 p3 p4 p5 : Int} (h : ¬ SV a0 a1 a2 a3 a4 a5) (w : World) : Calls Try.prog 40 #[v6 a0 a1 a2 a3 a4 a5, v6 p0 p1 p2 p3 p4 p5] w (Gives (.bool false) w) := by
  go_enter Try.func40, Try.ntmps40
  go_wp2_with (go_at_call 39; refine (valid_no h _).mono ?_; rintro _ w1 ⟨rfl, hb1⟩; have hzw1 := hb1.size; (try simp only [World.size_alloc, World.size_setCell, World.size_drew] at hzw1); have cw1_0 := fun o => hb1.cell (p := ⟨w.heap.size, o, none⟩) (by dsimp only; (try simp only [World.size_alloc, World.size_setCell, World.size_drew]); omega); have fw1_0 := fun o => hb1.frozen (p := ⟨w.heap.size, o, none⟩) (by dsimp only; (try simp only [World.size_alloc, World.size_setCell, World.size_drew]); omega); have lw1_0 : w.heap.size < w1.heap.size := (by omega); have nw1_0 : (w.heap.size = w1.heap.size) = False := eq_false (by omega); have mw1_0 : (w1.heap.size = w.heap.size) = False := eq_false (by omega); have cw1_1 := fun o => hb1.cell (p := ⟨w.heap.size + 1, o, none⟩) (by dsimp only; (try simp only [World.size_alloc, World.size_setCell, World.size_drew]); omega); have fw1_1 := fun o => hb1.frozen (p := ⟨w.heap.size + 1, o, none⟩) (by dsimp only; (try simp only [World.size_alloc, World.size_setCell, World.size_drew]); omega); have lw1_1 : w.heap.size + 1 < w1.heap.size := (by omega); have nw1_1 : (w.heap.size + 1 = w1.heap.size) = False := eq_false (by omega); have mw1_1 : (w1.heap.size = w.heap.size + 1) = False := eq_false (by omega))
  go_ret
  exact ⟨rfl, (((Below.refl _ _).alloc (Nat.le_refl _) _).alloc (by simp) _).trans (hb1.mono (by simp; omega))⟩
theorem rvalidPlace_no {a0 a1 a2 a3 a4 a5 p0 p1 p2 p3 p4 p5 : Int} (h : ¬ SV a0 a1 a2 a3 a4 a5) (w : World) : Calls Try.prog 44 #[v6 a0 a1 a2 a3 a4 a5, v6 p0 p1 p2 p3 p4 p5] w (Gives (.bool false) w) := by
  go_enter Try.func44, Try.ntmps44
  go_wp2_with (go_at_call 43; refine (rvalid_no h _).mono ?_; rintro _ w1 ⟨rfl, hb1⟩; have hzw1 := hb1.size; (try simp only [World.size_alloc, World.size_setCell, World.size_drew] at hzw1); have cw1_0 := fun o => hb1.cell (p := ⟨w.heap.size, o, none⟩) (by dsimp only; (try simp only [World.size_alloc, World.size_setCell, World.size_drew]); omega); have fw1_0 := fun o => hb1.frozen (p := ⟨w.heap.size, o, none⟩) (by dsimp only; (try simp only [World.size_alloc, World.size_setCell, World.size_drew]); omega); have lw1_0 : w.heap.size < w1.heap.size := (by omega); have nw1_0 : (w.heap.size = w1.heap.size) = False := eq_false (by omega); have mw1_0 : (w1.heap.size = w.heap.size) = False := eq_false (by omega); have cw1_1 := fun o => hb1.cell (p := ⟨w.heap.size + 1, o, none⟩) (by dsimp only; (try simp only [World.size_alloc, World.size_setCell, World.size_drew]); omega); have fw1_1 := fun o => hb1.frozen (p := ⟨w.heap.size + 1, o, none⟩) (by dsimp only; (try simp only [World.size_alloc, World.size_setCell, World.size_drew]); omega); have lw1_1 : w.heap.size + 1 < w1.heap.size := (by omega); have nw1_1 : (w.heap.size + 1 = w1.heap.size) = False := eq_false (by omega); have mw1_1 : (w1.heap.size = w.heap.size + 1) = False := eq_false (by omega))
  go_ret
  exact ⟨rfl, (((Below.refl _ _).alloc (Nat.le_refl _) _).alloc (by simp) _).trans (hb1.mono (by simp; omega))⟩

/-- The i-th of six numbers. -/
def pick6 (a0 a1 a2 a3 a4 a5 : Int) : Nat → Int
  | 0 => a0
  | 1 => a1
  | 2 => a2
  | 3 => a3
  | 4 => a4
  | _ => a5
theorem pick6_at (a0 a1 a2 a3 a4 a5 : Int) {i : Nat} (hi : i < 6) : (#[.int .i64 a0, .int .i64 a1, .int .i64 a2, .int .i64 a3, .int .i64 a4, .int .i64 a5] : Array Value)[i]? = some (.int .i64 (pick6 a0 a1 a2 a3 a4 a5 i)) := by
  have : i = 0 ∨ i = 1 ∨ i = 2 ∨ i = 3 ∨ i = 4 ∨ i = 5 := by omega
  rcases this with rfl | rfl | rfl | rfl | rfl | rfl <;> rfl
theorem pick6_SV {a0 a1 a2 a3 a4 a5 : Int} (h : SV a0 a1 a2 a3 a4 a5) (i : Nat) : 0 ≤ pick6 a0 a1 a2 a3 a4 a5 i ∧ pick6 a0 a1 a2 a3 a4 a5 i ≤ 12 := by
  obtain ⟨h0, h1, h2, h3, h4, h5, hs⟩ := h
  match i with
  | 0 => exact h0
  | 1 => exact h1
  | 2 => exact h2
  | 3 => exact h3
  | 4 => exact h4
  | _ + 5 => exact h5
theorem pick6_PV {a0 a1 a2 a3 a4 a5 p0 p1 p2 p3 p4 p5 : Int} : PV a0 a1 a2 a3 a4 a5 p0 p1 p2 p3 p4 p5 ↔ ∀ i, i < 6 → 0 ≤ pick6 p0 p1 p2 p3 p4 p5 i ∧ pick6 p0 p1 p2 p3 p4 p5 i < 2 ^ (pick6 a0 a1 a2 a3 a4 a5 i).toNat :=
  ⟨fun ⟨h0, h1, h2, h3, h4, h5⟩ i hi => by
    have : i = 0 ∨ i = 1 ∨ i = 2 ∨ i = 3 ∨ i = 4 ∨ i = 5 := by omega
    rcases this with rfl | rfl | rfl | rfl | rfl | rfl <;> assumption,
   fun h => ⟨h 0 (by decide), h 1 (by decide), h 2 (by decide), h 3 (by decide), h 4 (by decide), h 5 (by decide)⟩⟩

attribute [local irreducible] wpX
set_option maxHeartbeats 8000000 in
theorem rvalidPlace_any {a0 a1 a2 a3 a4 a5 p0 p1 p2 p3 p4 p5 : Int} (h : SV a0 a1 a2 a3 a4 a5) (w : World) : Calls Try.prog 44 #[v6 a0 a1 a2 a3 a4 a5, v6 p0 p1 p2 p3 p4 p5] w (Gives (.bool (decide (PV a0 a1 a2 a3 a4 a5 p0 p1 p2 p3 p4 p5))) w) := by
  have HS := Lib.hid h
  go_enter Try.func44, Try.ntmps44
  go_wp2_with (go_at_call 43; refine (rvalid_yes h _).mono ?_; rintro _ w1 ⟨rfl, hb1⟩; have hzw1 := hb1.size; (try simp only [World.size_alloc, World.size_setCell, World.size_drew] at hzw1); have cw1_0 := fun o => hb1.cell (p := ⟨w.heap.size, o, none⟩) (by dsimp only; (try simp only [World.size_alloc, World.size_setCell, World.size_drew]); omega); have fw1_0 := fun o => hb1.frozen (p := ⟨w.heap.size, o, none⟩) (by dsimp only; (try simp only [World.size_alloc, World.size_setCell, World.size_drew]); omega); have lw1_0 : w.heap.size < w1.heap.size := (by omega); have nw1_0 : (w.heap.size = w1.heap.size) = False := eq_false (by omega); have mw1_0 : (w1.heap.size = w.heap.size) = False := eq_false (by omega); have cw1_1 := fun o => hb1.cell (p := ⟨w.heap.size + 1, o, none⟩) (by dsimp only; (try simp only [World.size_alloc, World.size_setCell, World.size_drew]); omega); have fw1_1 := fun o => hb1.frozen (p := ⟨w.heap.size + 1, o, none⟩) (by dsimp only; (try simp only [World.size_alloc, World.size_setCell, World.size_drew]); omega); have lw1_1 : w.heap.size + 1 < w1.heap.size := (by omega); have nw1_1 : (w.heap.size + 1 = w1.heap.size) = False := eq_false (by omega); have mw1_1 : (w1.heap.size = w.heap.size + 1) = False := eq_false (by omega))
  have B1 : Blk w1 w.heap.size #[.int .i64 a0, .int .i64 a1, .int .i64 a2, .int .i64 a3, .int .i64 a4, .int .i64 a5] 28 := ((Blk.new w _ _).alloc _).below hb1
  have B2 : Blk w1 (w.heap.size + 1) #[.int .i64 p0, .int .i64 p1, .int .i64 p2, .int .i64 p3, .int .i64 p4, .int .i64 p5] 39 := by
    have := Blk.new (w.alloc (.cells #[.int .i64 a0, .int .i64 a1, .int .i64 a2, .int .i64 a3, .int .i64 a4, .int .i64 a5] 28)) #[.int .i64 p0, .int .i64 p1, .int .i64 p2, .int .i64 p3, .int .i64 p4, .int .i64 p5] 39
    exact Blk.below (by simpa using this) hb1
  have hB : Below w.heap.size w w1 := (((Below.refl _ _).alloc (Nat.le_refl _) _).alloc (by simp) _).trans (hb1.mono (by simp; omega))
  clear hb1 cw1_0 cw1_1 fw1_0 fw1_1 h hzw1 lw1_0 nw1_0 mw1_0 lw1_1 nw1_1 mw1_1
  have zS := B1.lt
  have zP := B2.lt
  refine wp_region_f (by kernel_rfl) [0, 1, 2, 3, 4, 5, 6, 7] (by kernel_rfl) (by kernel_rfl) (by kernel_rfl) (fun k => k < w1.heap.size) (fun w' => Below w.heap.size w w') (fun _ h => h) (lasting_below hB.size) hB.drew ?_
  intro w0 hw0
  have S0 : Blk w0 w.heap.size #[.int .i64 a0, .int .i64 a1, .int .i64 a2, .int .i64 a3, .int .i64 a4, .int .i64 a5] 28 := by rw [hw0]; exact B1.drew
  have P0 : Blk w0 (w.heap.size + 1) #[.int .i64 p0, .int .i64 p1, .int .i64 p2, .int .i64 p3, .int .i64 p4, .int .i64 p5] 39 := by rw [hw0]; exact B2.drew
  have hz0 : w1.heap.size = w0.heap.size := by rw [hw0]; rfl
  rw [hz0] at zS zP ⊢
  clear hw0 hz0 B1 B2 hB w1
  have cS := S0.cell
  have cP := P0.cell
  simp only [List.filterMap_cons, List.filterMap_nil, List.getElem?_toArray, List.getElem?_cons_zero, List.getElem?_cons_succ]
  refine wpF_load rfl rfl rfl zS (by simp [*]) (fun _ _ => ?_)
  go_step
  go_step
  refine wpF_call rfl rfl (fun w1 hc1 _ _ => ?_)
  go_step
  refine (rbits_any _ _ _ _ _ _ _).mono ?_
  rintro _ w2 ⟨rfl, hb2⟩
  dsimp only
  go_step
  refine ⟨hc1.below (fun _ h => h) hb2 (hc1.inv.trans (hb2.mono (by have := hc1.size; omega))), fun k _ hk => hb2.block k hk, ?_⟩
  clear hb2 hc1 w1 w2
  refine wpF_load rfl rfl rfl zP (by simp [*]) (fun _ _ => ?_)
  go_step
  go_step
  refine wpF_call rfl rfl (fun w1 hc1 _ _ => ?_)
  go_step
  refine (rnumbers_any _ _ _ _ _ _ _).mono ?_
  rintro _ w2 ⟨rfl, hb2⟩
  dsimp only
  go_step
  refine ⟨hc1.below (fun _ h => h) hb2 (hc1.inv.trans (hb2.mono (by have := hc1.size; omega))), fun k _ hk => hb2.block k hk, ?_⟩
  clear hb2 hc1 w1 w2
  refine wpF_float rfl rfl #[.int .i64 0, .int .i64 0, .int .i64 0, .int .i64 0, .int .i64 0, .int .i64 0] 81 (fun w => by kernel_rfl) (fun b5 hb5 hn5 _ _ => ?_)
  go_simp
  go_step
  refine wpF_float rfl rfl #[.int .i64 0, .int .i64 0, .int .i64 0, .int .i64 0, .int .i64 0, .int .i64 0] 81 (fun w => by kernel_rfl) (fun b6 hb6 hn6 _ _ => ?_)
  go_simp
  go_step
  have hne : b6 ≠ b5 := fun e => by rw [e] at hn6; simp [Fl.put] at hn6
  refine wpF_store (cs := #[.int .i64 a0, .int .i64 a1, .int .i64 a2, .int .i64 a3, .int .i64 a4, .int .i64 a5]) rfl rfl rfl rfl ((Fl.ne _ (Ne.symm hne) _).trans (Fl.at _ _ _)) rfl (by kernel_rfl) rfl rfl (fun _ _ => ?_)
  go_simp
  go_step
  refine wpF_store (cs := #[.int .i64 p0, .int .i64 p1, .int .i64 p2, .int .i64 p3, .int .i64 p4, .int .i64 p5]) rfl rfl rfl rfl ((Fl.ne _ hne _).trans (Fl.at _ _ _)) rfl (by kernel_rfl) rfl rfl (fun _ _ => ?_)
  go_simp
  go_step
  refine wpF_nil ?_
  intro w3 hC
  have A3 : Blk w3 b5 #[.int .i64 a0, .int .i64 a1, .int .i64 a2, .int .i64 a3, .int .i64 a4, .int .i64 a5] 81 := (hC.laid b5 _ ((Fl.ne _ (Ne.symm hne) _).trans (Fl.at _ _ _))).2
  have P3 : Blk w3 b6 #[.int .i64 p0, .int .i64 p1, .int .i64 p2, .int .i64 p3, .int .i64 p4, .int .i64 p5] 81 := (hC.laid b6 _ (Fl.at _ _ _)).2
  have hB3 := hC.inv
  clear hC cS cP S0 P0 hb5 hn5 hb6 hn6 zS zP w0
  go_step
  go_step
  go_wp2_with fail
  go_loopw [7] (fun c wr => ∃ i : Nat, i ≤ 6 ∧ c = .int .i64 i ∧ Blk wr b5 #[.int .i64 a0, .int .i64 a1, .int .i64 a2, .int .i64 a3, .int .i64 a4, .int .i64 a5] 81 ∧ Blk wr b6 #[.int .i64 p0, .int .i64 p1, .int .i64 p2, .int .i64 p3, .int .i64 p4, .int .i64 p5] 81 ∧ Below w.heap.size w wr ∧ (∀ j, j < i → 0 ≤ pick6 p0 p1 p2 p3 p4 p5 j ∧ pick6 p0 p1 p2 p3 p4 p5 j < 2 ^ (pick6 a0 a1 a2 a3 a4 a5 j).toNat)) (fun c _ => 6 - (intOf c).toNat)
  case atStart => exact ⟨0, by decide, rfl, A3, P3, hB3, fun j hj => absurd hj (Nat.not_lt_zero _)⟩
  case round =>
    clear A3 P3 hB3 w3
    obtain ⟨i, hi, rfl, A, P, hB, hall⟩ := hrel
    have HALL := Lib.hid hall
    clear hall
    by_cases hi6 : i < 6
    · have cA : wr.cell? ⟨b5, i, none⟩ = some _ := (A.cell i).trans (pick6_at a0 a1 a2 a3 a4 a5 hi6)
      have cP : wr.cell? ⟨b6, i, none⟩ = some _ := (P.cell i).trans (pick6_at p0 p1 p2 p3 p4 p5 hi6)
      have hx := pick6_SV HS.out i
      obtain ⟨x, hxe⟩ : ∃ x, x = pick6 a0 a1 a2 a3 a4 a5 i := ⟨_, rfl⟩
      obtain ⟨y, hye⟩ : ∃ y, y = pick6 p0 p1 p2 p3 p4 p5 i := ⟨_, rfl⟩
      rw [← hxe] at cA hx
      rw [← hye] at cP
      have HX := Lib.hid hxe
      have HY := Lib.hid hye
      have hxw := wrap_pw hx.2
      clear hxe hye
      by_cases hy0 : y < 0
      · go_wp2_with fail
        refine wp_region_x (by kernel_rfl) (by kernel_rfl) (by kernel_rfl) (by kernel_rfl) (fun k => k = b5 ∨ k = b6) ?_
        intro w0 hw0 hs0
        replace A := A.drew
        replace P := P.drew
        replace hB := hB.drew
        rw [← hw0] at A P hB
        replace cA : w0.cell? ⟨b5, i, none⟩ = some (.int .i64 x) := by rw [hw0]; exact cA
        replace cP : w0.cell? ⟨b6, i, none⟩ = some (.int .i64 y) := by rw [hw0]; exact cP
        clear hw0
        repeat (first
          | (refine wpX_skip rfl ?_; go_simp)
          | (refine wpX_free rfl rfl rfl (fun K hK => ?_); go_step; refine hK _ _ ?_; clear hK K)
          | (refine wpX_load rfl rfl rfl (by simp) hs0 (by simp [*]) (fun K hK => ?_); go_step; refine hK _ _ ?_; clear hK K))
        refine wpX_nil ?_
        go_step
        go_wp2_with fail
        go_ret
        refine ⟨ret_bool (decide_eq_false fun hpv => ?_).symm, hB⟩
        have := (pick6_PV.1 hpv i hi6).1
        rw [← HY.out] at this
        omega
      · have hd0 : decide (y < 0) = false := decide_eq_false hy0
        by_cases hyx : 2 ^ x.toNat ≤ y
        · go_wp2_with fail
          refine wp_region_x (by kernel_rfl) (by kernel_rfl) (by kernel_rfl) (by kernel_rfl) (fun k => k = b5 ∨ k = b6) ?_
          intro w0 hw0 hs0
          replace A := A.drew
          replace P := P.drew
          replace hB := hB.drew
          rw [← hw0] at A P hB
          replace cA : w0.cell? ⟨b5, i, none⟩ = some (.int .i64 x) := by rw [hw0]; exact cA
          replace cP : w0.cell? ⟨b6, i, none⟩ = some (.int .i64 y) := by rw [hw0]; exact cP
          clear hw0
          repeat (first
            | (refine wpX_skip rfl ?_; go_simp)
            | (refine wpX_free rfl rfl rfl (fun K hK => ?_); go_step; refine hK _ _ ?_; clear hK K)
            | (refine wpX_load rfl rfl rfl (by simp) hs0 (by simp [*]) (fun K hK => ?_); go_step; refine hK _ _ ?_; clear hK K))
          refine wpX_nil ?_
          go_step
          go_wp2_with fail
          go_ret
          refine ⟨ret_bool (decide_eq_false fun hpv => ?_).symm, hB⟩
          have := (pick6_PV.1 hpv i hi6).2
          rw [← HY.out, ← HX.out] at this
          omega
        · have hd1 : decide (2 ^ x.toNat ≤ y) = false := decide_eq_false hyx
          go_wp2_with fail
          refine wp_region_x (by kernel_rfl) (by kernel_rfl) (by kernel_rfl) (by kernel_rfl) (fun k => k = b5 ∨ k = b6) ?_
          intro w0 hw0 hs0
          replace A := A.drew
          replace P := P.drew
          replace hB := hB.drew
          rw [← hw0] at A P hB
          replace cA : w0.cell? ⟨b5, i, none⟩ = some (.int .i64 x) := by rw [hw0]; exact cA
          replace cP : w0.cell? ⟨b6, i, none⟩ = some (.int .i64 y) := by rw [hw0]; exact cP
          clear hw0
          repeat (first
            | (refine wpX_skip rfl ?_; go_simp)
            | (refine wpX_free rfl rfl rfl (fun K hK => ?_); go_step; refine hK _ _ ?_; clear hK K)
            | (refine wpX_load rfl rfl rfl (by simp) hs0 (by simp [*]) (fun K hK => ?_); go_step; refine hK _ _ ?_; clear hK K))
          refine wpX_nil ?_
          go_step
          go_wp2_with fail
          go_roundw
          case rel =>
            refine ⟨i + 1, by omega, by go_num, A, P, hB, fun j hj => ?_⟩
            by_cases e : j = i
            · subst e; rw [← HY.out, ← HX.out]; omega
            · exact HALL.out j (by omega)
          case measure => simp [intOf]; omega
    · have hie : i = 6 := by omega
      subst hie
      go_wp2_with fail
      go_ret
      exact ⟨ret_bool (decide_eq_true (pick6_PV.2 HALL.out)).symm, hB⟩
end Go.Proofs.Ytdhnpjgnnfgklaa

/- The specification of layer 9 (memfaultref09): Index. -/
namespace Go.Proofs.Ytdhnpjgnnfgklaa
set_option linter.unusedSimpArgs false
set_option linter.unusedVariables false
open Go.RowKit
set_option maxRecDepth 100000
attribute [local go_sem] lt_more ne_more ne_more'
attribute [local irreducible] wpX

end Go.Proofs.Ytdhnpjgnnfgklaa

/- The specification of layer 9 (memfaultref09): At. -/
namespace Go.Proofs.Ytdhnpjgnnfgklaa
set_option linter.unusedSimpArgs false
set_option linter.unusedVariables false
open Go.RowKit
set_option maxRecDepth 100000
attribute [local go_sem] lt_more ne_more ne_more'

theorem AtEq.le {b x y m : Int} (h : AtEq b x y m) (hx : 0 ≤ x) : 0 ≤ y ∧ y ≤ x := by
  rw [← h.div]
  have := pw_pos b
  exact ⟨Int.ediv_nonneg hx (by omega), Int.ediv_le_self _ hx⟩

end Go.Proofs.Ytdhnpjgnnfgklaa

/- The specification of layer 9 (memfaultref09) and package part: Index and At on what is not valid; which numbers a kind names. -/
namespace Go.Proofs.Ytdhnpjgnnfgklaa
set_option linter.unusedSimpArgs false
set_option linter.unusedVariables false
open Go.RowKit
set_option maxRecDepth 100000
attribute [local go_sem] lt_more ne_more ne_more'

end Go.Proofs.Ytdhnpjgnnfgklaa

/- The specification of layer 9 (memfaultref09): which numbers a kind names, Covers. -/
namespace Go.Proofs.Ytdhnpjgnnfgklaa
set_option linter.unusedSimpArgs false
set_option linter.unusedVariables false
open Go.RowKit
set_option maxRecDepth 100000
attribute [local go_sem] lt_more ne_more ne_more'
attribute [local irreducible] wpX

@[reducible] def b6 (k : Int) : Value := .agg #[.bool (nmB k 0), .bool (nmB k 1), .bool (nmB k 2), .bool (nmB k 3), .bool (nmB k 4), .bool (nmB k 5)]
end Go.Proofs.Ytdhnpjgnnfgklaa

/- The specification of layer 9 (memfaultref09): Covers. -/
namespace Go.Proofs.Ytdhnpjgnnfgklaa
set_option linter.unusedSimpArgs false
set_option linter.unusedVariables false
open Go.RowKit
set_option maxRecDepth 100000
attribute [local go_sem] lt_more ne_more ne_more'
attribute [local irreducible] wpX

end Go.Proofs.Ytdhnpjgnnfgklaa

/- Package part and the specification of layer 9: ValidFault. -/
namespace Go.Proofs.Ytdhnpjgnnfgklaa
set_option linter.unusedSimpArgs false
set_option linter.unusedVariables false
open Go.RowKit
set_option maxRecDepth 100000
attribute [local go_sem] lt_more ne_more ne_more'
attribute [local irreducible] wpX

/-- Is it a valid place, of a valid shape? -/
theorem validPlace_all (a0 a1 a2 a3 a4 a5 p0 p1 p2 p3 p4 p5 : Int) (w : World) : Calls Try.prog 40 #[v6 a0 a1 a2 a3 a4 a5, v6 p0 p1 p2 p3 p4 p5] w (Gives (.bool (decide (SV a0 a1 a2 a3 a4 a5 ∧ PV a0 a1 a2 a3 a4 a5 p0 p1 p2 p3 p4 p5))) w) := by
  by_cases h : SV a0 a1 a2 a3 a4 a5
  · have := validPlace_any (p0 := p0) (p1 := p1) (p2 := p2) (p3 := p3) (p4 := p4) (p5 := p5) h w
    simpa [h] using this
  · have := validPlace_no (p0 := p0) (p1 := p1) (p2 := p2) (p3 := p3) (p4 := p4) (p5 := p5) h w
    simpa [h] using this
theorem rvalidPlace_all (a0 a1 a2 a3 a4 a5 p0 p1 p2 p3 p4 p5 : Int) (w : World) : Calls Try.prog 44 #[v6 a0 a1 a2 a3 a4 a5, v6 p0 p1 p2 p3 p4 p5] w (Gives (.bool (decide (SV a0 a1 a2 a3 a4 a5 ∧ PV a0 a1 a2 a3 a4 a5 p0 p1 p2 p3 p4 p5))) w) := by
  by_cases h : SV a0 a1 a2 a3 a4 a5
  · have := rvalidPlace_any (p0 := p0) (p1 := p1) (p2 := p2) (p3 := p3) (p4 := p4) (p5 := p5) h w
    simpa [h] using this
  · have := rvalidPlace_no (p0 := p0) (p1 := p1) (p2 := p2) (p3 := p3) (p4 := p4) (p5 := p5) h w
    simpa [h] using this

/-- The numbers of a place that a fault of kind k does not name are 0. -/
def Unnamed (k p0 p1 p2 p3 p4 p5 : Int) : Prop := ∀ i, i < 6 → nmB k i = false → pick6 p0 p1 p2 p3 p4 p5 i = 0
instance (k p0 p1 p2 p3 p4 p5 : Int) : Decidable (Unnamed k p0 p1 p2 p3 p4 p5) := by unfold Unnamed; infer_instance

end Go.Proofs.Ytdhnpjgnnfgklaa
