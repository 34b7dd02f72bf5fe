/- Package part: Covered. -/
import Derived.Test.YtplflpmkomeadaaDoorCov
namespace Go.Proofs.YtplflpmkomeadaaDoor
set_option linter.unusedSimpArgs false
set_option linter.unusedVariables false
open Go.RowKit
set_option maxRecDepth 100000
attribute [local go_sem] lt_more ne_more ne_more'

@[reducible] def v6P (p : P6) : Value := v6 p.a p.b p.c p.d p.e p.f
theorem at_is {a0 a1 a2 a3 a4 a5 i : Int} (h : SV a0 a1 a2 a3 a4 a5) (hi0 : 0 ≤ i) (hi1 : i < 2 ^ (a0 + a1 + a2 + a3 + a4 + a5).toNat) (w : World) :
    Calls Tryd.prog 18 #[v6 a0 a1 a2 a3 a4 a5, .int .i64 i] w (Gives (.tuple #[v6P (atF a0 a1 a2 a3 a4 a5 i), .int .i64 0]) w) := by
  obtain ⟨x1, x2, x3, x4, x5, x6, h5, h4, h3, h2, h1, h0, hall⟩ := atF_steps h hi0 hi1
  exact at_yes h hi0 hi1 h5 h4 h3 h2 h1 h0 w

/-- Does a fault of kind k at the place p cover the word with the index i? -/
def covB (a0 a1 a2 a3 a4 a5 k p0 p1 p2 p3 p4 p5 : Int) (i : Nat) : Bool :=
  decide (CV k p0 p1 p2 p3 p4 p5 (atF a0 a1 a2 a3 a4 a5 i).a (atF a0 a1 a2 a3 a4 a5 i).b (atF a0 a1 a2 a3 a4 a5 i).c (atF a0 a1 a2 a3 a4 a5 i).d (atF a0 a1 a2 a3 a4 a5 i).e (atF a0 a1 a2 a3 a4 a5 i).f)
/-- The words with an index below n that it covers. -/
def covL (a0 a1 a2 a3 a4 a5 k p0 p1 p2 p3 p4 p5 : Int) (n : Nat) : List Nat := (List.range n).filter (covB a0 a1 a2 a3 a4 a5 k p0 p1 p2 p3 p4 p5)
def intV (n : Nat) : Value := .int .i64 n
/-- The value v is a slice of just these numbers, in memory from block B on. -/
def IntRow (w : World) (B : Nat) (v : Value) (l : List Nat) : Prop := w.ownsRow B 3 1 v l.length (l.map intV)
def GivesRow (l : List Nat) (w : World) (e : Ending) (w' : World) : Prop := ∃ v, e = .returned v ∧ IntRow w' w.heap.size v l ∧ Below w.heap.size w w'

/-- A slice of one's own stays so over whatever leaves all that was there. -/
theorem IntRow.below {w w' : World} {B : Nat} {v : Value} {l : List Nat} (h : IntRow w B v l) (hb : Below w.heap.size w w') : IntRow w' B v l := by
  obtain ⟨h1, h2⟩ := h
  refine ⟨h1, ?_⟩
  rcases h2 with h2 | ⟨g, cap, cur, hv, hg, hh, r⟩
  · exact .inl h2
  · exact .inr ⟨g, cap, cur, hv, hg, (hb.block g (lt_of_heap hh)).trans hh, r⟩
theorem IntRow.base {w : World} {B B' : Nat} {v : Value} {l : List Nat} (h : IntRow w B v l) (hb : B' ≤ B) : IntRow w B' v l := by
  obtain ⟨h1, h2⟩ := h
  refine ⟨h1, ?_⟩
  rcases h2 with h2 | ⟨g, cap, cur, hv, hg, hh, r⟩
  · exact .inl h2
  · exact .inr ⟨g, cap, cur, hv, by omega, hh, r⟩

theorem covL_yes {a0 a1 a2 a3 a4 a5 k p0 p1 p2 p3 p4 p5 : Int} {n : Nat} (h : covB a0 a1 a2 a3 a4 a5 k p0 p1 p2 p3 p4 p5 n = true) : covL a0 a1 a2 a3 a4 a5 k p0 p1 p2 p3 p4 p5 (n + 1) = covL a0 a1 a2 a3 a4 a5 k p0 p1 p2 p3 p4 p5 n ++ [n] := by
  unfold covL; rw [List.range_succ, List.filter_append]; simp [h]
theorem covL_no {a0 a1 a2 a3 a4 a5 k p0 p1 p2 p3 p4 p5 : Int} {n : Nat} (h : covB a0 a1 a2 a3 a4 a5 k p0 p1 p2 p3 p4 p5 n = false) : covL a0 a1 a2 a3 a4 a5 k p0 p1 p2 p3 p4 p5 (n + 1) = covL a0 a1 a2 a3 a4 a5 k p0 p1 p2 p3 p4 p5 n := by
  unfold covL; rw [List.range_succ, List.filter_append]; simp [h]
theorem covL_len (a0 a1 a2 a3 a4 a5 k p0 p1 p2 p3 p4 p5 : Int) (n : Nat) : (covL a0 a1 a2 a3 a4 a5 k p0 p1 p2 p3 p4 p5 n).length ≤ n := by
  unfold covL; have := List.length_filter_le (covB a0 a1 a2 a3 a4 a5 k p0 p1 p2 p3 p4 p5) (List.range n); simpa using this

theorem infoInt : (Tryd.prog.info? 3).map (fun i => (i.zero, i.size, i.bytes)) = some (some (.int .i64 0), 1, 8) := by kernel_rfl

set_option maxHeartbeats 8000000 in
theorem covered_yes {a0 a1 a2 a3 a4 a5 : Int} (h : SV a0 a1 a2 a3 a4 a5) (k p0 p1 p2 p3 p4 p5 ch ms vl : Int) (hd : Bool) (hk : 1 ≤ k ∧ k ≤ 6) (w : World) (hN : Nm w) :
    Calls Tryd.prog 78 #[v6 a0 a1 a2 a3 a4 a5, vF k p0 p1 p2 p3 p4 p5 ch ms vl hd] w (GivesRow (covL a0 a1 a2 a3 a4 a5 k p0 p1 p2 p3 p4 p5 (2 ^ (a0 + a1 + a2 + a3 + a4 + a5).toNat)) w) := by
  obtain ⟨i0, hi, hz0, hz1, hz2⟩ := info_parts infoInt
  have hp12 := pw_12 (a := a0 + a1 + a2 + a3 + a4 + a5) h.sum
  obtain ⟨n, hn⟩ : ∃ n : Nat, n = 2 ^ (a0 + a1 + a2 + a3 + a4 + a5).toNat := ⟨_, rfl⟩
  have hnI : (2 : Int) ^ (a0 + a1 + a2 + a3 + a4 + a5).toNat = (n : Int) := by rw [hn]; simp
  have hn12 : n ≤ 4096 := by omega
  rw [← hn]
  have HNI := Lib.hid hnI
  clear hnI hn hp12
  have hsz : ∀ w, Calls Tryd.prog 49 #[v6 a0 a1 a2 a3 a4 a5] w (Gives (.int .i64 n) w) := fun w => by rw [← HNI.out]; exact size_yes h w
  have HSZ := Lib.hid hsz
  clear hsz
  have hN0 := hN.lt
  go_enter Tryd.func78, Tryd.ntmps78
  go_wp2_with (go_at_call 49; refine (HSZ.out _).mono ?_; rintro _ w1 ⟨rfl, hb1⟩; have hzw1 := hb1.size; (try simp only [World.size_alloc, World.size_setCell, World.size_drew] at hzw1); have cw1_0 := fun o => hb1.cell (p := ⟨w.heap.size, o, none⟩) (by dsimp only; (try simp only [World.size_alloc, World.size_setCell, World.size_drew]); omega); have fw1_0 := fun o => hb1.frozen (p := ⟨w.heap.size, o, none⟩) (by dsimp only; (try simp only [World.size_alloc, World.size_setCell, World.size_drew]); omega); have lw1_0 : w.heap.size < w1.heap.size := (by omega); have nw1_0 : (w.heap.size = w1.heap.size) = False := eq_false (by omega); have mw1_0 : (w1.heap.size = w.heap.size) = False := eq_false (by omega); have cw1_1 := fun o => hb1.cell (p := ⟨w.heap.size + 1, o, none⟩) (by dsimp only; (try simp only [World.size_alloc, World.size_setCell, World.size_drew]); omega); have fw1_1 := fun o => hb1.frozen (p := ⟨w.heap.size + 1, o, none⟩) (by dsimp only; (try simp only [World.size_alloc, World.size_setCell, World.size_drew]); omega); have lw1_1 : w.heap.size + 1 < w1.heap.size := (by omega); have nw1_1 : (w.heap.size + 1 = w1.heap.size) = False := eq_false (by omega); have mw1_1 : (w1.heap.size = w.heap.size + 1) = False := eq_false (by omega))
  have B1 : Blk w1 w.heap.size #[.int .i64 a0, .int .i64 a1, .int .i64 a2, .int .i64 a3, .int .i64 a4, .int .i64 a5] 28 := ((Blk.new w _ _).alloc _).below hb1
  have B2 : Blk w1 (w.heap.size + 1) #[.int .i64 k, .int .i64 p0, .int .i64 p1, .int .i64 p2, .int .i64 p3, .int .i64 p4, .int .i64 p5, .int .i64 ch, .int .u8 ms, .int .u8 vl, .bool hd] 38 := by
    have := Blk.new (w.alloc (.cells #[.int .i64 a0, .int .i64 a1, .int .i64 a2, .int .i64 a3, .int .i64 a4, .int .i64 a5] 28)) #[.int .i64 k, .int .i64 p0, .int .i64 p1, .int .i64 p2, .int .i64 p3, .int .i64 p4, .int .i64 p5, .int .i64 ch, .int .u8 ms, .int .u8 vl, .bool hd] 38
    exact Blk.below (by simpa using this) hb1
  have hB : Below w.heap.size w w1 := (((Below.refl _ _).alloc (Nat.le_refl _) _).alloc (by simp) _).trans (hb1.mono (by simp; omega))
  go_loopw [5, 11] (fun v c wr => ∃ j : Nat, j ≤ n ∧ c = .int .i64 j ∧ IntRow wr (w.heap.size + 2) v (covL a0 a1 a2 a3 a4 a5 k p0 p1 p2 p3 p4 p5 j) ∧
      Blk wr w.heap.size #[.int .i64 a0, .int .i64 a1, .int .i64 a2, .int .i64 a3, .int .i64 a4, .int .i64 a5] 28 ∧
      Blk wr (w.heap.size + 1) #[.int .i64 k, .int .i64 p0, .int .i64 p1, .int .i64 p2, .int .i64 p3, .int .i64 p4, .int .i64 p5, .int .i64 ch, .int .u8 ms, .int .u8 vl, .bool hd] 38 ∧ Below w.heap.size w wr ∧ Hid (Nm wr)) (fun _ c _ => n - (intOf c).toNat)
  case atStart => exact ⟨0, Nat.zero_le _, rfl, World.ownsRow_nil _ _ _ _, B1, B2, hB, hN.below hB⟩
  case round =>
    clear hb1 cw1_0 cw1_1 fw1_0 fw1_1 B1 B2 hB
    obtain ⟨j, hj, rfl, hown, B1, B2, hB, hNr⟩ := hrel
    have c1 := B1.cell
    have c2 := B2.cell
    have hz1' := B2.lt
    by_cases hjn : j < n
    · have hj0 : (0 : Int) ≤ (j : Int) := by omega
      have hj1 : (j : Int) < 2 ^ (a0 + a1 + a2 + a3 + a4 + a5).toNat := by rw [HNI.out]; omega
      have hat := Lib.hid (fun w => at_is h hj0 hj1 w)
      clear hj1
      have hcv : ∀ w, Nm w → Calls Tryd.prog 22 #[vF k p0 p1 p2 p3 p4 p5 ch ms vl hd, v6P (atF a0 a1 a2 a3 a4 a5 j)] w (Gives (.bool (covB a0 a1 a2 a3 a4 a5 k p0 p1 p2 p3 p4 p5 j)) w) := fun w hw => covers_yes k p0 p1 p2 p3 p4 p5 ch ms vl _ _ _ _ _ _ hd hk w hw
      cases hc : covB a0 a1 a2 a3 a4 a5 k p0 p1 p2 p3 p4 p5 j with
      | false =>
        rw [hc] at hcv
        have HCV := Lib.hid hcv
        have HC := Lib.hid hc
        clear hcv hc
        go_wp2_with (first | (go_at_call 18; refine (hat.out _).mono ?_; rintro _ w2 ⟨rfl, hb2⟩; have hzw2 := hb2.size; (try simp only [World.size_alloc, World.size_setCell, World.size_drew] at hzw2); have cw2_0 := fun o => hb2.cell (p := ⟨w.heap.size, o, none⟩) (by dsimp only; (try simp only [World.size_alloc, World.size_setCell, World.size_drew]); omega); have fw2_0 := fun o => hb2.frozen (p := ⟨w.heap.size, o, none⟩) (by dsimp only; (try simp only [World.size_alloc, World.size_setCell, World.size_drew]); omega); have lw2_0 : w.heap.size < w2.heap.size := (by omega); have nw2_0 : (w.heap.size = w2.heap.size) = False := eq_false (by omega); have mw2_0 : (w2.heap.size = w.heap.size) = False := eq_false (by omega); have cw2_1 := fun o => hb2.cell (p := ⟨w.heap.size + 1, o, none⟩) (by dsimp only; (try simp only [World.size_alloc, World.size_setCell, World.size_drew]); omega); have fw2_1 := fun o => hb2.frozen (p := ⟨w.heap.size + 1, o, none⟩) (by dsimp only; (try simp only [World.size_alloc, World.size_setCell, World.size_drew]); omega); have lw2_1 : w.heap.size + 1 < w2.heap.size := (by omega); have nw2_1 : (w.heap.size + 1 = w2.heap.size) = False := eq_false (by omega); have mw2_1 : (w2.heap.size = w.heap.size + 1) = False := eq_false (by omega)) | (go_at_call 22; refine (HCV.out _ (Nm.below (Nm.below hNr.out hb2) ((Below.refl _ _).alloc (Nat.le_refl _) _))).mono ?_; rintro _ w3 ⟨rfl, hb3⟩; have hzw3 := hb3.size; (try simp only [World.size_alloc, World.size_setCell, World.size_drew] at hzw3); have cw3_0 := fun o => hb3.cell (p := ⟨w.heap.size, o, none⟩) (by dsimp only; (try simp only [World.size_alloc, World.size_setCell, World.size_drew]); omega); have fw3_0 := fun o => hb3.frozen (p := ⟨w.heap.size, o, none⟩) (by dsimp only; (try simp only [World.size_alloc, World.size_setCell, World.size_drew]); omega); have lw3_0 : w.heap.size < w3.heap.size := (by omega); have nw3_0 : (w.heap.size = w3.heap.size) = False := eq_false (by omega); have mw3_0 : (w3.heap.size = w.heap.size) = False := eq_false (by omega); have cw3_1 := fun o => hb3.cell (p := ⟨w.heap.size + 1, o, none⟩) (by dsimp only; (try simp only [World.size_alloc, World.size_setCell, World.size_drew]); omega); have fw3_1 := fun o => hb3.frozen (p := ⟨w.heap.size + 1, o, none⟩) (by dsimp only; (try simp only [World.size_alloc, World.size_setCell, World.size_drew]); omega); have lw3_1 : w.heap.size + 1 < w3.heap.size := (by omega); have nw3_1 : (w.heap.size + 1 = w3.heap.size) = False := eq_false (by omega); have mw3_1 : (w3.heap.size = w.heap.size + 1) = False := eq_false (by omega)))
        go_roundw
        case rel =>
          have hg : Below wr.heap.size wr w3 := hb2.trans (((Below.refl _ _).alloc (by omega) _).trans (hb3.mono (by simp; omega)))
          exact ⟨j + 1, by omega, by go_num, by rw [covL_no HC.out]; exact hown.below hg, B1.below hg, B2.below hg, hB.trans (hg.mono (by omega)), hNr.out.below hg⟩
        case measure => simp [intOf]; omega
      | true =>
        rw [hc] at hcv
        have HCV := Lib.hid hcv
        have HC := Lib.hid hc
        clear hcv hc
        have hll := covL_len a0 a1 a2 a3 a4 a5 k p0 p1 p2 p3 p4 p5 j
        go_wp2_with (first | (go_at_call 18; refine (hat.out _).mono ?_; rintro _ w2 ⟨rfl, hb2⟩; have hzw2 := hb2.size; (try simp only [World.size_alloc, World.size_setCell, World.size_drew] at hzw2); have cw2_0 := fun o => hb2.cell (p := ⟨w.heap.size, o, none⟩) (by dsimp only; (try simp only [World.size_alloc, World.size_setCell, World.size_drew]); omega); have fw2_0 := fun o => hb2.frozen (p := ⟨w.heap.size, o, none⟩) (by dsimp only; (try simp only [World.size_alloc, World.size_setCell, World.size_drew]); omega); have lw2_0 : w.heap.size < w2.heap.size := (by omega); have nw2_0 : (w.heap.size = w2.heap.size) = False := eq_false (by omega); have mw2_0 : (w2.heap.size = w.heap.size) = False := eq_false (by omega); have cw2_1 := fun o => hb2.cell (p := ⟨w.heap.size + 1, o, none⟩) (by dsimp only; (try simp only [World.size_alloc, World.size_setCell, World.size_drew]); omega); have fw2_1 := fun o => hb2.frozen (p := ⟨w.heap.size + 1, o, none⟩) (by dsimp only; (try simp only [World.size_alloc, World.size_setCell, World.size_drew]); omega); have lw2_1 : w.heap.size + 1 < w2.heap.size := (by omega); have nw2_1 : (w.heap.size + 1 = w2.heap.size) = False := eq_false (by omega); have mw2_1 : (w2.heap.size = w.heap.size + 1) = False := eq_false (by omega)) | (go_at_call 22; refine (HCV.out _ (Nm.below (Nm.below hNr.out hb2) ((Below.refl _ _).alloc (Nat.le_refl _) _))).mono ?_; rintro _ w3 ⟨rfl, hb3⟩; have hzw3 := hb3.size; (try simp only [World.size_alloc, World.size_setCell, World.size_drew] at hzw3); have cw3_0 := fun o => hb3.cell (p := ⟨w.heap.size, o, none⟩) (by dsimp only; (try simp only [World.size_alloc, World.size_setCell, World.size_drew]); omega); have fw3_0 := fun o => hb3.frozen (p := ⟨w.heap.size, o, none⟩) (by dsimp only; (try simp only [World.size_alloc, World.size_setCell, World.size_drew]); omega); have lw3_0 : w.heap.size < w3.heap.size := (by omega); have nw3_0 : (w.heap.size = w3.heap.size) = False := eq_false (by omega); have mw3_0 : (w3.heap.size = w.heap.size) = False := eq_false (by omega); have cw3_1 := fun o => hb3.cell (p := ⟨w.heap.size + 1, o, none⟩) (by dsimp only; (try simp only [World.size_alloc, World.size_setCell, World.size_drew]); omega); have fw3_1 := fun o => hb3.frozen (p := ⟨w.heap.size + 1, o, none⟩) (by dsimp only; (try simp only [World.size_alloc, World.size_setCell, World.size_drew]); omega); have lw3_1 : w.heap.size + 1 < w3.heap.size := (by omega); have nw3_1 : (w.heap.size + 1 = w3.heap.size) = False := eq_false (by omega); have mw3_1 : (w3.heap.size = w.heap.size + 1) = False := eq_false (by omega)) | (at_builtin; have hg : Below wr.heap.size wr w3 := hb2.trans (((Below.refl _ _).alloc (by omega) _).trans (hb3.mono (by simp; omega))); refine wpList_append_own _ rfl (.tmp 23) (.tmp 25) 22 rfl (w.heap.size + 2) 3 i0 (.int .i64 0) 1 8 Tryd.underlying22 hi hz0 hz1 hz2 rfl (by decide) _ _ _ rfl ((hown.below hg).alloc _) ⟨w3.heap.size, 0, none⟩ 1 1 [.int .i64 j] rfl rfl (cell_one_new _ _ _) (by intro u hu; simp at hu; subst hu; rfl) (by unfold maxLen; omega) (by omega) (by simp; omega) ?_; intro v' w4 hown' hgrow hnil))
        go_roundw
        case rel =>
          have hg : Below wr.heap.size wr w3 := hb2.trans (((Below.refl _ _).alloc (by omega) _).trans (hb3.mono (by simp; omega)))
          have hown4 : IntRow w4 (w.heap.size + 2) v' (covL a0 a1 a2 a3 a4 a5 k p0 p1 p2 p3 p4 p5 (j + 1)) := by
            rw [covL_yes HC.out]
            unfold IntRow
            rw [List.length_append, List.map_append]
            exact hown'
          have hrow := (World.ownsRow.alloc (hown.below hg) (.cells #[.int .i64 j] 3)).lt
          have h3 : w.heap.size + 1 < w3.heap.size := by omega
          have hB4 : Below w.heap.size w w4 := ((hB.trans (hg.mono (by omega))).alloc (by omega) _).grown hgrow (by simp; omega) (fun k e => by have := (hrow k e).1; omega)
          refine ⟨j + 1, by omega, by go_num, hown4, ?_, ?_, ?_, ?_⟩
          · exact ((B1.below hg).alloc _).grown hgrow (fun e => by have := (hrow _ e.symm).1; omega)
          · exact ((B2.below hg).alloc _).grown hgrow (fun e => by have := (hrow _ e.symm).1; omega)
          · exact hB4
          · exact hN.below hB4
        case measure => simp [intOf]; omega
    · have hjn' : j = n := by omega
      go_wp2_with fail
      go_ret
      exact ⟨_, rfl, by rw [← hjn']; exact hown.base (by omega), hB⟩
end Go.Proofs.YtplflpmkomeadaaDoor
