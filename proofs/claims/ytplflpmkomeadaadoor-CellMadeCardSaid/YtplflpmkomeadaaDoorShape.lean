/- made.(*Dice).Place and Shape: a valid place, a valid shape. -/
import Derived.Test.YtplflpmkomeadaaDoorK5
import Derived.Test.YtplflpmkomeadaaDoorK1
namespace Go.Proofs.YtplflpmkomeadaaDoor
set_option linter.unusedSimpArgs false
set_option linter.unusedVariables false
open Go.RowKit

theorem pow_le {a : Int} (h : 0 ≤ a ∧ a ≤ 12) : wrap64 (2 ^ a.toNat) ≤ 1099511627776 := by
  rw [wrap_pw h.2]; have := pw_12 h.2; omega
theorem nextly_pw {a v : Int} (h : 0 ≤ a ∧ a ≤ 12) (hv : Nextly (wrap64 (2 ^ a.toNat)) v) : 0 ≤ v ∧ v < 2 ^ a.toNat := by
  rw [wrap_pw h.2] at hv
  exact ⟨hv.1, hv.lt (pw_pos a)⟩

def PlacePost (a0 a1 a2 a3 a4 a5 : Int) (B b : Nat) (w : World) (e : Ending) (w' : World) : Prop :=
  ∃ v0 v1 v2 v3 v4 v5 : Int, e = .returned (v6 v0 v1 v2 v3 v4 v5) ∧ PV a0 a1 a2 a3 a4 a5 v0 v1 v2 v3 v4 v5 ∧
    Dice B w' b ∧ Chg b w w'

set_option maxRecDepth 100000 in
set_option maxHeartbeats 2000000 in
theorem place_any {a0 a1 a2 a3 a4 a5 : Int} (h : SV a0 a1 a2 a3 a4 a5) (B b : Nat) (w : World) (hd : Dice B w b) :
    Calls Tryd.prog 40 #[.pointer (some ⟨b, 0, none⟩), .agg #[.int .i64 a0, .int .i64 a1, .int .i64 a2, .int .i64 a3, .int .i64 a4, .int .i64 a5]] w (PlacePost a0 a1 a2 a3 a4 a5 B b w) := by
  obtain ⟨h0, h1, h2, h3, h4, h5, hsum⟩ := h
  go_enter Tryd.func40, Tryd.ntmps40
  go_wp2_with fail
  obtain ⟨w2, hw2⟩ : ∃ w2, w2 = (w.alloc (.cells #[.int .i64 a0, .int .i64 a1, .int .i64 a2, .int .i64 a3, .int .i64 a4, .int .i64 a5] 28)).alloc (.cells #[.int .i64 0, .int .i64 0, .int .i64 0, .int .i64 0, .int .i64 0, .int .i64 0] 36) := ⟨_, rfl⟩
  obtain ⟨n, hn⟩ : ∃ n, n = w.heap.size := ⟨_, rfl⟩
  have hbn : b < n := by have := hd.lt; omega
  have B1 : Blk w2 n #[.int .i64 a0, .int .i64 a1, .int .i64 a2, .int .i64 a3, .int .i64 a4, .int .i64 a5] 28 := by rw [hw2, hn]; exact (Blk.new w _ _).alloc _
  have B2 : Blk w2 (n + 1) #[.int .i64 0, .int .i64 0, .int .i64 0, .int .i64 0, .int .i64 0, .int .i64 0] 36 := by
    have := Blk.new (w.alloc (.cells #[.int .i64 a0, .int .i64 a1, .int .i64 a2, .int .i64 a3, .int .i64 a4, .int .i64 a5] 28)) #[.int .i64 0, .int .i64 0, .int .i64 0, .int .i64 0, .int .i64 0, .int .i64 0] 36
    rw [hw2, hn]; simpa using this
  have hd2 : Dice B w2 b := by rw [hw2]; exact (hd.alloc _).alloc _
  have hg2 : Chg b w w2 := by rw [hw2]; exact ((Chg.refl b w).alloc _).alloc _
  rw [← hw2, ← hn]
  clear hw2
  have HN := Lib.hid hn
  clear hn
  refine wp_region_x (by kernel_rfl) (by kernel_rfl) (by kernel_rfl) (by kernel_rfl) (fun k => k = n) ?_
  intro w0 hw0 hs0
  replace hd2 : Dice B w0 b := by rw [hw0]; exact hd2.drew
  replace hg2 : Chg b w w0 := by rw [hw0]; exact hg2.drew
  replace B1 := show Blk w0 n _ _ by rw [hw0]; exact B1.drew
  replace B2 := show Blk w0 (n + 1) _ _ by rw [hw0]; exact B2.drew
  have c1 := B1.cell
  clear hw0
  repeat (first
    | (refine wpX_free rfl rfl rfl (fun _ _ => ?_); go_step; go_step)
    | (refine wpX_load rfl rfl rfl rfl (by assumption) (by simp [*]) (fun _ _ => ?_); go_step; go_step)
    | (refine wpX_eff rfl rfl (fun _ _ => ?_); go_step; go_at_call 27; refine (next_any _ (pow_le (by assumption)) B b _ (by assumption)).mono ?_; rintro e w1 ⟨v, rfl, hv, hd1, hg1⟩; dsimp only; have hv' := nextly_pw (by assumption) hv; clear hv
       replace hg2 := hg2.trans hg1
       have hs1 := hs0.chg hg1 (fun k hk => ⟨by rw [hk]; exact B1.lt, by rw [hk]; omega⟩)
       replace B1 := B1.chg hg1 (by omega)
       replace B2 := B2.chg hg1 (by omega)
       replace c1 := B1.cell
       clear hs0 hd2 hg1
       have hs0 := hs1
       have hd2 := hd1
       clear hs1 hd1
       go_step; refine ⟨hs0, ?_⟩))
  have c2 := B2.cell
  have f2 := B2.free
  refine wpX_eff rfl rfl (fun _ _ => ?_)
  go_step
  go_step
  refine ⟨?_, ?_⟩
  · repeat refine Same.set ?_ (fun k hk => by rw [hk]; simp) _
    exact hs0
  refine wpX_nil ?_
  go_step
  go_step
  go_wp2_with fail
  refine bodyPost_ret (v := .agg #[.int .i64 _, .int .i64 _, .int .i64 _, .int .i64 _, .int .i64 _, .int .i64 _]) (by simp [results, Tryd.results40, go_sem, c2]; exact ⟨rfl, rfl, rfl, rfl, rfl, rfl⟩) rfl ?_
  refine ⟨_, _, _, _, _, _, rfl, ⟨by assumption, by assumption, by assumption, by assumption, by assumption, by assumption⟩, ?_, ?_⟩
  · repeat refine Dice.setCell ?_ (by have := hd.base; simp; omega) (by simp; omega) _
    exact hd2
  · have hn := HN.out
    repeat refine Chg.setCell ?_ (.inr (by simp; omega)) _
    exact hg2

def ShapePost (most : Int) (B b : Nat) (w : World) (e : Ending) (w' : World) : Prop :=
  ∃ a0 a1 a2 a3 a4 a5 : Int, e = .returned (v6 a0 a1 a2 a3 a4 a5) ∧ SV a0 a1 a2 a3 a4 a5 ∧ a0 + a1 + a2 + a3 + a4 + a5 ≤ most ∧ Dice B w' b ∧ Chg b w w'

/-- Where Shape's loop stands. -/
def ShapeRel (most : Int) (B b n : Nat) (w : World) (l : Value) (wr : World) : Prop :=
  ∃ a0 a1 a2 a3 a4 a5 k : Int, l = .int .i64 k ∧ 0 ≤ k ∧ 0 ≤ a0 ∧ 0 ≤ a1 ∧ 0 ≤ a2 ∧ 0 ≤ a3 ∧ 0 ≤ a4 ∧ 0 ≤ a5 ∧ a0 + a1 + a2 + a3 + a4 + a5 + k ≤ most ∧
    Blk wr n #[.int .i64 0, .int .i64 0, .int .i64 0, .int .i64 0, .int .i64 0, .int .i64 0] 28 ∧ Blk wr (n + 1) #[.int .i64 a0, .int .i64 a1, .int .i64 a2, .int .i64 a3, .int .i64 a4, .int .i64 a5] 79 ∧ Dice B wr b ∧ Chg b w wr

set_option maxRecDepth 100000 in
set_option maxHeartbeats 4000000 in
theorem shape_any (most : Int) (hm : 0 ≤ most ∧ most ≤ 12) (B b : Nat) (w : World) (hd : Dice B w b) :
    Calls Tryd.prog 36 #[.pointer (some ⟨b, 0, none⟩), .int .i64 most] w (ShapePost most B b w) := by
  go_enter Tryd.func36, Tryd.ntmps36
  have hbn := hd.lt
  obtain ⟨n, hn⟩ : ∃ n, n = w.heap.size := ⟨_, rfl⟩
  go_wp2_with fail
  refine (next_any _ (by omega) B b _ ((hd.alloc _).alloc _)).mono ?_
  rintro e w1 ⟨k, rfl, hk, hd1, hg1⟩
  have D1 : Blk w1 n #[.int .i64 0, .int .i64 0, .int .i64 0, .int .i64 0, .int .i64 0, .int .i64 0] 28 := by
    rw [hn]; exact ((Blk.new w _ _).alloc _).chg hg1 (by omega)
  have D2 : Blk w1 (n + 1) #[.int .i64 0, .int .i64 0, .int .i64 0, .int .i64 0, .int .i64 0, .int .i64 0] 79 := by
    rw [hn]
    have := Blk.new (w.alloc (.cells #[.int .i64 0, .int .i64 0, .int .i64 0, .int .i64 0, .int .i64 0, .int .i64 0] 28)) #[.int .i64 0, .int .i64 0, .int .i64 0, .int .i64 0, .int .i64 0, .int .i64 0] 79
    exact Blk.chg (by simpa using this) hg1 (by omega)
  have hg : Chg b w w1 := (((Chg.refl b w).alloc _).alloc _).trans hg1
  have hk' : 0 ≤ k ∧ k ≤ most := ⟨hk.1, by have := hk.lt (by omega); omega⟩
  clear hg1 hk
  have HN := Lib.hid hn
  rw [← hn]
  rw [← hn] at hbn
  clear hn
  go_wp2_with fail
  go_loopw [6] (fun l wr => ShapeRel most B b n w l wr) (fun l _ => (intOf l).toNat)
  case atStart => exact ⟨0, 0, 0, 0, 0, 0, k, rfl, hk'.1, by decide, by decide, by decide, by decide, by decide, by decide, by omega, D1, D2, hd1, hg⟩
  case round =>
    clear D1 D2 hd1 hg hk'
    obtain ⟨a0, a1, a2, a3, a4, a5, k, rfl, hk0, g0, g1, g2, g3, g4, g5, hs, D1, D2, hd1, hg⟩ := hrel
    by_cases hk1 : 0 < k
    · go_wp2_with fail
      refine (next_any 6 (by omega) B b _ hd1).mono ?_
      rintro e w2 ⟨v, rfl, hv, hd2, hg2⟩
      have E1 := D1.chg hg2 (by omega)
      have E2 := D2.chg hg2 (by omega)
      have hv6 : v = 0 ∨ v = 1 ∨ v = 2 ∨ v = 3 ∨ v = 4 ∨ v = 5 := by have := hv.1; have := hv.lt (by omega); omega
      clear D1 D2 hd1 hv
      have c2 := E2.cell
      have f2 := E2.free
      rcases hv6 with rfl | rfl | rfl | rfl | rfl | rfl
      all_goals go_wp2_with fail
      · go_roundw
        case rel => exact ⟨a0 + 1, a1, a2, a3, a4, a5, k - 1, rfl, by omega, by omega, by omega, by omega, by omega, by omega, by omega, by omega, E1.other (by simp) _, by simpa using E2.set 0 _, hd2.setCell (by have := hd.base; simp; omega) (by simp; omega) _, (hg.trans hg2).setCell (.inr (by simp; have := HN.out; omega)) _⟩
        case measure => simp [intOf]; omega
      · go_roundw
        case rel => exact ⟨a0, a1 + 1, a2, a3, a4, a5, k - 1, rfl, by omega, by omega, by omega, by omega, by omega, by omega, by omega, by omega, E1.other (by simp) _, by simpa using E2.set 1 _, hd2.setCell (by have := hd.base; simp; omega) (by simp; omega) _, (hg.trans hg2).setCell (.inr (by simp; have := HN.out; omega)) _⟩
        case measure => simp [intOf]; omega
      · go_roundw
        case rel => exact ⟨a0, a1, a2 + 1, a3, a4, a5, k - 1, rfl, by omega, by omega, by omega, by omega, by omega, by omega, by omega, by omega, E1.other (by simp) _, by simpa using E2.set 2 _, hd2.setCell (by have := hd.base; simp; omega) (by simp; omega) _, (hg.trans hg2).setCell (.inr (by simp; have := HN.out; omega)) _⟩
        case measure => simp [intOf]; omega
      · go_roundw
        case rel => exact ⟨a0, a1, a2, a3 + 1, a4, a5, k - 1, rfl, by omega, by omega, by omega, by omega, by omega, by omega, by omega, by omega, E1.other (by simp) _, by simpa using E2.set 3 _, hd2.setCell (by have := hd.base; simp; omega) (by simp; omega) _, (hg.trans hg2).setCell (.inr (by simp; have := HN.out; omega)) _⟩
        case measure => simp [intOf]; omega
      · go_roundw
        case rel => exact ⟨a0, a1, a2, a3, a4 + 1, a5, k - 1, rfl, by omega, by omega, by omega, by omega, by omega, by omega, by omega, by omega, E1.other (by simp) _, by simpa using E2.set 4 _, hd2.setCell (by have := hd.base; simp; omega) (by simp; omega) _, (hg.trans hg2).setCell (.inr (by simp; have := HN.out; omega)) _⟩
        case measure => simp [intOf]; omega
      · go_roundw
        case rel => exact ⟨a0, a1, a2, a3, a4, a5 + 1, k - 1, rfl, by omega, by omega, by omega, by omega, by omega, by omega, by omega, by omega, E1.other (by simp) _, by simpa using E2.set 5 _, hd2.setCell (by have := hd.base; simp; omega) (by simp; omega) _, (hg.trans hg2).setCell (.inr (by simp; have := HN.out; omega)) _⟩
        case measure => simp [intOf]; omega
    · have c1 := D1.cell
      have f1 := D1.free
      have c2 := D2.cell
      go_wp2_with fail
      refine bodyPost_ret (v := v6 a0 a1 a2 a3 a4 a5) (by simp [results, Tryd.results36, go_sem, c1]) rfl ?_
      have hn := HN.out
      refine ⟨a0, a1, a2, a3, a4, a5, rfl, ⟨by omega, by omega, by omega, by omega, by omega, by omega, by omega⟩, by omega, ?_, ?_⟩
      · repeat refine Dice.setCell ?_ (by have := hd.base; simp; omega) (by simp; omega) _
        exact hd1
      · repeat refine Chg.setCell ?_ (.inr (by simp; omega)) _
        exact hg
end Go.Proofs.YtplflpmkomeadaaDoor
