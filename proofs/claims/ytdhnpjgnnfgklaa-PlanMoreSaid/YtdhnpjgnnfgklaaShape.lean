/- made.(*Dice).Place and Shape: a valid place, a valid shape. -/
import Derived.Test.YtdhnpjgnnfgklaaK5
import Derived.Test.YtdhnpjgnnfgklaaK1
namespace Go.Proofs.Ytdhnpjgnnfgklaa
set_option linter.unusedSimpArgs false
set_option linter.unusedVariables false
open Go.RowKit

theorem pow_le {a : Int} (h : 0 ≤ a ∧ a ≤ 12) : wrap64 (2 ^ a.toNat) ≤ 1099511627776 := by
  rw [wrap_pw h.2]; have := pw_12 h.2; omega
theorem nextly_pw {a v : Int} (h : 0 ≤ a ∧ a ≤ 12) (hv : Nextly (wrap64 (2 ^ a.toNat)) v) : 0 ≤ v ∧ v < 2 ^ a.toNat := by
  rw [wrap_pw h.2] at hv
  exact ⟨hv.1, hv.lt (pw_pos a)⟩

def PlacePost (a0 a1 a2 a3 a4 a5 : Int) (B b : Nat) (w : World) (e : Ending) (w' : World) : Prop :=
  ∃ v0 v1 v2 v3 v4 v5 : Int, e = .returned (v6 v0 v1 v2 v3 v4 v5) ∧ PV a0 a1 a2 a3 a4 a5 v0 v1 v2 v3 v4 v5 ∧
    Dice B w' b ∧ Chg b w w'

set_option maxRecDepth 100000 in
set_option maxHeartbeats 2000000 in
theorem place_any {a0 a1 a2 a3 a4 a5 : Int} (h : SV a0 a1 a2 a3 a4 a5) (B b : Nat) (w : World) (hd : Dice B w b) :
    Calls Try.prog 16 #[.pointer (some ⟨b, 0, none⟩), .agg #[.int .i64 a0, .int .i64 a1, .int .i64 a2, .int .i64 a3, .int .i64 a4, .int .i64 a5]] w (PlacePost a0 a1 a2 a3 a4 a5 B b w) := by
  obtain ⟨h0, h1, h2, h3, h4, h5, hsum⟩ := h
  go_enter Try.func16, Try.ntmps16
  go_wp2_with fail
  obtain ⟨w2, hw2⟩ : ∃ w2, w2 = (w.alloc (.cells #[.int .i64 a0, .int .i64 a1, .int .i64 a2, .int .i64 a3, .int .i64 a4, .int .i64 a5] 28)).alloc (.cells #[.int .i64 0, .int .i64 0, .int .i64 0, .int .i64 0, .int .i64 0, .int .i64 0] 39) := ⟨_, rfl⟩
  obtain ⟨n, hn⟩ : ∃ n, n = w.heap.size := ⟨_, rfl⟩
  have hbn : b < n := by have := hd.lt; omega
  have B1 : Blk w2 n #[.int .i64 a0, .int .i64 a1, .int .i64 a2, .int .i64 a3, .int .i64 a4, .int .i64 a5] 28 := by rw [hw2, hn]; exact (Blk.new w _ _).alloc _
  have B2 : Blk w2 (n + 1) #[.int .i64 0, .int .i64 0, .int .i64 0, .int .i64 0, .int .i64 0, .int .i64 0] 39 := by
    have := Blk.new (w.alloc (.cells #[.int .i64 a0, .int .i64 a1, .int .i64 a2, .int .i64 a3, .int .i64 a4, .int .i64 a5] 28)) #[.int .i64 0, .int .i64 0, .int .i64 0, .int .i64 0, .int .i64 0, .int .i64 0] 39
    rw [hw2, hn]; simpa using this
  have hd2 : Dice B w2 b := by rw [hw2]; exact (hd.alloc _).alloc _
  have hg2 : Chg b w w2 := by rw [hw2]; exact ((Chg.refl b w).alloc _).alloc _
  rw [← hw2, ← hn]
  clear hw2
  have HN := Lib.hid hn
  clear hn
  refine wp_region_x (by kernel_rfl) (by kernel_rfl) (by kernel_rfl) (by kernel_rfl) (fun k => k = n) ?_
  intro w0 hw0 hs0
  replace hd2 : Dice B w0 b := by rw [hw0]; exact hd2.drew
  replace hg2 : Chg b w w0 := by rw [hw0]; exact hg2.drew
  replace B1 := show Blk w0 n _ _ by rw [hw0]; exact B1.drew
  replace B2 := show Blk w0 (n + 1) _ _ by rw [hw0]; exact B2.drew
  have c1 := B1.cell
  clear hw0
  repeat (first
    | (refine wpX_free rfl rfl rfl (fun _ _ => ?_); go_step; go_step)
    | (refine wpX_load rfl rfl rfl rfl (by assumption) (by simp [*]) (fun _ _ => ?_); go_step; go_step)
    | (refine wpX_eff rfl rfl (fun _ _ => ?_); go_step; go_at_call 23; refine (next_any _ (pow_le (by assumption)) B b _ (by assumption)).mono ?_; rintro e w1 ⟨v, rfl, hv, hd1, hg1⟩; dsimp only; have hv' := nextly_pw (by assumption) hv; clear hv
       replace hg2 := hg2.trans hg1
       have hs1 := hs0.chg hg1 (fun k hk => ⟨by rw [hk]; exact B1.lt, by rw [hk]; omega⟩)
       replace B1 := B1.chg hg1 (by omega)
       replace B2 := B2.chg hg1 (by omega)
       replace c1 := B1.cell
       clear hs0 hd2 hg1
       have hs0 := hs1
       have hd2 := hd1
       clear hs1 hd1
       go_step; refine ⟨hs0, ?_⟩))
  have c2 := B2.cell
  have f2 := B2.free
  refine wpX_eff rfl rfl (fun _ _ => ?_)
  go_step
  go_step
  refine ⟨?_, ?_⟩
  · repeat refine Same.set ?_ (fun k hk => by rw [hk]; simp) _
    exact hs0
  refine wpX_nil ?_
  go_step
  go_step
  go_wp2_with fail
  refine bodyPost_ret (v := .agg #[.int .i64 _, .int .i64 _, .int .i64 _, .int .i64 _, .int .i64 _, .int .i64 _]) (by simp [results, Try.results16, go_sem, c2]; exact ⟨rfl, rfl, rfl, rfl, rfl, rfl⟩) rfl ?_
  refine ⟨_, _, _, _, _, _, rfl, ⟨by assumption, by assumption, by assumption, by assumption, by assumption, by assumption⟩, ?_, ?_⟩
  · repeat refine Dice.setCell ?_ (by have := hd.base; simp; omega) (by simp; omega) _
    exact hd2
  · have hn := HN.out
    repeat refine Chg.setCell ?_ (.inr (by simp; omega)) _
    exact hg2

end Go.Proofs.Ytdhnpjgnnfgklaa
