/- Package inject: Chips. -/
import Derived.Test.YtaeockopliplfaaDoorInj1
namespace Go.Proofs.YtaeockopliplfaaDoor
set_option linter.unusedSimpArgs false
set_option linter.unusedVariables false
open Go.RowKit
set_option maxRecDepth 100000
attribute [local go_sem] lt_more ne_more ne_more'
attribute [local irreducible] wpX wpF Calls

/-- The chips of a table, below n, in order. -/
def chL (M : List (Int × Int)) (n : Nat) : List Nat := (List.range n).filter fun c => (getI c M).isSome
theorem chL_yes {M : List (Int × Int)} {n : Nat} {u : Int} (h : getI n M = some u) : chL M (n + 1) = chL M n ++ [n] := by
  unfold chL; rw [List.range_succ, List.filter_append]; simp [h]
theorem chL_no {M : List (Int × Int)} {n : Nat} (h : getI n M = none) : chL M (n + 1) = chL M n := by
  unfold chL; rw [List.range_succ, List.filter_append]; simp [h]
theorem chL_len (M : List (Int × Int)) (n : Nat) : (chL M n).length ≤ n := by
  unfold chL; have := List.length_filter_le (fun c : Nat => (getI c M).isSome) (List.range n); simpa using this

set_option maxHeartbeats 8000000 in
theorem chips_is {a0 a1 a2 a3 a4 a5 i time : Int} (h : SV a0 a1 a2 a3 a4 a5) (hi0 : 0 ≤ i) (hi1 : i < 2 ^ (a0 + a1 + a2 + a3 + a4 + a5).toNat) {sa : Option Addr} (c : Nat) {xs : List St} (hx : xs.length ≤ 1000) (w : World) (hN : Nm w)
    (hl : Lies w w.heap.size sa 12 xs.length (fun j => stC xs[j]!)) :
    Calls Tryd.prog 33 #[v6 a0 a1 a2 a3 a4 a5, .slice sa xs.length c, .int .i64 i, .int .i64 time] w (GivesRow (chL (mkI xs (atF a0 a1 a2 a3 a4 a5 i) time) 40) w) := by
  have HM := Lib.hid (fun w hN hl => masks_is (time := time) h hi0 hi1 (sa := sa) c hx w hN hl)
  have HT : Tryd.prog.underlying 95 = some (.map 3 5) := Tryd.underlying95
  have HK : Tryd.prog.underlying 3 = some (.int .i64) := Tryd.underlying3
  have HE : ∀ w, (zeroValue 5).run Tryd.prog w = .ok (.int .u8 0) w := fun w => rfl
  generalize mkI xs (atF a0 a1 a2 a3 a4 a5 i) time = M at HM ⊢
  have HL := Lib.hid hl
  have HNm := Lib.hid hN
  clear hl hN h hi0 hi1 hx
  go_enter Tryd.func33, Tryd.ntmps33
  have H := HS.start NoD w
  go_wp2_with fail
  refine (HM.out _ (HNm.out.below H.alloc.done) (H.alloc.liesUp HL.out)).mono ?_
  rintro _ w1 ⟨bm, es, clock, rfl, hb0, hbm, hM, hb⟩
  replace H := H.alloc.gets hb (A := .obj bm (.map es clock)) hbm (fun k hk => by cases hk; exact hb0) ⟨Nat.zero_le _, fun k hk => absurd hk (Nat.not_lt_zero _)⟩
  clear hb hbm hb0 HM
  replace H := H.nilRow 3 1
  try simp only [World.size_alloc, List.nil_append, List.cons_append, List.append_assoc] at H
  generalize w.heap.size = bS at H ⊢
  have HMM := Lib.hid hM
  clear hM
  skip
  go_wp2_with fail
  go_loopw [10, 19] (fun v c wr => ∃ (j : Nat), c = .int .i64 j ∧ j ≤ 40 ∧ HS NoD w [.blk bS #[.int .i64 a0, .int .i64 a1, .int .i64 a2, .int .i64 a3, .int .i64 a4, .int .i64 a5] 28, .obj bm (.map es clock), rowI v (chL M j)] wr) (fun _ c _ => 40 - (intOf c).toNat)
  case atStart => exact ⟨0, rfl, Nat.zero_le _, H⟩
  case round =>
    clear H w1
    obtain ⟨j, rfl, hj, H⟩ := hrel
    skip
    try clear C
    try simp only [World.size_alloc, List.nil_append, List.cons_append, List.append_assoc] at H
    have C := H.cells
    try simp only [cellsOf, apartOf, and_true] at C
    have hll := chL_len M j
    by_cases hlt : j < 40
    · cases hg : getI j M
      · have HE2 := Lib.hid (chL_no hg)
        have HG := Lib.hid hg
        clear hg
        go_upto_region 7 with (at_lookup; refine wpList_lookupOk_no rfl (.tmp 23) (.tmp 24) rfl HT HK HE (H.at 1 rfl) HMM.out rfl rfl HG.out ?_)
        go_wp2_with fail
        go_roundw
        case rel => exact ⟨j + 1, by go_num, by omega, by rw [HE2.out]; exact H⟩
        case measure => simp [intOf]; omega
      · have HE2 := Lib.hid (chL_yes hg)
        have HG := Lib.hid hg
        clear hg
        go_upto_region 7 with (at_lookup; refine wpList_lookupOk_yes rfl (.tmp 23) (.tmp 24) rfl HT HK HE (H.at 1 rfl) HMM.out rfl rfl HG.out ?_)
        go_wp2_with (at_builtin; refine wpList_append_H rfl (.tmp 29) (.tmp 31) 22 rfl elemInt H.alloc 2 rfl rfl 3 rfl rfl rfl rfl (by decide) (by unfold maxLen; omega) (by omega) (fun g cap wz HZ => ?_); clear H C)
        have H := HZ
        clear HZ
        skip
        simp only [List.cons_append, List.nil_append, List.set_cons_succ, List.set_cons_zero] at H
        rw [rowI_snoc] at H
        go_wp2_with fail
        replace H := H.less (L' := [.blk bS _ _, .obj bm _, .row _ _ _ _ _]) (by repeat (first | exact .slnil | refine .cons_cons _ ?_ | refine .cons _ ?_))
        try clear C
        go_roundw
        case rel => exact ⟨j + 1, by go_num, by omega, by rw [HE2.out]; exact H⟩
        case measure => simp [intOf]; omega
    · have hjn' : j = 40 := by omega
      go_wp2_with fail
      go_ret
      exact ⟨_, rfl, by rw [← hjn']; exact H.rowOut 2 rfl, H.done⟩
end Go.Proofs.YtaeockopliplfaaDoor
