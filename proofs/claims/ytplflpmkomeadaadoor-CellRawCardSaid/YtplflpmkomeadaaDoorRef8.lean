/- The specification of layer 9 (memfaultref09): Covers. -/
import Derived.Test.YtplflpmkomeadaaDoorRef7
import Derived.Test.YtplflpmkomeadaaDoorK1
namespace Go.Proofs.YtplflpmkomeadaaDoor
set_option linter.unusedSimpArgs false
set_option linter.unusedVariables false
open Go.RowKit
set_option maxRecDepth 100000
attribute [local go_sem] lt_more ne_more ne_more'
attribute [local irreducible] wpX

theorem nmB_at (k : Int) {i : Nat} (hi : i < 6) : (#[.bool (nmB k 0), .bool (nmB k 1), .bool (nmB k 2), .bool (nmB k 3), .bool (nmB k 4), .bool (nmB k 5)] : Array Value)[i]? = some (.bool (nmB k i)) := by
  have : i = 0 ∨ i = 1 ∨ i = 2 ∨ i = 3 ∨ i = 4 ∨ i = 5 := by omega
  rcases this with rfl | rfl | rfl | rfl | rfl | rfl <;> rfl
theorem pick6_CV {k p0 p1 p2 p3 p4 p5 q0 q1 q2 q3 q4 q5 : Int} : CV k p0 p1 p2 p3 p4 p5 q0 q1 q2 q3 q4 q5 ↔ ∀ i, i < 6 → nmB k i = true → pick6 p0 p1 p2 p3 p4 p5 i = pick6 q0 q1 q2 q3 q4 q5 i := by
  constructor
  · rintro ⟨h0, h1, h2, h3, h4, h5⟩ i hi
    have : i = 0 ∨ i = 1 ∨ i = 2 ∨ i = 3 ∨ i = 4 ∨ i = 5 := by omega
    rcases this with rfl | rfl | rfl | rfl | rfl | rfl
    · exact fun _ => h0
    · exact fun _ => h1
    · exact fun h => h2 (by simpa [nmB] using h)
    · exact fun h => h3 (by simpa [nmB] using h)
    · exact fun h => h4 (by simpa [nmB] using h)
    · exact fun h => h5 (by simpa [nmB] using h)
  · intro h
    exact ⟨h 0 (by decide) rfl, h 1 (by decide) rfl, fun hk => h 2 (by decide) (by simpa [nmB] using hk), fun hk => h 3 (by decide) (by simpa [nmB] using hk), fun hk => h 4 (by decide) (by simpa [nmB] using hk), fun hk => h 5 (by decide) (by simpa [nmB] using hk)⟩

theorem rcovers_no (k p0 p1 p2 p3 p4 p5 ch ms vl q0 q1 q2 q3 q4 q5 : Int) (hd : Bool) (hk : ¬ (1 ≤ k ∧ k ≤ 6)) (w : World) :
    Calls Tryd.prog 95 #[vF k p0 p1 p2 p3 p4 p5 ch ms vl hd, v6 q0 q1 q2 q3 q4 q5] w (Gives (.bool false) w) := by
  go_enter Tryd.func95, Tryd.ntmps95
  have H := HS.start NoD w
  go_wp2_with fail
  refine (named_no _ hk _).mono ?_
  rintro _ w1 ⟨rfl, hb⟩
  replace H := H.alloc.alloc.below hb
  clear hb
  try clear C
  try simp only [World.size_alloc, List.nil_append, List.cons_append, List.append_assoc] at H
  generalize w.heap.size + 1 = bP at H ⊢
  generalize w.heap.size = bF at H ⊢
  have C := H.cells
  try simp only [cellsOf, cellsM, apartOf, apartM, and_true] at C
  dsimp only
  go_wp2_with fail
  go_ret
  refine ⟨rfl, ?_⟩
  (first | exact H.done | exact H.skipAlloc.done | exact H.skipAlloc.skipAlloc.done | exact H.skipAlloc.skipAlloc.skipAlloc.done)

set_option maxHeartbeats 8000000 in
theorem rcovers_yes (k p0 p1 p2 p3 p4 p5 ch ms vl q0 q1 q2 q3 q4 q5 : Int) (hd : Bool) (hk : 1 ≤ k ∧ k ≤ 6) (w : World) :
    Calls Tryd.prog 95 #[vF k p0 p1 p2 p3 p4 p5 ch ms vl hd, v6 q0 q1 q2 q3 q4 q5] w (Gives (.bool (decide (CV k p0 p1 p2 p3 p4 p5 q0 q1 q2 q3 q4 q5))) w) := by
  go_enter Tryd.func95, Tryd.ntmps95
  have H := HS.start NoD w
  go_wp2_with fail
  refine (named_yes _ hk _).mono ?_
  rintro _ w1 ⟨rfl, hb⟩
  replace H := H.alloc.alloc.below hb
  clear hb
  try clear C
  try simp only [World.size_alloc, List.nil_append, List.cons_append, List.append_assoc] at H
  generalize w.heap.size + 1 = bP at H ⊢
  generalize w.heap.size = bF at H ⊢
  have C := H.cells
  try simp only [cellsOf, cellsM, apartOf, apartM, and_true] at C
  dsimp only
  go_wp2_with fail
  refine wp_region_fH (by kernel_rfl) [0, 1, 2, 3, 4, 5, 6, 7, 8] (by kernel_rfl) (by kernel_rfl) (by kernel_rfl) (fun _ => False) (H.alloc) ?_
  clear H; intro w2 H hz0
  try clear C
  try simp only [World.size_alloc, List.nil_append, List.cons_append, List.append_assoc] at H hz0 ⊢
  generalize w1.heap.size = bN at H hz0 ⊢
  clear hz0
  try clear w1
  have C := H.cells
  try simp only [cellsOf, cellsM, apartOf, apartM, and_true] at C
  simp only [List.filterMap_cons, List.filterMap_nil, List.getElem?_toArray, List.getElem?_cons_zero, List.getElem?_cons_succ]
  (refine wpF_free rfl rfl rfl (fun _ _ => ?_); go_step; go_step)
  (refine wpF_load rfl rfl rfl (by simp [Stay, OneD, NoD, *]) (by simp [*]) (fun _ _ => ?_); go_step; go_step)
  (refine wpF_call rfl rfl (fun wc hc _ _ => ?_); go_step; refine (rnumbers_any _ _ _ _ _ _ _).mono ?_; rintro _ wd ⟨rfl, hb⟩; dsimp only; go_step; refine ⟨hc.below (fun _ h => h.lt) hb (hc.inv.below hb), fun k _ hk => hb.block k hk, ?_⟩; clear hb hc wc wd)
  (refine wpF_load rfl rfl rfl (by simp [Stay, OneD, NoD, *]) (by simp [*]) (fun _ _ => ?_); go_step; go_step)
  (refine wpF_call rfl rfl (fun wc hc _ _ => ?_); go_step; refine (rnumbers_any _ _ _ _ _ _ _).mono ?_; rintro _ wd ⟨rfl, hb⟩; dsimp only; go_step; refine ⟨hc.below (fun _ h => h.lt) hb (hc.inv.below hb), fun k _ hk => hb.block k hk, ?_⟩; clear hb hc wc wd)
  (refine wpF_float rfl rfl #[.int .i64 0, .int .i64 0, .int .i64 0, .int .i64 0, .int .i64 0, .int .i64 0]   79 (fun w => by kernel_rfl) (fun b5 hb5 nb5 _ _ => ?_); go_simp; go_step)
  (refine wpF_float rfl rfl #[.int .i64 0, .int .i64 0, .int .i64 0, .int .i64 0, .int .i64 0, .int .i64 0]   79 (fun w => by kernel_rfl) (fun b6 hb6 nb6 _ _ => ?_); go_simp; go_step)
  have hne : b6 ≠ b5 := fun e => by rw [e] at nb6; simp [Fl.put] at nb6
  (refine wpF_store (cs := #[.int .i64 p0, .int .i64 p1, .int .i64 p2, .int .i64 p3, .int .i64 p4, .int .i64 p5]) rfl rfl rfl rfl ((Fl.ne _ (Ne.symm hne) _).trans (Fl.at _ _ _)) rfl (by kernel_rfl) rfl rfl (fun _ _ => ?_); go_simp; go_step)
  (refine wpF_store (cs := #[.int .i64 q0, .int .i64 q1, .int .i64 q2, .int .i64 q3, .int .i64 q4, .int .i64 q5]) rfl rfl rfl rfl ((Fl.ne _ hne _).trans (Fl.at _ _ _)) rfl (by kernel_rfl) rfl rfl (fun _ _ => ?_); go_simp; go_step)
  refine wpF_nil ?_
  intro w3 hC
  replace H := H.floats2 hC hne ((Fl.ne _ (Ne.symm hne) _).trans (Fl.at _ _ _)) (Fl.at _ _ _)
  clear hC hne C hb5 nb5 hb6 nb6 w2
  try simp only [List.nil_append, List.cons_append, List.append_assoc] at H
  have C := H.cells
  try simp only [cellsOf, cellsM, apartOf, apartM, and_true] at C
  go_step
  go_step
  go_wp2_with fail
  replace H := H.less (L' := [.blk bN _ _, .blk b5 _ _, .blk b6 _ _]) (by repeat (first | exact .slnil | refine .cons_cons _ ?_ | refine .cons _ ?_))
  try clear C
  go_loopw [9] (fun c wr => ∃ i : Nat, i ≤ 6 ∧ c = .int .i64 i ∧ HS NoD w [.blk bN #[.bool (nmB k 0), .bool (nmB k 1), .bool (nmB k 2), .bool (nmB k 3), .bool (nmB k 4), .bool (nmB k 5)] 86, .blk b5 #[.int .i64 p0, .int .i64 p1, .int .i64 p2, .int .i64 p3, .int .i64 p4, .int .i64 p5] 79, .blk b6 #[.int .i64 q0, .int .i64 q1, .int .i64 q2, .int .i64 q3, .int .i64 q4, .int .i64 q5] 79] wr ∧ ∀ j, j < i → nmB k j = true → pick6 p0 p1 p2 p3 p4 p5 j = pick6 q0 q1 q2 q3 q4 q5 j) (fun c _ => 6 - (intOf c).toNat)
  case atStart => exact ⟨0, by decide, rfl, H, fun j hj => absurd hj (Nat.not_lt_zero _)⟩
  case round =>
    clear H w3
    obtain ⟨i, hi, rfl, H, hall⟩ := hrel
    have HALL := Lib.hid hall
    clear hall
    by_cases hi6 : i < 6
    · obtain ⟨x, hx⟩ : ∃ x, x = pick6 p0 p1 p2 p3 p4 p5 i := ⟨_, rfl⟩
      obtain ⟨y, hy⟩ : ∃ y, y = pick6 q0 q1 q2 q3 q4 q5 i := ⟨_, rfl⟩
      have HX := Lib.hid hx
      have HY := Lib.hid hy
      clear hx hy
      cases hn : nmB k i
      · have hj : ∀ j, j < i + 1 → nmB k j = true → pick6 p0 p1 p2 p3 p4 p5 j = pick6 q0 q1 q2 q3 q4 q5 j := fun j hj hjn => by
          by_cases e : j = i
          · subst e; rw [hn] at hjn; cases hjn
          · exact HALL.out j (by omega) hjn
        have HJ := Lib.hid hj
        clear hj
        go_wp2_with fail
        refine wp_region_xH (by kernel_rfl) (by kernel_rfl) (by kernel_rfl) (by kernel_rfl) (fun _ => False) (H) ?_
        clear H; intro w4 H hz0 hs0
        try clear C
        try simp only [World.size_alloc, List.nil_append, List.cons_append, List.append_assoc] at H hz0
        clear hz0
        try clear w3
        have C := H.cells
        try simp only [cellsOf, cellsM, apartOf, apartM, and_true] at C
        have Z := H.zs
        try simp only [ltsOf, ltsM, and_true] at Z
        have hz0 := Nat.le_refl w4.heap.size
        try clear C
        have cN : w4.cell? ⟨bN, i, none⟩ = some _ := (Blk.cell (H.at 0 rfl) i).trans (nmB_at k hi6)
        have zN := Blk.lt (H.at 0 rfl)
        rw [hn] at cN
        repeat (first | (refine wpX_skip rfl ?_; go_simp) | (refine wpX_free rfl rfl rfl (fun K hK => ?_); go_step; refine hK _ _ ?_; clear hK K) | (refine wpX_load rfl rfl rfl (by simp [Stay, OneD, NoD, *]) hs0 (by simp [*]) (fun K hK => ?_); go_step; refine hK _ _ ?_; clear hK K))
        (refine wpX_nil ?_; go_step)
        go_wp2_with fail
        go_roundw
        case rel => exact ⟨i + 1, by omega, by go_num, H, HJ.out⟩
        case measure => simp [intOf]; omega
      · by_cases hxy : x = y
        · have hj : ∀ j, j < i + 1 → nmB k j = true → pick6 p0 p1 p2 p3 p4 p5 j = pick6 q0 q1 q2 q3 q4 q5 j := fun j hj hjn => by
            by_cases e : j = i
            · subst e; rw [← HX.out, ← HY.out, hxy]
            · exact HALL.out j (by omega) hjn
          have HJ := Lib.hid hj
          clear hj
          have hb : (x != y) = false := by simp [hxy]
          go_wp2_with fail
          refine wp_region_xH (by kernel_rfl) (by kernel_rfl) (by kernel_rfl) (by kernel_rfl) (fun _ => False) (H) ?_
          clear H; intro w5 H hz0 hs0
          try clear C
          try simp only [World.size_alloc, List.nil_append, List.cons_append, List.append_assoc] at H hz0
          clear hz0
          try clear w4
          have C := H.cells
          try simp only [cellsOf, cellsM, apartOf, apartM, and_true] at C
          have Z := H.zs
          try simp only [ltsOf, ltsM, and_true] at Z
          have hz0 := Nat.le_refl w5.heap.size
          try clear C
          have cN : w5.cell? ⟨bN, i, none⟩ = some _ := (Blk.cell (H.at 0 rfl) i).trans (nmB_at k hi6)
          have zN := Blk.lt (H.at 0 rfl)
          rw [hn] at cN
          have cP : w5.cell? ⟨b5, i, none⟩ = some _ := (Blk.cell (H.at 1 rfl) i).trans (pick6_at p0 p1 p2 p3 p4 p5 hi6)
          have zP := Blk.lt (H.at 1 rfl)
          have zQ := Blk.lt (H.at 2 rfl)
          have cQ : w5.cell? ⟨b6, i, none⟩ = some _ := (Blk.cell (H.at 2 rfl) i).trans (pick6_at q0 q1 q2 q3 q4 q5 hi6)
          rw [← HX.out] at cP
          rw [← HY.out] at cQ
          repeat (first | (refine wpX_skip rfl ?_; go_simp) | (refine wpX_free rfl rfl rfl (fun K hK => ?_); go_step; refine hK _ _ ?_; clear hK K) | (refine wpX_load rfl rfl rfl (by simp [Stay, OneD, NoD, *]) hs0 (by simp [*]) (fun K hK => ?_); go_step; refine hK _ _ ?_; clear hK K))
          (refine wpX_nil ?_; go_step)
          go_wp2_with fail
          go_roundw
          case rel => exact ⟨i + 1, by omega, by go_num, H, HJ.out⟩
          case measure => simp [intOf]; omega
        · have hb : (x != y) = true := by simpa using hxy
          go_wp2_with fail
          refine wp_region_xH (by kernel_rfl) (by kernel_rfl) (by kernel_rfl) (by kernel_rfl) (fun _ => False) (H) ?_
          clear H; intro w6 H hz0 hs0
          try clear C
          try simp only [World.size_alloc, List.nil_append, List.cons_append, List.append_assoc] at H hz0
          clear hz0
          try clear w5
          have C := H.cells
          try simp only [cellsOf, cellsM, apartOf, apartM, and_true] at C
          have Z := H.zs
          try simp only [ltsOf, ltsM, and_true] at Z
          have hz0 := Nat.le_refl w6.heap.size
          try clear C
          have cN : w6.cell? ⟨bN, i, none⟩ = some _ := (Blk.cell (H.at 0 rfl) i).trans (nmB_at k hi6)
          have zN := Blk.lt (H.at 0 rfl)
          rw [hn] at cN
          have cP : w6.cell? ⟨b5, i, none⟩ = some _ := (Blk.cell (H.at 1 rfl) i).trans (pick6_at p0 p1 p2 p3 p4 p5 hi6)
          have zP := Blk.lt (H.at 1 rfl)
          have zQ := Blk.lt (H.at 2 rfl)
          have cQ : w6.cell? ⟨b6, i, none⟩ = some _ := (Blk.cell (H.at 2 rfl) i).trans (pick6_at q0 q1 q2 q3 q4 q5 hi6)
          rw [← HX.out] at cP
          rw [← HY.out] at cQ
          repeat (first | (refine wpX_skip rfl ?_; go_simp) | (refine wpX_free rfl rfl rfl (fun K hK => ?_); go_step; refine hK _ _ ?_; clear hK K) | (refine wpX_load rfl rfl rfl (by simp [Stay, OneD, NoD, *]) hs0 (by simp [*]) (fun K hK => ?_); go_step; refine hK _ _ ?_; clear hK K))
          (refine wpX_nil ?_; go_step)
          go_wp2_with fail
          go_ret
          refine ⟨ret_bool (decide_eq_false fun hc => ?_).symm, H.done⟩
          have := pick6_CV.1 hc i hi6 hn
          rw [← HX.out, ← HY.out] at this
          exact hxy this
    · have hie : i = 6 := by omega
      subst hie
      go_wp2_with fail
      go_ret
      exact ⟨ret_bool (decide_eq_true (pick6_CV.2 HALL.out)).symm, H.done⟩
end Go.Proofs.YtplflpmkomeadaaDoor
