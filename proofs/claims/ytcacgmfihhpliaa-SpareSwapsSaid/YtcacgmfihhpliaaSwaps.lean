/- The statement SpareSwaps: its walk. -/
import Derived.Test.YtcacgmfihhpliaaSpare17
import Derived.Test.YtcacgmfihhpliaaNone
import Derived.Test.YtcacgmfihhpliaaRowSet
namespace Go.Proofs.Ytcacgmfihhpliaa
set_option linter.unusedSimpArgs false
set_option linter.unusedVariables false
open Go.RowKit
set_option maxRecDepth 100000
attribute [local go_sem] lt_more ne_more ne_more'
attribute [local irreducible] wpX wpF Calls

set_option maxHeartbeats 16000000 in
theorem swaps_walk {r0 r1 r2 r3 r4 r5 rn : Int} {rs : List S8} {rc : Nat} {ra : Option Addr} (hrc : rs.length ≤ rc) (sa : Option Addr) (len cap : Nat) (hl : len ≤ maxLen) (what at_ by_ index : Int) (p0 p1 p2 p3 p4 p5 : Int) (w : World) (hR : Lies w w.heap.size ra 8 rs.length (fun j => sC rs[j]!)) (hI : Ints w sa len) :
    Calls Try.prog 3 #[vSp r0 r1 r2 r3 r4 r5 rn (.slice ra rs.length rc), .slice sa len cap, .int .i64 what, .int .i64 at_, .int .i64 by_, .int .i64 index, v6 p0 p1 p2 p3 p4 p5] w (Gives (.bool true) w) := by
  have HI := Lib.hid hI
  have HRL := Lib.hid hR
  clear hI hR
  have hli := light_any sa len cap hl
  clear hl
  have HAW := Lib.hid awake36
  by_cases h30 : rs.length ≤ 30
  · by_cases h400 : len ≤ 400
    · rw [decide_eq_true h400] at hli
      have HLI := Lib.hid hli
      clear hli
      go_enter Try.func3, Try.ntmps3
      have H := HS.start NoD w
      have h30i : ¬ (30 : Int) < (rs.length : Int) := by omega
      go_upto_region 1 with fail
      generalize hwb : (w.alloc _).alloc _ = w1
      replace H := HS.eqW hwb H.alloc.alloc
      try simp only [World.size_alloc, List.nil_append, List.cons_append, List.append_assoc] at H
      clear hwb
      generalize w.heap.size + 1 = bP at H ⊢
      generalize w.heap.size = bW at H ⊢
      try clear C
      have C := H.cells
      try simp only [cellsOf, apartOf, and_true] at C
      go_wp2_with fail
      refine (gives_of (HLI.out _)).mono ?_
      rintro _ w2 ⟨rfl, hb⟩
      replace H := H.below hb
      clear hb
      try clear C
      try simp only [World.size_alloc, List.nil_append, List.cons_append, List.append_assoc] at H
      try clear w1
      have C := H.cells
      try simp only [cellsOf, apartOf, and_true] at C
      dsimp only
      go_wp2_with fail
      refine (roll_at w.heap.size _ _ _ h400 _ H.size (H.ints HI.out)).mono ?_
      rintro _ w3 ⟨bd, rfl, hd, hb, hbb⟩
      replace H := H.getsDice hb hd hbb (Nat.le_refl _)
      clear hb hd hbb
      try clear C
      try simp only [World.size_alloc, List.nil_append, List.cons_append, List.append_assoc] at H
      try clear w2
      have C := H.cells
      try simp only [cellsOf, apartOf, and_true] at C
      dsimp only
      go_wp2_with fail
      refine (mspares_any w.heap.size bd _ (H.at 2 rfl) H.size).mono ?_
      rintro _ wg ⟨s0, s1, s2, s4, n, sx, c, xs, rfl, hr, hms, hv, h7, h0, hd, hg⟩
      replace H := H.diceRow 2 rfl hg hd hr
      clear hr hd hg
      try simp only [List.nil_append, List.cons_append, List.append_assoc] at H
      skip
      try clear C
      try simp only [World.size_alloc, List.nil_append, List.cons_append, List.append_assoc] at H
      have C := H.cells
      try simp only [cellsOf, apartOf, and_true] at C
      have sv := hv.sv
      have HCP := Lib.hid (fun w hl => qcopy_of s0 s1 s2 1 s4 2 n (sa := sx) c (xs := xs) (by omega) w hl)
      go_wp2_with fail
      refine (HCP.out _ (H.alloc.rowLies 3 sC_len rfl rfl)).mono ?_
      rintro _ w4 ⟨sy, dy, rfl, hr, hb⟩
      replace H := (H.alloc).getsRow hb hr
      clear hb hr
      try clear C
      try simp only [World.size_alloc, List.nil_append, List.cons_append, List.append_assoc] at H
      generalize wg.heap.size = bX at H ⊢
      try clear wg
      have C := H.cells
      try simp only [cellsOf, apartOf, and_true] at C
      dsimp only
      go_upto_region 6 with fail
      generalize hwb : w4.alloc _ = w5
      replace H := HS.eqW hwb H.alloc
      try simp only [World.size_alloc, List.nil_append, List.cons_append, List.append_assoc] at H
      clear hwb
      generalize w4.heap.size = bY at H ⊢
      try clear C
      try clear w4
      have C := H.cells
      try simp only [cellsOf, apartOf, and_true] at C
      have hdy : xs.length ≤ dy := by
        by_cases e : 0 < xs.length
        · obtain ⟨-, -, -, h⟩ := ownsRow_ptr (H.at 5 rfl) e
          exact h
        · omega
      have hwt := modF_in (n := what) (m := 8) (by decide) (by decide)
      have M0 := Lib.hid (fun w => gives_of (mod_any at_ (xs.length : Int) w))
      have M1 := Lib.hid (fun w => gives_of (mod_any what 8 w))
      have hk : xs.length = 0 ∨ (0 ≤ modF at_ (xs.length : Int) ∧ modF at_ (xs.length : Int) < (xs.length : Int)) := by
        by_cases e : xs.length = 0
        · exact .inl e
        · exact .inr (modF_in (n := at_) (m := (xs.length : Int)) (by omega) (by omega))
      generalize modF what 8 = wt at *
      generalize modF at_ (xs.length : Int) = k at *
      go_wp2_with fail
      refine (M0.out _).mono ?_
      rintro _ w6 ⟨rfl, hb⟩
      replace H := H.below hb
      clear hb
      try clear C
      try simp only [World.size_alloc, List.nil_append, List.cons_append, List.append_assoc] at H
      try clear w5
      have C := H.cells
      try simp only [cellsOf, apartOf, and_true] at C
      dsimp only
      go_wp2_with fail
      refine (M1.out _).mono ?_
      rintro _ w7 ⟨rfl, hb⟩
      replace H := H.below hb
      clear hb
      try clear C
      try simp only [World.size_alloc, List.nil_append, List.cons_append, List.append_assoc] at H
      try clear w6
      have C := H.cells
      try simp only [cellsOf, apartOf, and_true] at C
      dsimp only
      go_upto_block 0 with fail
      go_cut [] from 61 to 153 (fun wx => ∃ (b0 b1 b2 b3 b4 b5 m : Int) (ys : List S8) (sb : Option Addr) (d : Nat), ys.length ≤ 8 ∧ ys.length ≤ d ∧ HS NoD w [.blk bW #[.int .i64 r0, .int .i64 r1, .int .i64 r2, .int .i64 r3, .int .i64 r4, .int .i64 r5, .int .i64 rn, .slice ra rs.length rc] 26, .blk bP #[.int .i64 p0, .int .i64 p1, .int .i64 p2, .int .i64 p3, .int .i64 p4, .int .i64 p5] 28, .dice w.heap.size bd, .row (.slice sx xs.length c) 38 8 xs.length (xs.flatMap sC), .blk bX #[.int .i64 s0, .int .i64 s1, .int .i64 s2, .int .i64 1, .int .i64 s4, .int .i64 2, .int .i64 n, .slice sx xs.length c] 26, .row (.slice sb ys.length d) 38 8 ys.length (ys.flatMap sC), .blk bY #[.int .i64 b0, .int .i64 b1, .int .i64 b2, .int .i64 b3, .int .i64 b4, .int .i64 b5, .int .i64 m, .slice sb ys.length d] 26] wx)
      case first =>
        have hu9 := modF_in (n := by_) (m := 9) (by decide) (by decide)
        have hu6 := modF_in (n := by_) (m := 6) (by decide) (by decide)
        have hu10 := modF_in (n := by_) (m := 10) (by decide) (by decide)
        have M9 := Lib.hid (fun w => gives_of (mod_any by_ 9 w))
        have M6 := Lib.hid (fun w => gives_of (mod_any by_ 6 w))
        have M10 := Lib.hid (fun w => gives_of (mod_any by_ 10 w))
        generalize modF by_ 9 = u9 at *
        generalize modF by_ 6 = u6 at *
        generalize modF by_ 10 = u10 at *
        skip
        rcases (show wt = 0 ∨ wt = 1 ∨ wt = 2 ∨ wt = 3 ∨ wt = 4 ∨ wt = 5 ∨ wt = 6 ∨ wt = 7 by omega) with rfl | rfl | rfl | rfl | rfl | rfl | rfl | rfl
        · skip
          go_wp2_with fail
          refine (M10.out _).mono ?_
          rintro _ w8 ⟨rfl, hb⟩
          replace H := H.below hb
          clear hb
          try clear C
          try simp only [World.size_alloc, List.nil_append, List.cons_append, List.append_assoc] at H
          try clear w7
          have C := H.cells
          try simp only [cellsOf, apartOf, and_true] at C
          dsimp only
          go_wp2_with fail
          go_meet
          case rel => exact ⟨s0, s1, s2, 1, s4, 2, u10 - 1, xs, sy, dy, by omega, hdy, H.setTo 6 rfl (by rfl)⟩
        · skip
          go_wp2_with fail
          refine (M6.out _).mono ?_
          rintro _ w9 ⟨rfl, hb⟩
          replace H := H.below hb
          clear hb
          try clear C
          try simp only [World.size_alloc, List.nil_append, List.cons_append, List.append_assoc] at H
          try clear w7
          have C := H.cells
          try simp only [cellsOf, apartOf, and_true] at C
          dsimp only
          go_wp2_with fail
          go_meet
          case rel => exact ⟨s0, s1, s2, 1, u6 - 1, 2, n, xs, sy, dy, by omega, hdy, H.setTo 6 rfl (by rfl)⟩
        · skip
          go_upto_region 13 with fail
          refine wp_region_zH (by kernel_rfl) (by kernel_rfl) (by kernel_rfl) (by kernel_rfl) (by kernel_rfl) (by dsimp only [List.dropLast]) rfl (fun w => (∀ o, w.cell? ⟨bY, o, none⟩ = [Value.int .i64 s0, .int .i64 s1, .int .i64 s2, .int .i64 1, .int .i64 s4, .int .i64 2, .int .i64 n, .slice sy xs.length dy][o]?) ∧ (∀ o, w.cell? ⟨bX, o, none⟩ = [Value.int .i64 s0, .int .i64 s1, .int .i64 s2, .int .i64 1, .int .i64 s4, .int .i64 2, .int .i64 n, .slice sx xs.length c][o]?)) (H) (fun w0 H _ => ⟨fun o => (Blk.cell (H.at 6 rfl) o).trans (by simp), fun o => (Blk.cell (H.at 4 rfl) o).trans (by simp)⟩) ?_
          clear H; intro w10 h0 H hz0
          try clear C
          try simp only [World.size_alloc, List.nil_append, List.cons_append, List.append_assoc] at H hz0
          clear hz0
          try clear w7
          have C := H.cells
          try simp only [cellsOf, apartOf, and_true] at C
          repeat (first | (refine wpX_skip rfl ?_; go_simp) | (refine wpX_free rfl rfl rfl (fun K hK => ?_); go_step; refine hK _ _ ?_; clear hK K))
          (refine wpX_yield rfl rfl (.slice sy xs.length dy) (fun w hw => by obtain ⟨k0, k1⟩ := hw; go_simp) ?_; go_simp)
          repeat (first | (refine wpX_skip rfl ?_; go_simp) | (refine wpX_free rfl rfl rfl (fun K hK => ?_); go_step; refine hK _ _ ?_; clear hK K))
          (refine wpX_yield rfl rfl (v6 s0 s1 s2 1 s4 2) (fun w hw => by obtain ⟨k0, k1⟩ := hw; go_simp) ?_; go_simp)
          refine wpX_eff rfl rfl (fun _ _ => ?_)
          go_step
          refine (place_any sv w.heap.size bd _ (H.at 2 rfl)).mono ?_
          rintro _ w11 ⟨g0, g1, g2, g3, g4, g5, rfl, hgp, hd, hg⟩
          replace H := H.diceAt 2 rfl hg hd
          clear hg hd
          try clear C
          have C := H.cells
          try simp only [cellsOf, apartOf, and_true] at C
          try clear w10
          dsimp only
          go_step
          refine ⟨⟨fun o => (Blk.cell (H.at 6 rfl) o).trans (by simp), fun o => (Blk.cell (H.at 4 rfl) o).trans (by simp)⟩, ?_⟩
          repeat (first | (refine wpX_skip rfl ?_; go_simp) | (refine wpX_free rfl rfl rfl (fun K hK => ?_); go_step; refine hK _ _ ?_; clear hK K))
          refine wpX_eff rfl rfl (fun _ _ => ?_)
          go_step
          refine (M9.out _).mono ?_
          rintro _ w12 ⟨rfl, hb⟩
          replace H := H.below hb
          clear hb
          try clear C
          have C := H.cells
          try simp only [cellsOf, apartOf, and_true] at C
          try clear w11
          dsimp only
          go_step
          refine ⟨⟨fun o => (Blk.cell (H.at 6 rfl) o).trans (by simp), fun o => (Blk.cell (H.at 4 rfl) o).trans (by simp)⟩, ?_⟩
          repeat (first | (refine wpX_skip rfl ?_; go_simp) | (refine wpX_free rfl rfl rfl (fun K hK => ?_); go_step; refine hK _ _ ?_; clear hK K))
          refine wpX_eff rfl rfl (fun _ _ => ?_)
          go_step
          refine (gives_of (mod_any _ 9 _)).mono ?_
          rintro _ w13 ⟨rfl, hb⟩
          replace H := H.below hb
          clear hb
          try clear C
          have C := H.cells
          try simp only [cellsOf, apartOf, and_true] at C
          try clear w12
          dsimp only
          go_step
          refine ⟨⟨fun o => (Blk.cell (H.at 6 rfl) o).trans (by simp), fun o => (Blk.cell (H.at 4 rfl) o).trans (by simp)⟩, ?_⟩
          generalize modF _ 9 = u99
          repeat (first | (refine wpX_skip rfl ?_; go_simp) | (refine wpX_free rfl rfl rfl (fun K hK => ?_); go_step; refine hK _ _ ?_; clear hK K))
          refine wpX_eff rfl rfl (fun _ _ => ?_)
          go_step
          go_step
          generalize hwb : World.alloc _ _ = w14
          replace H := HS.eqW hwb H.alloc
          try simp only [World.size_alloc, List.nil_append, List.cons_append, List.append_assoc] at H
          clear hwb
          generalize w13.heap.size = bL at H ⊢
          try clear C
          try clear w13
          have C := H.cells
          try simp only [cellsOf, apartOf, and_true] at C
          refine ⟨⟨fun o => (Blk.cell (H.at 6 rfl) o).trans (by simp), fun o => (Blk.cell (H.at 4 rfl) o).trans (by simp)⟩, ?_⟩
          refine wpX_append_H rfl rfl (.tmp 80) (.tmp 91) 24 rfl elemS H 5 rfl rfl 7 rfl rfl rfl rfl (by decide) (by unfold maxLen; omega) (by omega) (fun gz cz w15 HZ hzz => ?_)
          clear H hzz
          have H := HZ
          clear HZ
          try simp only [List.nil_append, List.cons_append, List.append_assoc, List.set_cons_succ, List.set_cons_zero] at H
          try clear C
          try clear w14
          have C := H.cells
          try simp only [cellsOf, apartOf, and_true] at C
          refine ⟨⟨fun o => (Blk.cell (H.at 6 rfl) o).trans (by simp), fun o => (Blk.cell (H.at 4 rfl) o).trans (by simp)⟩, ?_⟩
          repeat (first | (refine wpX_skip rfl ?_; go_simp) | (refine wpX_free rfl rfl rfl (fun K hK => ?_); go_step; refine hK _ _ ?_; clear hK K))
          (refine wpX_nil ?_; go_step)
          obtain ⟨-, -, -, hcz⟩ := ownsRow_ptr (H.at 5 rfl) (Nat.succ_pos _)
          go_wp2_with fail
          go_meet
          case rel =>
            refine ⟨s0, s1, s2, 1, s4, 2, n, xs ++ [(⟨g0, g1, g2, g3, g4, g5, u9, u99⟩ : S8)], some ⟨gz, 0, none⟩, cz, by rw [List.length_append]; simp; omega, by rw [List.length_append]; exact hcz, ?_⟩
            rw [List.length_append, List.flatMap_append]
            exact (H.setTo (o := 7) (v := .slice (some ⟨gz, 0, none⟩) (xs.length + 1) cz) 6 rfl rfl).less (by repeat (first | exact .slnil | refine .cons_cons _ ?_ | refine .cons _ ?_))
        · by_cases e : 0 < xs.length
          · obtain ⟨g, rfl, -, -⟩ := ownsRow_ptr (H.at 5 rfl) e
            obtain ⟨kn, rfl⟩ : ∃ kn : Nat, k = (kn : Int) := ⟨k.toNat, by omega⟩
            have hkn : kn < xs.length := by omega
            have hpos : (0 : Int) < (xs.length : Int) := by omega
            clear hk
            obtain ⟨x, hx⟩ : ∃ x, x = xs[kn]! := ⟨_, rfl⟩
            have HX := Lib.hid hx
            obtain ⟨t0, t1, t2, t3, t4, t5, tr, ts⟩ := x
            clear hx
            skip
            go_upto_region 15 with fail
            refine wp_region_zH (by kernel_rfl) (by kernel_rfl) (by kernel_rfl) (by kernel_rfl) (by kernel_rfl) (by dsimp only [List.dropLast]) rfl (fun w => (∀ o, w.cell? ⟨bY, o, none⟩ = [Value.int .i64 s0, .int .i64 s1, .int .i64 s2, .int .i64 1, .int .i64 s4, .int .i64 2, .int .i64 n, .slice (some ⟨g, 0, none⟩) xs.length dy][o]?) ∧ (∀ o, w.cell? ⟨bX, o, none⟩ = [Value.int .i64 s0, .int .i64 s1, .int .i64 s2, .int .i64 1, .int .i64 s4, .int .i64 2, .int .i64 n, .slice sx xs.length c][o]?)) (H) (fun w0 H _ => ⟨fun o => (Blk.cell (H.at 6 rfl) o).trans (by simp), fun o => (Blk.cell (H.at 4 rfl) o).trans (by simp)⟩) ?_
            clear H; intro w16 h0 H hz0
            try clear C
            try simp only [World.size_alloc, List.nil_append, List.cons_append, List.append_assoc] at H hz0
            clear hz0
            try clear w7
            have C := H.cells
            try simp only [cellsOf, apartOf, and_true] at C
            repeat (first | (refine wpX_skip rfl ?_; go_simp) | (refine wpX_free rfl rfl rfl (fun K hK => ?_); go_step; refine hK _ _ ?_; clear hK K))
            (refine wpX_yield rfl rfl (.slice (some ⟨g, 0, none⟩) xs.length dy) (fun w hw => by obtain ⟨k0, k1⟩ := hw; go_simp) ?_; go_simp)
            repeat (first | (refine wpX_skip rfl ?_; go_simp) | (refine wpX_free rfl rfl rfl (fun K hK => ?_); go_step; refine hK _ _ ?_; clear hK K))
            refine wpX_eff rfl rfl (fun _ _ => ?_)
            go_step
            refine (M9.out _).mono ?_
            rintro _ w17 ⟨rfl, hb⟩
            replace H := H.below hb
            clear hb
            try clear C
            have C := H.cells
            try simp only [cellsOf, apartOf, and_true] at C
            try clear w16
            dsimp only
            go_step
            refine ⟨⟨fun o => (Blk.cell (H.at 6 rfl) o).trans (by simp), fun o => (Blk.cell (H.at 4 rfl) o).trans (by simp)⟩, ?_⟩
            repeat (first | (refine wpX_skip rfl ?_; go_simp) | (refine wpX_free rfl rfl rfl (fun K hK => ?_); go_step; refine hK _ _ ?_; clear hK K))
            have hcg : w17.cell? ⟨g, kn * 8 + 6, none⟩ = some (.int .i64 tr) := by
              rw [World.ownsRow.cellAt (H.at 5 rfl) (kn * 8 + 6) (by omega)]
              exact flat_get sC_len xs kn 6 _ hkn (by rw [← HX.out]; rfl)
            have hfg : w17.frozen? ⟨g, kn * 8 + 6, none⟩ = false := World.ownsRow.frozenAt (H.at 5 rfl) _
            (refine wpX_nil ?_; go_step)
            go_wp2_with fail
            go_meet
            case rel =>
              refine ⟨s0, s1, s2, 1, s4, 2, n, xs.set kn ⟨t0, t1, t2, t3, t4, t5, u9 - 1, ts⟩, some ⟨g, 0, none⟩, dy, by rw [List.length_set]; omega, by rw [List.length_set]; exact hdy, ?_⟩
              rw [List.length_set, flat_set sC_len xs kn 6 ⟨t0, t1, t2, t3, t4, t5, u9 - 1, ts⟩ (.int .i64 (u9 - 1)) hkn (by decide) (by rw [← HX.out]; rfl)]
              exact H.rowSet 5 rfl (kn * 8 + 6) _
          · have hpos : ¬ (0 : Int) < (xs.length : Int) := by omega
            skip
            go_wp2_with fail
            go_meet
            case rel => exact ⟨s0, s1, s2, 1, s4, 2, n, xs, sy, dy, by omega, hdy, H⟩
        · by_cases e : 0 < xs.length
          · obtain ⟨g, rfl, -, -⟩ := ownsRow_ptr (H.at 5 rfl) e
            obtain ⟨kn, rfl⟩ : ∃ kn : Nat, k = (kn : Int) := ⟨k.toNat, by omega⟩
            have hkn : kn < xs.length := by omega
            have hpos : (0 : Int) < (xs.length : Int) := by omega
            clear hk
            obtain ⟨x, hx⟩ : ∃ x, x = xs[kn]! := ⟨_, rfl⟩
            have HX := Lib.hid hx
            obtain ⟨t0, t1, t2, t3, t4, t5, tr, ts⟩ := x
            clear hx
            skip
            go_upto_region 17 with fail
            refine wp_region_zH (by kernel_rfl) (by kernel_rfl) (by kernel_rfl) (by kernel_rfl) (by kernel_rfl) (by dsimp only [List.dropLast]) rfl (fun w => (∀ o, w.cell? ⟨bY, o, none⟩ = [Value.int .i64 s0, .int .i64 s1, .int .i64 s2, .int .i64 1, .int .i64 s4, .int .i64 2, .int .i64 n, .slice (some ⟨g, 0, none⟩) xs.length dy][o]?) ∧ (∀ o, w.cell? ⟨bX, o, none⟩ = [Value.int .i64 s0, .int .i64 s1, .int .i64 s2, .int .i64 1, .int .i64 s4, .int .i64 2, .int .i64 n, .slice sx xs.length c][o]?)) (H) (fun w0 H _ => ⟨fun o => (Blk.cell (H.at 6 rfl) o).trans (by simp), fun o => (Blk.cell (H.at 4 rfl) o).trans (by simp)⟩) ?_
            clear H; intro w18 h0 H hz0
            try clear C
            try simp only [World.size_alloc, List.nil_append, List.cons_append, List.append_assoc] at H hz0
            clear hz0
            try clear w7
            have C := H.cells
            try simp only [cellsOf, apartOf, and_true] at C
            repeat (first | (refine wpX_skip rfl ?_; go_simp) | (refine wpX_free rfl rfl rfl (fun K hK => ?_); go_step; refine hK _ _ ?_; clear hK K))
            (refine wpX_yield rfl rfl (.slice (some ⟨g, 0, none⟩) xs.length dy) (fun w hw => by obtain ⟨k0, k1⟩ := hw; go_simp) ?_; go_simp)
            repeat (first | (refine wpX_skip rfl ?_; go_simp) | (refine wpX_free rfl rfl rfl (fun K hK => ?_); go_step; refine hK _ _ ?_; clear hK K))
            refine wpX_eff rfl rfl (fun _ _ => ?_)
            go_step
            refine (M9.out _).mono ?_
            rintro _ w19 ⟨rfl, hb⟩
            replace H := H.below hb
            clear hb
            try clear C
            have C := H.cells
            try simp only [cellsOf, apartOf, and_true] at C
            try clear w18
            dsimp only
            go_step
            refine ⟨⟨fun o => (Blk.cell (H.at 6 rfl) o).trans (by simp), fun o => (Blk.cell (H.at 4 rfl) o).trans (by simp)⟩, ?_⟩
            repeat (first | (refine wpX_skip rfl ?_; go_simp) | (refine wpX_free rfl rfl rfl (fun K hK => ?_); go_step; refine hK _ _ ?_; clear hK K))
            have hcg : w19.cell? ⟨g, kn * 8 + 7, none⟩ = some (.int .i64 ts) := by
              rw [World.ownsRow.cellAt (H.at 5 rfl) (kn * 8 + 7) (by omega)]
              exact flat_get sC_len xs kn 7 _ hkn (by rw [← HX.out]; rfl)
            have hfg : w19.frozen? ⟨g, kn * 8 + 7, none⟩ = false := World.ownsRow.frozenAt (H.at 5 rfl) _
            (refine wpX_nil ?_; go_step)
            go_wp2_with fail
            go_meet
            case rel =>
              refine ⟨s0, s1, s2, 1, s4, 2, n, xs.set kn ⟨t0, t1, t2, t3, t4, t5, tr, u9 - 1⟩, some ⟨g, 0, none⟩, dy, by rw [List.length_set]; omega, by rw [List.length_set]; exact hdy, ?_⟩
              rw [List.length_set, flat_set sC_len xs kn 7 ⟨t0, t1, t2, t3, t4, t5, tr, u9 - 1⟩ (.int .i64 (u9 - 1)) hkn (by decide) (by rw [← HX.out]; rfl)]
              exact H.rowSet 5 rfl (kn * 8 + 7) _
          · have hpos : ¬ (0 : Int) < (xs.length : Int) := by omega
            skip
            go_wp2_with fail
            go_meet
            case rel => exact ⟨s0, s1, s2, 1, s4, 2, n, xs, sy, dy, by omega, hdy, H⟩
        · by_cases e : 0 < xs.length
          · obtain ⟨g, rfl, hgl, -⟩ := ownsRow_ptr (H.at 5 rfl) e
            obtain ⟨kn, rfl⟩ : ∃ kn : Nat, k = (kn : Int) := ⟨k.toNat, by omega⟩
            have hkn : kn < xs.length := by omega
            have hpos : (0 : Int) < (xs.length : Int) := by omega
            clear hk
            obtain ⟨i, i1, i2, i3, i4⟩ := elemS.hi
            obtain ⟨x, hx⟩ : ∃ x, x = xs[kn]! := ⟨_, rfl⟩
            have HX := Lib.hid hx
            obtain ⟨t0, t1, t2, t3, t4, t5, tr, ts⟩ := x
            have hcel : ∀ j u, [Value.int .i64 t0, .int .i64 t1, .int .i64 t2, .int .i64 t3, .int .i64 t4, .int .i64 t5, .int .i64 tr, .int .i64 ts][j]? = some u → w7.cell? ⟨g, kn * 8 + j, none⟩ = some u := fun j u hu => by
              have hj : j < 8 := (List.getElem?_eq_some_iff.1 hu).1
              rw [World.ownsRow.cellAt (H.at 5 rfl) (kn * 8 + j) (by omega)]
              exact flat_get sC_len xs kn j u hkn (by rw [← hx]; exact hu)
            have c0 : w7.cell? ⟨g, kn * 8, none⟩ = some (.int .i64 t0) := hcel 0 _ rfl
            have c1 : w7.cell? ⟨g, kn * 8 + 1, none⟩ = some (.int .i64 t1) := hcel 1 _ rfl
            have c2 : w7.cell? ⟨g, kn * 8 + 2, none⟩ = some (.int .i64 t2) := hcel 2 _ rfl
            have c3 : w7.cell? ⟨g, kn * 8 + 3, none⟩ = some (.int .i64 t3) := hcel 3 _ rfl
            have c4 : w7.cell? ⟨g, kn * 8 + 4, none⟩ = some (.int .i64 t4) := hcel 4 _ rfl
            have c5 : w7.cell? ⟨g, kn * 8 + 5, none⟩ = some (.int .i64 t5) := hcel 5 _ rfl
            have c6 : w7.cell? ⟨g, kn * 8 + 6, none⟩ = some (.int .i64 tr) := hcel 6 _ rfl
            have c7 : w7.cell? ⟨g, kn * 8 + 7, none⟩ = some (.int .i64 ts) := hcel 7 _ rfl
            have hxe : (⟨t0, t1, t2, t3, t4, t5, tr, ts⟩ : S8) = xs[kn]! := HX.out
            clear hcel hx hxe
            have hne1 : (w7.heap.size = g) = False := eq_false (by omega)
            have hne2 : (g = w7.heap.size) = False := eq_false (by omega)
            have HA := H.drew.alloc (cs := #[Value.int .i64 t0, .int .i64 t1, .int .i64 t2, .int .i64 t3, .int .i64 t4, .int .i64 t5, .int .i64 tr, .int .i64 ts]) (t := 38)
            rw [show (World.drew w7).heap.size = (w7).heap.size from rfl] at HA
            have CA := HA.cells
            simp only [List.nil_append, List.cons_append, cellsOf, apartOf, and_true] at CA
            skip
            go_upto_region 19 with fail
            go_region_law (refine step_append_lies (hgd := rfl) (s := .tmp 138) (x := .tmp 144) (t := 24) (ho := rfl) (base := 0) (e := 38) (i := i) (z := _) (size := 8) (bytes := 64) (ht := elemS.ht) (hi := i1) (hz := i2) (hsize := i3) (hby := i4) (hzs := elemS.hzs) (hsz := elemS.pos) (v := .slice (some ⟨g, 0, none⟩) xs.length dy) (n := xs.length) (xs := xs.flatMap sC) (hs := by simp [Act.eval, Act.put]) (hown := HA.at 5 rfl) (ad := ⟨w7.heap.size, 0, none⟩) (m := 1) (c := 1) (news := [Value.int .i64 t0, .int .i64 t1, .int .i64 t2, .int .i64 t3, .int .i64 t4, .int .i64 t5, .int .i64 tr, .int .i64 ts]) (hx := by simp [Act.eval, Act.put]) (hl := rfl) (hnews := World.news_of_block (HA.at 7 rfl)) (h1 := fun u hu => List.all_eq_true.1 (show List.all [Value.int .i64 t0, .int .i64 t1, .int .i64 t2, .int .i64 t3, .int .i64 t4, .int .i64 t5, .int .i64 tr, .int .i64 ts] (·.oneCell') = true from rfl) u hu) (hm := by decide) (h63 := by unfold maxLen; omega) (hbytes := by omega) (hbase := Nat.zero_le _) (H := _) (hH := rfl) (h := fun gz cz wz h2 h3 h4 h5 => ?_); have H3 := grown_row HA 5 rfl h2 h3 h4; have C3 := H3.cells; clear h2 h3 h4 h5; simp only [List.nil_append, List.cons_append, List.append_assoc, List.set_cons_succ, List.set_cons_zero, cellsOf, apartOf, and_true] at H3 C3)
            all_goals obtain ⟨-, -, -, hcz⟩ := ownsRow_ptr (H3.at 5 rfl) (Nat.succ_pos _)
            all_goals go_wp2_with fail
            all_goals go_meet
            all_goals
              refine ⟨s0, s1, s2, 1, s4, 2, n, xs ++ [(⟨t0, t1, t2, t3, t4, t5, tr, ts⟩ : S8)], some ⟨gz, 0, none⟩, cz, by rw [List.length_append]; simp; omega, by rw [List.length_append]; exact hcz, ?_⟩
              rw [List.length_append, List.flatMap_append]
              exact (H3.setTo (o := 7) (v := .slice (some ⟨gz, 0, none⟩) (xs.length + 1) cz) 6 rfl rfl).less (by repeat (first | exact .slnil | refine .cons_cons _ ?_ | refine .cons _ ?_))
          · have hpos : ¬ (0 : Int) < (xs.length : Int) := by omega
            skip
            go_wp2_with fail
            go_meet
            case rel => exact ⟨s0, s1, s2, 1, s4, 2, n, xs, sy, dy, by omega, hdy, H⟩
        · skip
          go_wp2_with fail
          go_meet
          case rel => exact ⟨r0, r1, r2, r3, r4, r5, n, xs, sy, dy, by omega, hdy, (((((H.setAt 6 rfl).setAt 6 rfl).setAt 6 rfl).setAt 6 rfl).setAt 6 rfl).setTo 6 rfl (by rfl)⟩
        · skip
          go_wp2_with fail
          go_meet
          case rel => exact ⟨s0, s1, s2, 1, s4, 2, n, xs, sy, dy, by omega, hdy, H⟩
      case rest =>
        clear H C
        obtain ⟨b0, b1, b2, b3, b4, b5, m, ys, sb, d, hy8, hyd, H⟩ := hcut
        skip
        try clear C
        try simp only [World.size_alloc, List.nil_append, List.cons_append, List.append_assoc] at H
        have C := H.cells
        try simp only [cellsOf, apartOf, and_true] at C
        obtain ⟨c0, c1, c2, c3, c4, c5, cm, er, hnw, hqn⟩ := new_both b0 b1 b2 b3 b4 b5 m
        have HNW := Lib.hid hnw
        have HQN := Lib.hid hqn
        have HSM := Lib.hid (fun w => qsame_of c0 c1 c2 c3 c4 c5 cm (xs := []) (by decide) 0 0 (sa := none) (sb := none) w Lies.nil0 Lies.nil0)
        have HVX := Lib.hid (fun w hl => hv.valid (sa := sx) w hl)
        clear hnw hqn
        go_wp2_with fail
        refine (HNW.out _).mono ?_
        rintro _ w20 ⟨rfl, hb⟩
        replace H := H.below hb
        clear hb
        try clear C
        try simp only [World.size_alloc, List.nil_append, List.cons_append, List.append_assoc] at H
        try clear wx
        have C := H.cells
        try simp only [cellsOf, apartOf, and_true] at C
        dsimp only
        go_wp2_with fail
        refine (HQN.out _).mono ?_
        rintro _ w21 ⟨rfl, hb⟩
        replace H := H.alloc.below hb
        clear hb
        try clear C
        try simp only [World.size_alloc, List.nil_append, List.cons_append, List.append_assoc] at H
        generalize w20.heap.size = bA at H ⊢
        try clear w20
        have C := H.cells
        try simp only [cellsOf, apartOf, and_true] at C
        dsimp only
        go_wp2_with fail
        refine (HSM.out _).mono ?_
        rintro _ w22 ⟨rfl, hb⟩
        replace H := H.alloc.below hb
        clear hb
        try clear C
        try simp only [World.size_alloc, List.nil_append, List.cons_append, List.append_assoc] at H
        generalize w21.heap.size = bB at H ⊢
        try clear w21
        have C := H.cells
        try simp only [cellsOf, apartOf, and_true] at C
        dsimp only
        go_wp2_with fail
        refine (HVX.out _ (H.rowLies 3 sC_len rfl rfl)).mono ?_
        rintro _ w23 ⟨rfl, hb⟩
        replace H := H.below hb
        clear hb
        try clear C
        try simp only [World.size_alloc, List.nil_append, List.cons_append, List.append_assoc] at H
        try clear w22
        have C := H.cells
        try simp only [cellsOf, apartOf, and_true] at C
        dsimp only
        go_wp2_with fail
        refine (place_any sv w.heap.size bd _ (H.at 2 rfl)).mono ?_
        rintro _ w24 ⟨n0, n1, n2, n3, n4, n5, rfl, hnp, hd, hg⟩
        replace H := (H).diceAt 2 rfl hg hd
        clear hg hd
        try clear C
        try simp only [World.size_alloc, List.nil_append, List.cons_append, List.append_assoc] at H
        try clear w23
        have C := H.cells
        try simp only [cellsOf, apartOf, and_true] at C
        dsimp only
        clear hnp
        go_upto_region 28 with fail
        generalize hwb : (w24.alloc _).alloc _ = w25
        replace H := HS.eqW hwb H.alloc.alloc
        try simp only [World.size_alloc, List.nil_append, List.cons_append, List.append_assoc] at H
        clear hwb
        generalize w24.heap.size + 1 = bL at H ⊢
        generalize w24.heap.size = bN at H ⊢
        try clear C
        try clear w24
        have C := H.cells
        try simp only [cellsOf, apartOf, and_true] at C
        have hu9 := modF_in (n := by_) (m := 9) (by decide) (by decide)
        have M9 := Lib.hid (fun w => gives_of (mod_any by_ 9 w))
        generalize modF by_ 9 = u9 at *
        have hNN := pw_12 (a := s0 + s1 + s2 + 1 + s4 + 2) sv.sum
        have hN1 := pw_pos (s0 + s1 + s2 + 1 + s4 + 2)
        have hsz : ∀ w, Calls Try.prog 30 #[v6 s0 s1 s2 1 s4 2] w (Gives (.int .i64 (2 ^ (s0 + s1 + s2 + 1 + s4 + 2).toNat)) w) := fun w => rsize_yes sv w
        generalize (2 : Int) ^ (s0 + s1 + s2 + 1 + s4 + 2).toNat = N at *
        have HSZ := Lib.hid hsz
        have hui := modF_in (n := index) (m := N + 2) (by omega) (by omega)
        have MI := Lib.hid (fun w => gives_of (mod_any index (N + 2) w))
        generalize modF index (N + 2) = ui at *
        clear hsz
        go_loopw [192] (fun cc wr => ∃ (j : Nat), cc = .int .i64 j ∧ j ≤ 3 ∧ HS NoD w [.blk bW #[.int .i64 r0, .int .i64 r1, .int .i64 r2, .int .i64 r3, .int .i64 r4, .int .i64 r5, .int .i64 rn, .slice ra rs.length rc] 26, .blk bP #[.int .i64 p0, .int .i64 p1, .int .i64 p2, .int .i64 p3, .int .i64 p4, .int .i64 p5] 28, .dice w.heap.size bd, .row (.slice sx xs.length c) 38 8 xs.length (xs.flatMap sC), .blk bX #[.int .i64 s0, .int .i64 s1, .int .i64 s2, .int .i64 1, .int .i64 s4, .int .i64 2, .int .i64 n, .slice sx xs.length c] 26, .row (.slice sb ys.length d) 38 8 ys.length (ys.flatMap sC), .blk bY #[.int .i64 b0, .int .i64 b1, .int .i64 b2, .int .i64 b3, .int .i64 b4, .int .i64 b5, .int .i64 m, .slice sb ys.length d] 26, .blk bN #[.int .i64 n0, .int .i64 n1, .int .i64 n2, .int .i64 n3, .int .i64 n4, .int .i64 n5] 28, .blk bL #[.int .i64 s0, .int .i64 s1, .int .i64 s2, .int .i64 1, .int .i64 s4, .int .i64 2, .int .i64 n, .slice sx xs.length c, .int .i64 b0, .int .i64 b1, .int .i64 b2, .int .i64 b3, .int .i64 b4, .int .i64 b5, .int .i64 m, .slice sb ys.length d, .int .i64 r0, .int .i64 r1, .int .i64 r2, .int .i64 r3, .int .i64 r4, .int .i64 r5, .int .i64 rn, .slice ra rs.length rc] 26] wr) (fun cc _ => 3 - (intOf cc).toNat)
        case atStart => exact ⟨0, rfl, by omega, H.less (by repeat (first | exact .slnil | refine .cons_cons _ ?_ | refine .cons _ ?_))⟩
        case round =>
          clear H C w25
          obtain ⟨j, rfl, hj, H⟩ := hrel
          skip
          by_cases hlt : j < 3
          · have hz : ∃ (z0 z1 z2 z3 z4 z5 zn : Int) (zs : List S8) (sz : Option Addr) (cz : Nat), zs.length ≤ 1000 ∧ zs.length ≤ cz ∧ (∀ w', HS NoD w [.blk bW #[.int .i64 r0, .int .i64 r1, .int .i64 r2, .int .i64 r3, .int .i64 r4, .int .i64 r5, .int .i64 rn, .slice ra rs.length rc] 26, .blk bP #[.int .i64 p0, .int .i64 p1, .int .i64 p2, .int .i64 p3, .int .i64 p4, .int .i64 p5] 28, .dice w.heap.size bd, .row (.slice sx xs.length c) 38 8 xs.length (xs.flatMap sC), .blk bX #[.int .i64 s0, .int .i64 s1, .int .i64 s2, .int .i64 1, .int .i64 s4, .int .i64 2, .int .i64 n, .slice sx xs.length c] 26, .row (.slice sb ys.length d) 38 8 ys.length (ys.flatMap sC), .blk bY #[.int .i64 b0, .int .i64 b1, .int .i64 b2, .int .i64 b3, .int .i64 b4, .int .i64 b5, .int .i64 m, .slice sb ys.length d] 26, .blk bN #[.int .i64 n0, .int .i64 n1, .int .i64 n2, .int .i64 n3, .int .i64 n4, .int .i64 n5] 28, .blk bL #[.int .i64 s0, .int .i64 s1, .int .i64 s2, .int .i64 1, .int .i64 s4, .int .i64 2, .int .i64 n, .slice sx xs.length c, .int .i64 b0, .int .i64 b1, .int .i64 b2, .int .i64 b3, .int .i64 b4, .int .i64 b5, .int .i64 m, .slice sb ys.length d, .int .i64 r0, .int .i64 r1, .int .i64 r2, .int .i64 r3, .int .i64 r4, .int .i64 r5, .int .i64 rn, .slice ra rs.length rc] 26] w' → Lies w' w'.heap.size sz 8 zs.length (fun j => sC zs[j]!)) ∧ wr.cell? ⟨bL, j * 8, none⟩ = some (Value.int .i64 z0) ∧ wr.cell? ⟨bL, j * 8 + 1, none⟩ = some (Value.int .i64 z1) ∧ wr.cell? ⟨bL, j * 8 + 2, none⟩ = some (Value.int .i64 z2) ∧ wr.cell? ⟨bL, j * 8 + 3, none⟩ = some (Value.int .i64 z3) ∧ wr.cell? ⟨bL, j * 8 + 4, none⟩ = some (Value.int .i64 z4) ∧ wr.cell? ⟨bL, j * 8 + 5, none⟩ = some (Value.int .i64 z5) ∧ wr.cell? ⟨bL, j * 8 + 6, none⟩ = some (Value.int .i64 zn) ∧ wr.cell? ⟨bL, j * 8 + 7, none⟩ = some (Value.slice sz zs.length cz) := by
              rcases (show j = 0 ∨ j = 1 ∨ j = 2 by omega) with rfl | rfl | rfl
              · exact ⟨s0, s1, s2, 1, s4, 2, n, xs, sx, c, by omega, hv.cap, fun w' H' => H'.rowLies 3 sC_len rfl rfl, ⟨(Blk.cell (H.at 8 rfl) _).trans rfl, (Blk.cell (H.at 8 rfl) _).trans rfl, (Blk.cell (H.at 8 rfl) _).trans rfl, (Blk.cell (H.at 8 rfl) _).trans rfl, (Blk.cell (H.at 8 rfl) _).trans rfl, (Blk.cell (H.at 8 rfl) _).trans rfl, (Blk.cell (H.at 8 rfl) _).trans rfl, (Blk.cell (H.at 8 rfl) _).trans rfl⟩⟩
              · exact ⟨b0, b1, b2, b3, b4, b5, m, ys, sb, d, by omega, hyd, fun w' H' => H'.rowLies 5 sC_len rfl rfl, ⟨(Blk.cell (H.at 8 rfl) _).trans rfl, (Blk.cell (H.at 8 rfl) _).trans rfl, (Blk.cell (H.at 8 rfl) _).trans rfl, (Blk.cell (H.at 8 rfl) _).trans rfl, (Blk.cell (H.at 8 rfl) _).trans rfl, (Blk.cell (H.at 8 rfl) _).trans rfl, (Blk.cell (H.at 8 rfl) _).trans rfl, (Blk.cell (H.at 8 rfl) _).trans rfl⟩⟩
              · exact ⟨r0, r1, r2, r3, r4, r5, rn, rs, ra, rc, by omega, hrc, fun w' H' => H'.liesUp HRL.out, ⟨(Blk.cell (H.at 8 rfl) _).trans rfl, (Blk.cell (H.at 8 rfl) _).trans rfl, (Blk.cell (H.at 8 rfl) _).trans rfl, (Blk.cell (H.at 8 rfl) _).trans rfl, (Blk.cell (H.at 8 rfl) _).trans rfl, (Blk.cell (H.at 8 rfl) _).trans rfl, (Blk.cell (H.at 8 rfl) _).trans rfl, (Blk.cell (H.at 8 rfl) _).trans rfl⟩⟩
            obtain ⟨z0, z1, z2, z3, z4, z5, zn, zs, sz, cz, hz1, hz2, hzl, e0, e1, e2, e3, e4, e5, e6, e7⟩ := hz
            have HZ := Lib.hid hzl
            have HSV := Lib.hid (fun w hl => svalid_all (a0 := z0) (a1 := z1) (a2 := z2) (a3 := z3) (a4 := z4) (a5 := z5) (n := zn) (sa := sz) hz1 hz2 w hl)
            have HQV := Lib.hid (fun w hl => qvalid_all (a0 := z0) (a1 := z1) (a2 := z2) (a3 := z3) (a4 := z4) (a5 := z5) (n := zn) (sa := sz) hz1 hz2 w hl)
            generalize vB z0 z1 z2 z3 z4 z5 zn zs = vb at *
            clear hzl
            go_upto_region 30 with fail
            generalize hwb : wr.alloc _ = w26
            replace H := HS.eqW hwb H.alloc
            try simp only [World.size_alloc, List.nil_append, List.cons_append, List.append_assoc] at H
            clear hwb
            generalize wr.heap.size = bZ at H ⊢
            try clear C
            try clear wr
            have C := H.cells
            try simp only [cellsOf, apartOf, and_true] at C
            clear e0 e1 e2 e3 e4 e5 e6 e7
            refine wp_region_xH (by kernel_rfl) (by kernel_rfl) (by kernel_rfl) (by kernel_rfl) (fun _ => False) (H) ?_
            clear H; intro w27 H hz0 hs0
            try clear C
            try simp only [World.size_alloc, List.nil_append, List.cons_append, List.append_assoc] at H hz0
            clear hz0
            try clear w26
            have C := H.cells
            try simp only [cellsOf, apartOf, and_true] at C
            have Z := H.zs
            try simp only [ltsOf, and_true] at Z
            have hz0 := Nat.le_refl w27.heap.size
            repeat (first | (refine wpX_skip rfl ?_; go_simp) | (refine wpX_free rfl rfl rfl (fun K hK => ?_); go_step; refine hK _ _ ?_; clear hK K) | (refine wpX_load rfl rfl rfl (by simp [Stay, OneD, NoD, *]) hs0 (by simp [*]) (fun K hK => ?_); go_step; refine hK _ _ ?_; clear hK K))
            have hlz := (HZ.out _ (H.less (by repeat (first | exact .slnil | refine .cons_cons _ ?_ | refine .cons _ ?_))))
            refine wpX_eff rfl rfl (fun _ _ => ?_)
            go_step
            refine (HSV.out _ hlz).mono ?_
            rintro _ w28 ⟨rfl, hb⟩
            replace hs0 := hs0.belowS hz0 hb
            replace hz0 := Nat.le_trans hz0 hb.size
            replace H := H.below hb
            clear hb
            try clear C
            have C := H.cells
            try simp only [cellsOf, apartOf, and_true] at C
            try clear w27
            dsimp only
            go_step
            refine ⟨hs0, ?_⟩
            repeat (first | (refine wpX_skip rfl ?_; go_simp) | (refine wpX_free rfl rfl rfl (fun K hK => ?_); go_step; refine hK _ _ ?_; clear hK K) | (refine wpX_load rfl rfl rfl (by simp [Stay, OneD, NoD, *]) hs0 (by simp [*]) (fun K hK => ?_); go_step; refine hK _ _ ?_; clear hK K))
            have hlz := (HZ.out _ (H.less (by repeat (first | exact .slnil | refine .cons_cons _ ?_ | refine .cons _ ?_))))
            refine wpX_eff rfl rfl (fun _ _ => ?_)
            go_step
            refine (HQV.out _ hlz).mono ?_
            rintro _ w29 ⟨rfl, hb⟩
            replace hs0 := hs0.belowS hz0 hb
            replace hz0 := Nat.le_trans hz0 hb.size
            replace H := H.below hb
            clear hb
            try clear C
            have C := H.cells
            try simp only [cellsOf, apartOf, and_true] at C
            try clear w28
            dsimp only
            go_step
            refine ⟨hs0, ?_⟩
            repeat (first | (refine wpX_skip rfl ?_; go_simp) | (refine wpX_free rfl rfl rfl (fun K hK => ?_); go_step; refine hK _ _ ?_; clear hK K) | (refine wpX_load rfl rfl rfl (by simp [Stay, OneD, NoD, *]) hs0 (by simp [*]) (fun K hK => ?_); go_step; refine hK _ _ ?_; clear hK K))
            (refine wpX_nil ?_; go_step)
            clear HSV HQV hlz
            try clear hlz
            go_upto_region 32 with fail
            try clear hs0
            try clear hz0
            try clear Z
            refine wp_region_sH (by kernel_rfl) (by kernel_rfl) (by kernel_rfl) (by kernel_rfl) (fun w => (∀ o, w.cell? ⟨bN, o, none⟩ = [Value.int .i64 n0, .int .i64 n1, .int .i64 n2, .int .i64 n3, .int .i64 n4, .int .i64 n5][o]?) ∧ (∀ o, w.cell? ⟨bP, o, none⟩ = [Value.int .i64 p0, .int .i64 p1, .int .i64 p2, .int .i64 p3, .int .i64 p4, .int .i64 p5][o]?)) (H) (fun w0 H => ⟨fun o => (Blk.cell (H.at 7 rfl) o).trans (by simp), fun o => (Blk.cell (H.at 1 rfl) o).trans (by simp)⟩) ?_
            clear H; intro w30 h0 H hz0
            try clear C
            try simp only [World.size_alloc, List.nil_append, List.cons_append, List.append_assoc] at H hz0
            clear hz0
            try clear w29
            have C := H.cells
            try simp only [cellsOf, apartOf, and_true] at C
            (refine wpX_yield rfl rfl (v6 n0 n1 n2 n3 n4 n5) (fun w hw => by obtain ⟨k0, k1⟩ := hw; go_simp) ?_; go_simp)
            (refine wpX_yield rfl rfl (v6 p0 p1 p2 p3 p4 p5) (fun w hw => by obtain ⟨k0, k1⟩ := hw; go_simp) ?_; go_simp)
            repeat (first | (refine wpX_skip rfl ?_; go_simp) | (refine wpX_free rfl rfl rfl (fun K hK => ?_); go_step; refine hK _ _ ?_; clear hK K))
            refine wpX_eff rfl rfl (fun _ _ => ?_)
            go_step
            refine (M9.out _).mono ?_
            rintro _ w31 ⟨rfl, hb⟩
            replace H := H.below hb
            clear hb
            try clear C
            have C := H.cells
            try simp only [cellsOf, apartOf, and_true] at C
            try clear w30
            dsimp only
            go_step
            refine ⟨⟨fun o => (Blk.cell (H.at 7 rfl) o).trans (by simp), fun o => (Blk.cell (H.at 1 rfl) o).trans (by simp)⟩, ?_⟩
            repeat (first | (refine wpX_skip rfl ?_; go_simp) | (refine wpX_free rfl rfl rfl (fun K hK => ?_); go_step; refine hK _ _ ?_; clear hK K))
            refine wpX_eff rfl rfl (fun _ _ => ?_)
            go_step
            go_step
            generalize hwb : World.alloc _ _ = w32
            replace H := HS.eqW hwb H.alloc
            try simp only [World.size_alloc, List.nil_append, List.cons_append, List.append_assoc] at H
            clear hwb
            generalize w31.heap.size = bQ at H ⊢
            try clear C
            try clear w31
            have C := H.cells
            try simp only [cellsOf, apartOf, and_true] at C
            refine ⟨⟨fun o => (Blk.cell (H.at 7 rfl) o).trans (by simp), fun o => (Blk.cell (H.at 1 rfl) o).trans (by simp)⟩, ?_⟩
            repeat (first | (refine wpX_skip rfl ?_; go_simp) | (refine wpX_free rfl rfl rfl (fun K hK => ?_); go_step; refine hK _ _ ?_; clear hK K))
            (refine wpX_nil ?_; go_step)
            go_wp2_with fail
            go_loopw [209] (fun cc wr => ∃ (j : Nat), cc = .int .i64 j ∧ j ≤ 3 ∧ HS NoD w [.blk bW #[.int .i64 r0, .int .i64 r1, .int .i64 r2, .int .i64 r3, .int .i64 r4, .int .i64 r5, .int .i64 rn, .slice ra rs.length rc] 26, .blk bP #[.int .i64 p0, .int .i64 p1, .int .i64 p2, .int .i64 p3, .int .i64 p4, .int .i64 p5] 28, .dice w.heap.size bd, .row (.slice sx xs.length c) 38 8 xs.length (xs.flatMap sC), .blk bX #[.int .i64 s0, .int .i64 s1, .int .i64 s2, .int .i64 1, .int .i64 s4, .int .i64 2, .int .i64 n, .slice sx xs.length c] 26, .row (.slice sb ys.length d) 38 8 ys.length (ys.flatMap sC), .blk bY #[.int .i64 b0, .int .i64 b1, .int .i64 b2, .int .i64 b3, .int .i64 b4, .int .i64 b5, .int .i64 m, .slice sb ys.length d] 26, .blk bN #[.int .i64 n0, .int .i64 n1, .int .i64 n2, .int .i64 n3, .int .i64 n4, .int .i64 n5] 28, .blk bL #[.int .i64 s0, .int .i64 s1, .int .i64 s2, .int .i64 1, .int .i64 s4, .int .i64 2, .int .i64 n, .slice sx xs.length c, .int .i64 b0, .int .i64 b1, .int .i64 b2, .int .i64 b3, .int .i64 b4, .int .i64 b5, .int .i64 m, .slice sb ys.length d, .int .i64 r0, .int .i64 r1, .int .i64 r2, .int .i64 r3, .int .i64 r4, .int .i64 r5, .int .i64 rn, .slice ra rs.length rc] 26, .blk bZ #[.int .i64 z0, .int .i64 z1, .int .i64 z2, .int .i64 z3, .int .i64 z4, .int .i64 z5, .int .i64 zn, .slice sz zs.length cz] 26, .blk bQ #[.int .i64 n0, .int .i64 n1, .int .i64 n2, .int .i64 n3, .int .i64 n4, .int .i64 n5, .int .i64 p0, .int .i64 p1, .int .i64 p2, .int .i64 p3, .int .i64 p4, .int .i64 p5, .int .i64 0, .int .i64 0, .int .i64 0, .int .i64 0, .int .i64 (u9 - 1), .int .i64 0] 28] wr) (fun cc _ => 3 - (intOf cc).toNat)
            case atStart => exact ⟨0, rfl, by omega, H⟩
            case round =>
              clear H C w32
              obtain ⟨j2, rfl, hj2, H⟩ := hrel
              skip
              by_cases hlt2 : j2 < 3
              · have hq : ∃ (q0 q1 q2 q3 q4 q5 : Int), wr.cell? ⟨bQ, j2 * 6, none⟩ = some (Value.int .i64 q0) ∧ wr.cell? ⟨bQ, j2 * 6 + 1, none⟩ = some (Value.int .i64 q1) ∧ wr.cell? ⟨bQ, j2 * 6 + 2, none⟩ = some (Value.int .i64 q2) ∧ wr.cell? ⟨bQ, j2 * 6 + 3, none⟩ = some (Value.int .i64 q3) ∧ wr.cell? ⟨bQ, j2 * 6 + 4, none⟩ = some (Value.int .i64 q4) ∧ wr.cell? ⟨bQ, j2 * 6 + 5, none⟩ = some (Value.int .i64 q5) := by
                  rcases (show j2 = 0 ∨ j2 = 1 ∨ j2 = 2 by omega) with rfl | rfl | rfl
                  · exact ⟨n0, n1, n2, n3, n4, n5, ⟨(Blk.cell (H.at 10 rfl) _).trans rfl, (Blk.cell (H.at 10 rfl) _).trans rfl, (Blk.cell (H.at 10 rfl) _).trans rfl, (Blk.cell (H.at 10 rfl) _).trans rfl, (Blk.cell (H.at 10 rfl) _).trans rfl, (Blk.cell (H.at 10 rfl) _).trans rfl⟩⟩
                  · exact ⟨p0, p1, p2, p3, p4, p5, ⟨(Blk.cell (H.at 10 rfl) _).trans rfl, (Blk.cell (H.at 10 rfl) _).trans rfl, (Blk.cell (H.at 10 rfl) _).trans rfl, (Blk.cell (H.at 10 rfl) _).trans rfl, (Blk.cell (H.at 10 rfl) _).trans rfl, (Blk.cell (H.at 10 rfl) _).trans rfl⟩⟩
                  · exact ⟨0, 0, 0, 0, u9 - 1, 0, ⟨(Blk.cell (H.at 10 rfl) _).trans rfl, (Blk.cell (H.at 10 rfl) _).trans rfl, (Blk.cell (H.at 10 rfl) _).trans rfl, (Blk.cell (H.at 10 rfl) _).trans rfl, (Blk.cell (H.at 10 rfl) _).trans rfl, (Blk.cell (H.at 10 rfl) _).trans rfl⟩⟩
                obtain ⟨q0, q1, q2, q3, q4, q5, e0, e1, e2, e3, e4, e5⟩ := hq
                obtain ⟨g0, g1, g2, g3, g4, g5, gn, er2, gs, hg1, hsw, hqw⟩ := swap_both (a0 := z0) (a1 := z1) (a2 := z2) (a3 := z3) (a4 := z4) (a5 := z5) (n := zn) (sa := sz) hz1 hz2 q0 q1 q2 q3 q4 q5
                obtain ⟨lf, hsl, hql⟩ := left_both (a0 := z0) (a1 := z1) (a2 := z2) (a3 := z3) (a4 := z4) (a5 := z5) (n := zn) (sa := sz) hz1 hz2 q0 q1 q2 q3 q4 q5
                have HSW := Lib.hid hsw
                have HQW := Lib.hid hqw
                have HSL := Lib.hid hsl
                have HQL := Lib.hid hql
                have HSS := Lib.hid (fun w c1 d1 (sa sb : Option Addr) hl hm => qsame_of g0 g1 g2 g3 g4 g5 gn hg1 c1 d1 (sa := sa) (sb := sb) w hl hm)
                clear hsw hqw hsl hql
                go_upto_region 35 with fail
                generalize hwb : wr.alloc _ = w33
                replace H := HS.eqW hwb H.alloc
                try simp only [World.size_alloc, List.nil_append, List.cons_append, List.append_assoc] at H
                clear hwb
                generalize wr.heap.size = bq at H ⊢
                try clear C
                try clear wr
                have C := H.cells
                try simp only [cellsOf, apartOf, and_true] at C
                clear e0 e1 e2 e3 e4 e5
                go_wp2_with fail
                have hlz := (HZ.out _ (H.less (by repeat (first | exact .slnil | refine .cons_cons _ ?_ | refine .cons _ ?_))))
                refine (HSW.out _ hlz).mono ?_
                rintro _ w34 ⟨t1, v1, rfl, hr, hb⟩
                replace H := (H).getsRow hb hr
                clear hb hr
                try clear C
                try simp only [World.size_alloc, List.nil_append, List.cons_append, List.append_assoc] at H
                try clear w33
                have C := H.cells
                try simp only [cellsOf, apartOf, and_true] at C
                dsimp only
                go_upto_region 36 with fail
                generalize hwb : w34.alloc _ = w35
                replace H := HS.eqW hwb H.alloc
                try simp only [World.size_alloc, List.nil_append, List.cons_append, List.append_assoc] at H
                clear hwb
                generalize w34.heap.size = bu at H ⊢
                try clear C
                try clear w34
                have C := H.cells
                try simp only [cellsOf, apartOf, and_true] at C
                go_wp2_with fail
                have hlz := (HZ.out _ (H.less (by repeat (first | exact .slnil | refine .cons_cons _ ?_ | refine .cons _ ?_))))
                refine (HQW.out _ hlz).mono ?_
                rintro _ w36 ⟨t2, v2, rfl, hr, hb⟩
                replace H := (H).getsRow hb hr
                clear hb hr
                try clear C
                try simp only [World.size_alloc, List.nil_append, List.cons_append, List.append_assoc] at H
                try clear w35
                have C := H.cells
                try simp only [cellsOf, apartOf, and_true] at C
                dsimp only
                go_upto_region 37 with fail
                generalize hwb : w36.alloc _ = w37
                replace H := HS.eqW hwb H.alloc
                try simp only [World.size_alloc, List.nil_append, List.cons_append, List.append_assoc] at H
                clear hwb
                generalize w36.heap.size = bv at H ⊢
                try clear C
                try clear w36
                have C := H.cells
                try simp only [cellsOf, apartOf, and_true] at C
                clear hlz
                refine wp_region_xH (by kernel_rfl) (by kernel_rfl) (by kernel_rfl) (by kernel_rfl) (fun _ => False) (H) ?_
                clear H; intro w38 H hz0 hs0
                try clear C
                try simp only [World.size_alloc, List.nil_append, List.cons_append, List.append_assoc] at H hz0
                clear hz0
                try clear w37
                have C := H.cells
                try simp only [cellsOf, apartOf, and_true] at C
                have Z := H.zs
                try simp only [ltsOf, and_true] at Z
                have hz0 := Nat.le_refl w38.heap.size
                repeat (first | (refine wpX_skip rfl ?_; go_simp) | (refine wpX_free rfl rfl rfl (fun K hK => ?_); go_step; refine hK _ _ ?_; clear hK K) | (refine wpX_load rfl rfl rfl (by simp [Stay, OneD, NoD, *]) hs0 (by simp [*]) (fun K hK => ?_); go_step; refine hK _ _ ?_; clear hK K))
                refine wpX_eff rfl rfl (fun _ _ => ?_)
                go_step
                refine (HSS.out _ _ _ _ _ (H.rowLies 12 sC_len rfl rfl) (H.rowLies 14 sC_len rfl rfl)).mono ?_
                rintro _ w39 ⟨rfl, hb⟩
                replace hs0 := hs0.belowS hz0 hb
                replace hz0 := Nat.le_trans hz0 hb.size
                replace H := H.below hb
                clear hb
                try clear C
                have C := H.cells
                try simp only [cellsOf, apartOf, and_true] at C
                try clear w38
                dsimp only
                go_step
                refine ⟨hs0, ?_⟩
                repeat (first | (refine wpX_skip rfl ?_; go_simp) | (refine wpX_free rfl rfl rfl (fun K hK => ?_); go_step; refine hK _ _ ?_; clear hK K) | (refine wpX_load rfl rfl rfl (by simp [Stay, OneD, NoD, *]) hs0 (by simp [*]) (fun K hK => ?_); go_step; refine hK _ _ ?_; clear hK K))
                have hlz := (HZ.out _ (H.less (by repeat (first | exact .slnil | refine .cons_cons _ ?_ | refine .cons _ ?_))))
                refine wpX_eff rfl rfl (fun _ _ => ?_)
                go_step
                refine (HSL.out _ hlz).mono ?_
                rintro _ w40 ⟨rfl, hb⟩
                replace hs0 := hs0.belowS hz0 hb
                replace hz0 := Nat.le_trans hz0 hb.size
                replace H := H.below hb
                clear hb
                try clear C
                have C := H.cells
                try simp only [cellsOf, apartOf, and_true] at C
                try clear w39
                dsimp only
                go_step
                refine ⟨hs0, ?_⟩
                repeat (first | (refine wpX_skip rfl ?_; go_simp) | (refine wpX_free rfl rfl rfl (fun K hK => ?_); go_step; refine hK _ _ ?_; clear hK K) | (refine wpX_load rfl rfl rfl (by simp [Stay, OneD, NoD, *]) hs0 (by simp [*]) (fun K hK => ?_); go_step; refine hK _ _ ?_; clear hK K))
                have hlz := (HZ.out _ (H.less (by repeat (first | exact .slnil | refine .cons_cons _ ?_ | refine .cons _ ?_))))
                refine wpX_eff rfl rfl (fun _ _ => ?_)
                go_step
                refine (HQL.out _ hlz).mono ?_
                rintro _ w41 ⟨rfl, hb⟩
                replace hs0 := hs0.belowS hz0 hb
                replace hz0 := Nat.le_trans hz0 hb.size
                replace H := H.below hb
                clear hb
                try clear C
                have C := H.cells
                try simp only [cellsOf, apartOf, and_true] at C
                try clear w40
                dsimp only
                go_step
                refine ⟨hs0, ?_⟩
                repeat (first | (refine wpX_skip rfl ?_; go_simp) | (refine wpX_free rfl rfl rfl (fun K hK => ?_); go_step; refine hK _ _ ?_; clear hK K) | (refine wpX_load rfl rfl rfl (by simp [Stay, OneD, NoD, *]) hs0 (by simp [*]) (fun K hK => ?_); go_step; refine hK _ _ ?_; clear hK K))
                (refine wpX_nil ?_; go_step)
                go_wp2_with fail
                go_roundw
                case rel => exact ⟨j2 + 1, by go_num, by omega, H.less (by repeat (first | exact .slnil | refine .cons_cons _ ?_ | refine .cons _ ?_))⟩
                case measure => simp [intOf]; omega
              · skip
                try clear C
                try simp only [World.size_alloc, List.nil_append, List.cons_append, List.append_assoc] at H
                have C := H.cells
                try simp only [cellsOf, apartOf, and_true] at C
                go_upto_region 40 with fail
                go_wp2_with fail
                refine (HSZ.out _).mono ?_
                rintro _ w42 ⟨rfl, hb⟩
                replace H := H.below hb
                clear hb
                try clear C
                try simp only [World.size_alloc, List.nil_append, List.cons_append, List.append_assoc] at H
                try clear wr
                have C := H.cells
                try simp only [cellsOf, apartOf, and_true] at C
                dsimp only
                go_wp2_with fail
                refine (MI.out _).mono ?_
                rintro _ w43 ⟨rfl, hb⟩
                replace H := H.below hb
                clear hb
                try clear C
                try simp only [World.size_alloc, List.nil_append, List.cons_append, List.append_assoc] at H
                try clear w42
                have C := H.cells
                try simp only [cellsOf, apartOf, and_true] at C
                dsimp only
                go_wp2_with fail
                refine (next_any 64 (by omega) w.heap.size bd _ (H.at 2 rfl)).mono ?_
                rintro _ w44 ⟨u64, rfl, hu64, hd, hg⟩
                replace H := (H).diceAt 2 rfl hg hd
                clear hg hd
                try clear C
                try simp only [World.size_alloc, List.nil_append, List.cons_append, List.append_assoc] at H
                try clear w43
                have C := H.cells
                try simp only [cellsOf, apartOf, and_true] at C
                dsimp only
                go_upto_region 41 with fail
                generalize hwb : w44.alloc _ = w45
                replace H := HS.eqW hwb H.alloc
                try simp only [World.size_alloc, List.nil_append, List.cons_append, List.append_assoc] at H
                clear hwb
                generalize w44.heap.size = bI at H ⊢
                try clear C
                try clear w44
                have C := H.cells
                try simp only [cellsOf, apartOf, and_true] at C
                clear hu64
                go_loopw [256] (fun cc wr => ∃ (j : Nat), cc = .int .i64 j ∧ j ≤ 3 ∧ HS NoD w [.blk bW #[.int .i64 r0, .int .i64 r1, .int .i64 r2, .int .i64 r3, .int .i64 r4, .int .i64 r5, .int .i64 rn, .slice ra rs.length rc] 26, .blk bP #[.int .i64 p0, .int .i64 p1, .int .i64 p2, .int .i64 p3, .int .i64 p4, .int .i64 p5] 28, .dice w.heap.size bd, .row (.slice sx xs.length c) 38 8 xs.length (xs.flatMap sC), .blk bX #[.int .i64 s0, .int .i64 s1, .int .i64 s2, .int .i64 1, .int .i64 s4, .int .i64 2, .int .i64 n, .slice sx xs.length c] 26, .row (.slice sb ys.length d) 38 8 ys.length (ys.flatMap sC), .blk bY #[.int .i64 b0, .int .i64 b1, .int .i64 b2, .int .i64 b3, .int .i64 b4, .int .i64 b5, .int .i64 m, .slice sb ys.length d] 26, .blk bN #[.int .i64 n0, .int .i64 n1, .int .i64 n2, .int .i64 n3, .int .i64 n4, .int .i64 n5] 28, .blk bL #[.int .i64 s0, .int .i64 s1, .int .i64 s2, .int .i64 1, .int .i64 s4, .int .i64 2, .int .i64 n, .slice sx xs.length c, .int .i64 b0, .int .i64 b1, .int .i64 b2, .int .i64 b3, .int .i64 b4, .int .i64 b5, .int .i64 m, .slice sb ys.length d, .int .i64 r0, .int .i64 r1, .int .i64 r2, .int .i64 r3, .int .i64 r4, .int .i64 r5, .int .i64 rn, .slice ra rs.length rc] 26, .blk bZ #[.int .i64 z0, .int .i64 z1, .int .i64 z2, .int .i64 z3, .int .i64 z4, .int .i64 z5, .int .i64 zn, .slice sz zs.length cz] 26, .blk bI #[.int .i64 index, .int .i64 (ui - 1), .int .i64 u64] 3] wr) (fun cc _ => 3 - (intOf cc).toNat)
                case atStart => exact ⟨0, rfl, by omega, H.less (by repeat (first | exact .slnil | refine .cons_cons _ ?_ | refine .cons _ ?_))⟩
                case round =>
                  clear H C w45
                  obtain ⟨j3, rfl, hj3, H⟩ := hrel
                  skip
                  by_cases hlt3 : j3 < 3
                  · have hi : ∃ (v : Int), wr.cell? ⟨bI, j3, none⟩ = some (Value.int .i64 v) := by
                      rcases (show j3 = 0 ∨ j3 = 1 ∨ j3 = 2 by omega) with rfl | rfl | rfl
                      · exact ⟨_, (Blk.cell (H.at 10 rfl) _).trans rfl⟩
                      · exact ⟨_, (Blk.cell (H.at 10 rfl) _).trans rfl⟩
                      · exact ⟨_, (Blk.cell (H.at 10 rfl) _).trans rfl⟩
                    obtain ⟨v, e0⟩ := hi
                    obtain ⟨kk, ek, hst, hqt⟩ := turn_both (a0 := z0) (a1 := z1) (a2 := z2) (a3 := z3) (a4 := z4) (a5 := z5) (n := zn) (sa := sz) hz1 hz2 v
                    obtain ⟨rb, hsr, hqr⟩ := res_both (a0 := z0) (a1 := z1) (a2 := z2) (a3 := z3) (a4 := z4) (a5 := z5) (n := zn) (sa := sz) hz1 hz2 v
                    have HST := Lib.hid hst
                    have HQT := Lib.hid hqt
                    have HSR := Lib.hid hsr
                    have HQR := Lib.hid hqr
                    clear hst hqt hsr hqr
                    go_upto_region 43 with fail
                    try clear C
                    try simp only [World.size_alloc, List.nil_append, List.cons_append, List.append_assoc] at H
                    have C := H.cells
                    try simp only [cellsOf, apartOf, and_true] at C
                    clear e0
                    go_wp2_with fail
                    have hlz := (HZ.out _ (H.less (by repeat (first | exact .slnil | refine .cons_cons _ ?_ | refine .cons _ ?_))))
                    refine (HST.out _ hlz).mono ?_
                    rintro _ w46 ⟨rfl, hb⟩
                    replace H := H.below hb
                    clear hb
                    try clear C
                    try simp only [World.size_alloc, List.nil_append, List.cons_append, List.append_assoc] at H
                    try clear wr
                    have C := H.cells
                    try simp only [cellsOf, apartOf, and_true] at C
                    dsimp only
                    go_wp2_with fail
                    have hlz := (HZ.out _ (H.less (by repeat (first | exact .slnil | refine .cons_cons _ ?_ | refine .cons _ ?_))))
                    refine (HQT.out _ hlz).mono ?_
                    rintro _ w47 ⟨rfl, hb⟩
                    replace H := H.below hb
                    clear hb
                    try clear C
                    try simp only [World.size_alloc, List.nil_append, List.cons_append, List.append_assoc] at H
                    try clear w46
                    have C := H.cells
                    try simp only [cellsOf, apartOf, and_true] at C
                    dsimp only
                    go_upto_region 45 with fail
                    clear hlz
                    refine wp_region_xH (by kernel_rfl) (by kernel_rfl) (by kernel_rfl) (by kernel_rfl) (fun _ => False) (H) ?_
                    clear H; intro w48 H hz0 hs0
                    try clear C
                    try simp only [World.size_alloc, List.nil_append, List.cons_append, List.append_assoc] at H hz0
                    clear hz0
                    try clear w47
                    have C := H.cells
                    try simp only [cellsOf, apartOf, and_true] at C
                    have Z := H.zs
                    try simp only [ltsOf, and_true] at Z
                    have hz0 := Nat.le_refl w48.heap.size
                    repeat (first | (refine wpX_skip rfl ?_; go_simp) | (refine wpX_free rfl rfl rfl (fun K hK => ?_); go_step; refine hK _ _ ?_; clear hK K) | (refine wpX_load rfl rfl rfl (by simp [Stay, OneD, NoD, *]) hs0 (by simp [*]) (fun K hK => ?_); go_step; refine hK _ _ ?_; clear hK K))
                    have hlz := (HZ.out _ (H.less (by repeat (first | exact .slnil | refine .cons_cons _ ?_ | refine .cons _ ?_))))
                    refine wpX_eff rfl rfl (fun _ _ => ?_)
                    go_step
                    refine (HSR.out _ hlz).mono ?_
                    rintro _ w49 ⟨rfl, hb⟩
                    replace hs0 := hs0.belowS hz0 hb
                    replace hz0 := Nat.le_trans hz0 hb.size
                    replace H := H.below hb
                    clear hb
                    try clear C
                    have C := H.cells
                    try simp only [cellsOf, apartOf, and_true] at C
                    try clear w48
                    dsimp only
                    go_step
                    refine ⟨hs0, ?_⟩
                    repeat (first | (refine wpX_skip rfl ?_; go_simp) | (refine wpX_free rfl rfl rfl (fun K hK => ?_); go_step; refine hK _ _ ?_; clear hK K) | (refine wpX_load rfl rfl rfl (by simp [Stay, OneD, NoD, *]) hs0 (by simp [*]) (fun K hK => ?_); go_step; refine hK _ _ ?_; clear hK K))
                    have hlz := (HZ.out _ (H.less (by repeat (first | exact .slnil | refine .cons_cons _ ?_ | refine .cons _ ?_))))
                    refine wpX_eff rfl rfl (fun _ _ => ?_)
                    go_step
                    refine (HQR.out _ hlz).mono ?_
                    rintro _ w50 ⟨rfl, hb⟩
                    replace hs0 := hs0.belowS hz0 hb
                    replace hz0 := Nat.le_trans hz0 hb.size
                    replace H := H.below hb
                    clear hb
                    try clear C
                    have C := H.cells
                    try simp only [cellsOf, apartOf, and_true] at C
                    try clear w49
                    dsimp only
                    go_step
                    refine ⟨hs0, ?_⟩
                    repeat (first | (refine wpX_skip rfl ?_; go_simp) | (refine wpX_free rfl rfl rfl (fun K hK => ?_); go_step; refine hK _ _ ?_; clear hK K) | (refine wpX_load rfl rfl rfl (by simp [Stay, OneD, NoD, *]) hs0 (by simp [*]) (fun K hK => ?_); go_step; refine hK _ _ ?_; clear hK K))
                    (refine wpX_nil ?_; go_step)
                    go_wp2_with fail
                    go_roundw
                    case rel => exact ⟨j3 + 1, by go_num, by omega, H.less (by repeat (first | exact .slnil | refine .cons_cons _ ?_ | refine .cons _ ?_))⟩
                    case measure => simp [intOf]; omega
                  · skip
                    go_wp2_with fail
                    go_roundw
                    case rel => exact ⟨j + 1, by go_num, by omega, H.less (by repeat (first | exact .slnil | refine .cons_cons _ ?_ | refine .cons _ ?_))⟩
                    case measure => simp [intOf]; omega
          · skip
            go_wp2_with fail
            refine (HAW.out _).mono ?_
            rintro _ w51 ⟨rfl, hb⟩
            replace H := H.below hb
            clear hb
            try clear C
            try simp only [World.size_alloc, List.nil_append, List.cons_append, List.append_assoc] at H
            try clear wr
            have C := H.cells
            try simp only [cellsOf, apartOf, and_true] at C
            dsimp only
            go_wp2_with fail
            go_ret
            exact ⟨rfl, H.done⟩
    · rw [decide_eq_false h400] at hli
      have HLI := Lib.hid hli
      clear hli
      go_enter Try.func3, Try.ntmps3
      have H := HS.start NoD w
      have h30i : ¬ (30 : Int) < (rs.length : Int) := by omega
      go_upto_region 1 with fail
      generalize hwb : (w.alloc _).alloc _ = w1
      replace H := HS.eqW hwb H.alloc.alloc
      try simp only [World.size_alloc, List.nil_append, List.cons_append, List.append_assoc] at H
      clear hwb
      generalize w.heap.size + 1 = bP at H ⊢
      generalize w.heap.size = bW at H ⊢
      try clear C
      have C := H.cells
      try simp only [cellsOf, apartOf, and_true] at C
      go_wp2_with fail
      refine (gives_of (HLI.out _)).mono ?_
      rintro _ w2 ⟨rfl, hb⟩
      replace H := H.below hb
      clear hb
      try clear C
      try simp only [World.size_alloc, List.nil_append, List.cons_append, List.append_assoc] at H
      try clear w1
      have C := H.cells
      try simp only [cellsOf, apartOf, and_true] at C
      dsimp only
      go_wp2_with fail
      refine (HAW.out _).mono ?_
      rintro _ w3 ⟨rfl, hb⟩
      replace H := H.below hb
      clear hb
      try clear C
      try simp only [World.size_alloc, List.nil_append, List.cons_append, List.append_assoc] at H
      try clear w2
      have C := H.cells
      try simp only [cellsOf, apartOf, and_true] at C
      dsimp only
      go_wp2_with fail
      go_ret
      exact ⟨rfl, H.done⟩
  · go_enter Try.func3, Try.ntmps3
    have H := HS.start NoD w
    have h30i : (30 : Int) < (rs.length : Int) := by omega
    go_upto_region 1 with fail
    generalize hwb : (w.alloc _).alloc _ = w1
    replace H := HS.eqW hwb H.alloc.alloc
    try simp only [World.size_alloc, List.nil_append, List.cons_append, List.append_assoc] at H
    clear hwb
    generalize w.heap.size + 1 = bP at H ⊢
    generalize w.heap.size = bW at H ⊢
    try clear C
    have C := H.cells
    try simp only [cellsOf, apartOf, and_true] at C
    go_wp2_with fail
    refine (HAW.out _).mono ?_
    rintro _ w2 ⟨rfl, hb⟩
    replace H := H.below hb
    clear hb
    try clear C
    try simp only [World.size_alloc, List.nil_append, List.cons_append, List.append_assoc] at H
    try clear w1
    have C := H.cells
    try simp only [cellsOf, apartOf, and_true] at C
    dsimp only
    go_wp2_with fail
    go_ret
    exact ⟨rfl, H.done⟩
end Go.Proofs.Ytcacgmfihhpliaa
