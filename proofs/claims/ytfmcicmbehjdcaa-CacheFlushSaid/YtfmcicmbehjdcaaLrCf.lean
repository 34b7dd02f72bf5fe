/- The statement CacheFlush: its walk. -/
import Derived.Test.YtfmcicmbehjdcaaLrX
import Derived.Test.YtfmcicmbehjdcaaLrPf
import Derived.Test.YtfmcicmbehjdcaaLrZ
namespace Go.Proofs.Ytfmcicmbehjdcaa
set_option linter.unusedSimpArgs false
set_option linter.unusedVariables false
open Go.RowKit
set_option maxRecDepth 100000
attribute [local irreducible] wpX wpF Calls

theorem LinesAt.len {w : World} {x : Sv} {ms : List Lm} (h : LinesAt w x ms) : x.n = ms.length := by
  obtain ⟨qs, h1, h2, -⟩ := h
  rw [h2, ← h1, List.length_map]
set_option maxHeartbeats 64000000 in
theorem cflush_walk (sa : Option Addr) (len cap : Nat) (hl : len ≤ maxLen) (w : World) (hI : Ints w sa len) :
    Calls Try.prog 6 #[.slice sa len cap] w (Gives (.bool true) w) := by
  have HI := Lib.hid hI
  clear hI
  have hli := light_any sa len cap hl
  clear hl
  have HAW := Lib.hid awake31_any
  by_cases h400 : len ≤ 400
  · rw [decide_eq_true h400] at hli
    have HLI := Lib.hid hli
    clear hli
    go_enter Try.func6, Try.ntmps6
    have H := HS.start NoD w
    go_wp2_with fail
    refine (gives_of31 (HLI.out _)).mono ?_
    rintro _ w1 ⟨rfl, hb⟩
    replace H := H.below hb
    clear hb
    try clear C
    try simp only [World.size_alloc, List.nil_append, List.cons_append, List.append_assoc] at H
    have C := H.cells
    try simp only [cellsOf, cellsM, apartOf, apartM, and_true] at C
    dsimp only
    go_wp2_with fail
    refine (roll_at w.heap.size _ _ _ h400 _ H.size (H.ints HI.out)).mono ?_
    rintro _ w2 ⟨bd, rfl, hd, hb, hbb⟩
    replace H := H.getsDice hb hd hbb (Nat.le_refl _)
    clear hb hd hbb
    try clear C
    try simp only [World.size_alloc, List.nil_append, List.cons_append, List.append_assoc] at H
    try clear w1
    have C := H.cells
    try simp only [cellsOf, cellsM, apartOf, apartM, and_true] at C
    dsimp only
    go_wp2_with fail
    refine (mcacheA_f w.heap.size bd _ (H.at 0 rfl) H.size).mono ?_
    rintro _ w41 ⟨S, W, z, l, ⟨sc, nc, cc⟩, Fc, hS3, hz1, hz3, hg, rfl, K⟩
    replace H := H.joinDice 0 rfl K (one_low rfl)
    clear K
    try simp only [List.nil_append, List.cons_append] at H
    skip
    try clear C
    try simp only [World.size_alloc, List.nil_append, List.cons_append, List.append_assoc] at H
    have C := H.cells
    try simp only [cellsOf, cellsM, apartOf, apartM, and_true] at C
    dsimp only [caV, lnV]
    have HG := Lib.hid hg.1
    have HGA := Lib.hid hg
    have HGF := Lib.hid hg.1.flush
    clear hS3 hz1 hz3 hg
    go_upto_region 4 with fail
    generalize hwb : w41.alloc _ = w3
    replace H := HS.eqW hwb H.alloc
    try simp only [World.size_alloc, List.nil_append, List.cons_append, List.append_assoc] at H
    clear hwb
    generalize w41.heap.size = b3 at H ⊢
    try clear C
    try clear w41
    have C := H.cells
    try simp only [cellsOf, cellsM, apartOf, apartM, and_true] at C
    go_wp2_with fail
    refine (cflush_f S W z ⟨sc, nc, cc⟩ l HG.out.small _ (H.says 1 rfl)).mono ?_
    rintro _ w42 ⟨⟨sf, nf, cf⟩, Ff, rfl, K⟩
    replace H := H.join K (one_low rfl)
    clear K
    try simp only [List.nil_append, List.cons_append] at H
    skip
    try clear C
    try simp only [World.size_alloc, List.nil_append, List.cons_append, List.append_assoc] at H
    have C := H.cells
    try simp only [cellsOf, cellsM, apartOf, apartM, and_true] at C
    dsimp only [caV, lnV]
    go_upto_region 5 with fail
    generalize hwb : w42.alloc _ = w4
    replace H := HS.eqW hwb H.alloc
    try simp only [World.size_alloc, List.nil_append, List.cons_append, List.append_assoc] at H
    clear hwb
    generalize w42.heap.size = b4 at H ⊢
    try clear C
    try clear w42
    have C := H.cells
    try simp only [cellsOf, cellsM, apartOf, apartM, and_true] at C
    go_wp2_with fail
    refine (cdirty_f S W z ⟨sc, nc, cc⟩ l HG.out.small _ (H.says 1 rfl)).mono ?_
    rintro _ w43 ⟨ms, ⟨ma, mn, mc⟩, Fm, hm, rfl, K⟩
    replace H := H.join K (one_low rfl)
    clear K
    try simp only [List.nil_append, List.cons_append] at H
    skip
    try clear C
    try simp only [World.size_alloc, List.nil_append, List.cons_append, List.append_assoc] at H
    have C := H.cells
    try simp only [cellsOf, cellsM, apartOf, apartM, and_true] at C
    dsimp only [caV, lnV]
    have HM := Lib.hid hm
    have hmn : mn = ms.length := (H.says 5 rfl).len
    have hm32 : mn ≤ 32 := by rw [hmn]; exact dirty_len HG.out hm
    have HUP := Lib.hid (HG.out.dirty_up hm)
    have HMN := Lib.hid hmn
    have HM32 := Lib.hid hm32
    clear hm hmn hm32
    have H9 := HS.less (L' := [.any Fc (fun w => SlotsAt w ⟨sc, nc, cc⟩ l), .blk b3 #[.int .i64 S, .int .i64 W, .int .i64 z, .slice sc nc cc] 24, .any Ff (fun w => SlotsAt w ⟨sf, nf, cf⟩ (flushL l)), .blk b4 #[.int .i64 S, .int .i64 W, .int .i64 z, .slice sf nf cf] 24, .any Fm (fun w => LinesAt w ⟨ma, mn, mc⟩ ms)]) H (by repeat (first | exact .slnil | refine .cons_cons _ ?_ | refine .cons _ ?_))
    clear H C
    have H := H9
    clear H9
    try clear C
    try simp only [World.size_alloc, List.nil_append, List.cons_append, List.append_assoc] at H
    have C := H.cells
    try simp only [cellsOf, cellsM, apartOf, apartM, and_true] at C
    go_wp2_with fail
    go_loopw [6] (fun ii wr => ∃ (i : Nat), ii = .int .i64 i ∧ 1 ≤ i ∧ i ≤ mn + 1 ∧ HS NoD w [.any Fc (fun w => SlotsAt w ⟨sc, nc, cc⟩ l), .blk b3 #[.int .i64 S, .int .i64 W, .int .i64 z, .slice sc nc cc] 24, .any Ff (fun w => SlotsAt w ⟨sf, nf, cf⟩ (flushL l)), .blk b4 #[.int .i64 S, .int .i64 W, .int .i64 z, .slice sf nf cf] 24, .any Fm (fun w => LinesAt w ⟨ma, mn, mc⟩ ms)] wr) (fun ii _ => mn + 1 - (intOf ii).toNat)
    case atStart => exact ⟨1, rfl, by omega, by omega, H⟩
    case round =>
      clear H C
      obtain ⟨i, rfl, hi1, hi, H⟩ := hrel
      skip
      try clear C
      try simp only [World.size_alloc, List.nil_append, List.cons_append, List.append_assoc] at H
      have C := H.cells
      try simp only [cellsOf, cellsM, apartOf, apartM, and_true] at C
      by_cases hlt : i < mn
      · have HLT := Lib.hid hlt
        obtain ⟨t, rfl⟩ : ∃ t, i = t + 1 := ⟨i - 1, by omega⟩
        have hb32 := HM32.out
        have hti : (t : Int) + 1 < mn := by omega
        have hti2 : (t : Int) < mn := by omega
        have hmi : (mn : Int) ≤ 32 := by omega
        clear hi1 hi hb32
        go_upto_region 9 with fail
        refine wp_region_xH (by kernel_rfl) (by kernel_rfl) (by kernel_rfl) (by kernel_rfl) (fun _ => False) (H) ?_
        clear H; intro w5 H hz0 hs0
        try clear C
        try simp only [World.size_alloc, List.nil_append, List.cons_append, List.append_assoc] at H hz0
        clear hz0
        try clear wr
        have C := H.cells
        try simp only [cellsOf, cellsM, apartOf, apartM, and_true] at C
        have Z := H.zs
        try simp only [ltsOf, ltsM, and_true] at Z
        have hz0 := Nat.le_refl w5.heap.size
        obtain ⟨qs, hq, hn, -, hls, -⟩ := H.says 4 rfl
        dsimp only at hn hls
        have hstrict : (qs[t]!).1.ad < (qs[t + 1]!).1.ad := by
          have h0 := HUP.out
          rw [← hq] at h0
          have h1 := List.pairwise_iff_getElem.1 (List.pairwise_map.1 h0) t (t + 1) (by omega) (by omega) (by omega)
          rw [getElem!_pos qs t (by omega), getElem!_pos qs (t + 1) (by omega)]
          exact h1
        obtain ⟨g, o, e1, hgb, hc⟩ := hls.at (j := t) (by omega)
        obtain ⟨g', o', e2, hgb', hd⟩ := hls.at (j := t + 1) (by omega)
        rw [e1] at e2
        obtain ⟨rfl, rfl⟩ : g = g' ∧ o = o' := by simpa using e2
        clear hls hq hn e2 hgb'
        subst e1
        have k0 : w5.cell? ⟨g, o + t * 4, none⟩ = some (.int .i64 (qs[t]!).1.ad) := hc 0 _ rfl
        have k1 : w5.cell? ⟨g, o + (t + 1) * 4, none⟩ = some (.int .i64 (qs[t + 1]!).1.ad) := hd 0 _ rfl
        clear hc hd
        generalize (qs[t]!).1.ad = a0 at hstrict k0
        generalize (qs[t + 1]!).1.ad = a1 at hstrict k1
        have hnle : ¬ a1 ≤ a0 := by omega
        repeat (first | (refine wpX_skip rfl ?_; go_simp) | (refine wpX_free rfl rfl rfl (fun K hK => ?_); go_step; refine hK _ _ ?_; clear hK K) | (refine wpX_load rfl rfl rfl (by simp [Stay, OneD, NoD, *]) hs0 (by simp [*]) (fun K hK => ?_); go_step; refine hK _ _ ?_; clear hK K))
        (refine wpX_nil ?_; go_step)
        clear k0 k1
        go_wp2_with fail
        go_roundw
        case rel => exact ⟨t + 2, by go_num, by omega, by have := HLT.out; omega, H⟩
        case measure => simp [intOf]; have := HLT.out; omega
      · have hge : ¬ ((i : Int) < mn) := by omega
        skip
        clear hi hlt hi1
        have HC0 := Lib.hid (show cntA ((0 : Nat) : Int) ms = 0 from cntA_zero fun m hm => (dirty_in HGA.out HM.out m hm).1)
        go_wp2_with fail
        go_loopw [7, 44] (fun nn kk wr => ∃ (k n : Nat), kk = .int .i64 k ∧ nn = .int .i64 n ∧ k ≤ 14 ∧ n ≤ k ∧ Hid (n = cntA (k : Int) ms) ∧ HS NoD w [.any Fc (fun w => SlotsAt w ⟨sc, nc, cc⟩ l), .blk b3 #[.int .i64 S, .int .i64 W, .int .i64 z, .slice sc nc cc] 24, .any Ff (fun w => SlotsAt w ⟨sf, nf, cf⟩ (flushL l)), .blk b4 #[.int .i64 S, .int .i64 W, .int .i64 z, .slice sf nf cf] 24, .any Fm (fun w => LinesAt w ⟨ma, mn, mc⟩ ms)] wr) (fun _ kk _ => 14 - (intOf kk).toNat)
        case atStart => exact ⟨0, 0, rfl, rfl, by omega, by omega, (show Hid _ from HC0.out.symm), H⟩
        case round =>
          clear H C hge
          try clear i
          obtain ⟨k, n, rfl, rfl, hk, hnk, HNN, H⟩ := hrel
          skip
          try clear C
          try simp only [World.size_alloc, List.nil_append, List.cons_append, List.append_assoc] at H
          have C := H.cells
          try simp only [cellsOf, cellsM, apartOf, apartM, and_true] at C
          by_cases hlt : k < 14
          · have HLT := Lib.hid hlt
            have hki : (k : Int) < 14 := by omega
            have hni : (n : Int) ≤ k := by omega
            go_upto_region 15 with fail
            go_wp2_with fail
            refine (cget_f HG.out ⟨sc, nc, cc⟩ (k : Int) _ (H.says 0 rfl)).mono ?_
            rintro _ w44 ⟨⟨lU, ⟨ad, bs, d, p⟩, fU⟩, ⟨saU, naU, caU⟩, ⟨yaU, ynU, ycU⟩, FU, hU, rfl, K⟩
            replace H := H.join K (one_low rfl)
            clear K
            try simp only [List.nil_append, List.cons_append] at H
            skip
            try clear C
            try simp only [World.size_alloc, List.nil_append, List.cons_append, List.append_assoc] at H
            have C := H.cells
            try simp only [cellsOf, cellsM, apartOf, apartM, and_true] at C
            dsimp only [caV, lnV]
            go_upto_region 16 with fail
            generalize hwb : (w44.alloc _).alloc _ = w6
            replace H := HS.eqW hwb H.alloc.alloc
            try simp only [World.size_alloc, List.nil_append, List.cons_append, List.append_assoc] at H
            clear hwb
            generalize w44.heap.size + 1 = b10 at H ⊢
            generalize w44.heap.size = b9 at H ⊢
            try clear C
            try clear w44
            have C := H.cells
            try simp only [cellsOf, cellsM, apartOf, apartM, and_true] at C
            go_wp2_with fail
            refine (cget_f HGF.out ⟨sf, nf, cf⟩ (k : Int) _ (H.says 2 rfl)).mono ?_
            rintro _ w45 ⟨⟨lG, vG, fG⟩, ⟨saG, naG, caG⟩, ⟨yaG, ynG, ycG⟩, FG, hG, rfl, K⟩
            obtain ⟨eF, eV⟩ := get_flush HG.out hU hG
            replace eF : fG = fU := eF
            replace eV : vG = ⟨ad, bs, false, p⟩ := eV
            subst eF eV
            clear hG
            replace H := H.join K (one_low rfl)
            clear K
            try simp only [List.nil_append, List.cons_append] at H
            skip
            try clear C
            try simp only [World.size_alloc, List.nil_append, List.cons_append, List.append_assoc] at H
            have C := H.cells
            try simp only [cellsOf, cellsM, apartOf, apartM, and_true] at C
            dsimp only [caV, lnV]
            have HCN := Lib.hid (show cntA ((k + 1 : Nat) : Int) ms = cntA (k : Int) ms + (if fG && d then 1 else 0) from by
              have := cntA_dirty HG.out HM.out hU
              rw [show ((k + 1 : Nat) : Int) = (k : Int) + 1 by push_cast; rfl]
              exact this)
            clear hU
            go_upto_region 17 with fail
            generalize hwb : (w45.alloc _).alloc _ = w7
            replace H := HS.eqW hwb H.alloc.alloc
            try simp only [World.size_alloc, List.nil_append, List.cons_append, List.append_assoc] at H
            clear hwb
            generalize w45.heap.size + 1 = b13 at H ⊢
            generalize w45.heap.size = b12 at H ⊢
            try clear C
            try clear w45
            have C := H.cells
            try simp only [cellsOf, cellsM, apartOf, apartM, and_true] at C
            have hs1 := str_atL (H.says 5 rfl).2
            have hs2 := str_atL (H.says 8 rfl).2
            dsimp only at hs1 hs2
            generalize strOfNums bs = st at hs1 hs2
            have hff : (fG != fG) = false := by cases fG <;> rfl
            have hpp : (p != p) = false := by cases p <;> rfl
            skip
            cases fG
            case false =>
              replace HCN : Hid (cntA ((k + 1 : Nat) : Int) ms = cntA (k : Int) ms) := HCN
              go_wp2_with fail
              go_roundw
              case rel => exact ⟨k + 1, n, by go_num, by go_num, by have := HLT.out; omega, by omega, (show Hid _ by rw [HCN.out, ← HNN.out]; rfl), HS.less H (by repeat (first | exact .slnil | refine .cons_cons _ ?_ | refine .cons _ ?_))⟩
              case measure => simp [intOf]; have := HLT.out; omega
            case true =>
              cases d
              case false =>
                replace HCN : Hid (cntA ((k + 1 : Nat) : Int) ms = cntA (k : Int) ms) := HCN
                skip
                go_wp2_with fail
                go_roundw
                case rel => exact ⟨k + 1, n, by go_num, by go_num, by have := HLT.out; omega, by omega, (show Hid _ by rw [HCN.out, ← HNN.out]; rfl), HS.less H (by repeat (first | exact .slnil | refine .cons_cons _ ?_ | refine .cons _ ?_))⟩
                case measure => simp [intOf]; have := HLT.out; omega
              case true =>
                replace HCN : Hid (cntA ((k + 1 : Nat) : Int) ms = cntA (k : Int) ms + 1) := HCN
                skip
                go_wp2_with fail
                go_roundw
                case rel => exact ⟨k + 1, n + 1, by go_num, by go_num, by have := HLT.out; omega, by omega, (show Hid _ by rw [HCN.out, ← HNN.out]; rfl), HS.less H (by repeat (first | exact .slnil | refine .cons_cons _ ?_ | refine .cons _ ?_))⟩
                case measure => simp [intOf]; have := HLT.out; omega
          · obtain rfl : k = 14 := by omega
            skip
            have hnm : n = mn := by
              rw [HNN.out, HMN.out]
              exact cntA_all fun m hm => (dirty_in HGA.out HM.out m hm).2
            subst hnm
            clear hlt hk hnk
            go_wp2_with fail
            refine (cdirty_f S W z ⟨sf, nf, cf⟩ (flushL l) HGF.out.small _ (H.says 2 rfl)).mono ?_
            rintro _ w46 ⟨ms3, ⟨ma3, mn3, mc3⟩, Fm3, hm3, rfl, K⟩
            replace H := H.join K (one_low rfl)
            clear K
            try simp only [List.nil_append, List.cons_append] at H
            skip
            try clear C
            try simp only [World.size_alloc, List.nil_append, List.cons_append, List.append_assoc] at H
            have C := H.cells
            try simp only [cellsOf, cellsM, apartOf, apartM, and_true] at C
            dsimp only [caV, lnV]
            obtain rfl := dirtyR_flush hm3
            have hmn3 : mn3 = 0 := (H.says 5 rfl).len
            subst hmn3
            clear hm3
            go_wp2_with fail
            refine (cvalid_f HGF.out ⟨sf, nf, cf⟩ _ (H.says 2 rfl)).mono ?_
            rintro _ w8 ⟨rfl, hb⟩
            replace H := H.below hb
            clear hb
            try clear C
            try simp only [World.size_alloc, List.nil_append, List.cons_append, List.append_assoc] at H
            try clear w46
            have C := H.cells
            try simp only [cellsOf, cellsM, apartOf, apartM, and_true] at C
            dsimp only
            go_wp2_with fail
            refine (HAW.out _).mono ?_
            rintro _ w9 ⟨rfl, hb⟩
            replace H := H.below hb
            clear hb
            try clear C
            try simp only [World.size_alloc, List.nil_append, List.cons_append, List.append_assoc] at H
            try clear w8
            have C := H.cells
            try simp only [cellsOf, cellsM, apartOf, apartM, and_true] at C
            dsimp only
            go_wp2_with fail
            go_ret
            exact ⟨rfl, H.done⟩
  · rw [decide_eq_false h400] at hli
    have HLI := Lib.hid hli
    clear hli
    go_enter Try.func6, Try.ntmps6
    have H := HS.start NoD w
    go_wp2_with fail
    refine (gives_of31 (HLI.out _)).mono ?_
    rintro _ w1 ⟨rfl, hb⟩
    replace H := H.below hb
    clear hb
    try clear C
    try simp only [World.size_alloc, List.nil_append, List.cons_append, List.append_assoc] at H
    have C := H.cells
    try simp only [cellsOf, cellsM, apartOf, apartM, and_true] at C
    dsimp only
    go_wp2_with fail
    refine (HAW.out _).mono ?_
    rintro _ w2 ⟨rfl, hb⟩
    replace H := H.below hb
    clear hb
    try clear C
    try simp only [World.size_alloc, List.nil_append, List.cons_append, List.append_assoc] at H
    try clear w1
    have C := H.cells
    try simp only [cellsOf, cellsM, apartOf, apartM, and_true] at C
    dsimp only
    go_wp2_with fail
    go_ret
    exact ⟨rfl, H.done⟩
end Go.Proofs.Ytfmcicmbehjdcaa
