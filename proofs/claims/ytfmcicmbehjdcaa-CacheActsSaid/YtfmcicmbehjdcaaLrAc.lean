/- The statement CacheActs: its walk. -/
import Derived.Test.YtfmcicmbehjdcaaLrX
import Derived.Test.YtfmcicmbehjdcaaLrPl
import Derived.Test.YtfmcicmbehjdcaaLrZ
namespace Go.Proofs.Ytfmcicmbehjdcaa
set_option linter.unusedSimpArgs false
set_option linter.unusedVariables false
open Go.RowKit
set_option maxRecDepth 100000
attribute [local irreducible] wpX wpF Calls

set_option maxHeartbeats 64000000 in
theorem cacts_walk (sa : Option Addr) (len cap : Nat) (hl : len ≤ maxLen) (m : Lm) (y : Sv) (a : Int) (w : World) (hI : Ints w sa len) (hy : BytesAt w y m.bs) :
    Calls Try.prog 7 #[.slice sa len cap, lnV m y, .int .i64 a] w (Gives (.bool true) w) := by
  have HI := Lib.hid hI
  clear hI
  have hli := light_any sa len cap hl
  clear hl
  have HAW := Lib.hid awake31_any
  obtain ⟨ad, bs, d, p⟩ := m
  obtain ⟨xa, xn, xc⟩ := y
  have HY := Lib.hid (show BytesAt w ⟨xa, xn, xc⟩ bs from hy)
  have hxn : xn = bs.length := hy.len
  have HXN := Lib.hid hxn
  clear hy hxn
  show Calls Try.prog 7 #[.slice sa len cap, .agg #[.int .i64 ad, .slice xa xn xc, .bool d, .bool p], .int .i64 a] w _
  by_cases h400 : len ≤ 400
  · rw [decide_eq_true h400] at hli
    have HLI := Lib.hid hli
    clear hli
    by_cases h100 : xn ≤ 100
    · have h100i : (xn : Int) ≤ 100 := by omega
      have HB0 := Lib.hid (show bs.length ≤ 1000 by have := HXN.out; omega)
      go_enter Try.func7, Try.ntmps7
      have H := HS.start NoD w
      go_upto_region 1 with fail
      generalize hwb : w.alloc _ = w1
      replace H := HS.eqW hwb H.alloc
      try simp only [World.size_alloc, List.nil_append, List.cons_append, List.append_assoc] at H
      clear hwb
      generalize w.heap.size = b4 at H ⊢
      try clear C
      have C := H.cells
      try simp only [cellsOf, cellsM, apartOf, apartM, and_true] at C
      go_wp2_with fail
      refine (gives_of31 (HLI.out _)).mono ?_
      rintro _ w2 ⟨rfl, hb⟩
      replace H := H.below hb
      clear hb
      try clear C
      try simp only [World.size_alloc, List.nil_append, List.cons_append, List.append_assoc] at H
      try clear w1
      have C := H.cells
      try simp only [cellsOf, cellsM, apartOf, apartM, and_true] at C
      dsimp only
      go_wp2_with fail
      refine (roll_at w.heap.size _ _ _ h400 _ H.size (H.ints HI.out)).mono ?_
      rintro _ w3 ⟨bd, rfl, hd, hb, hbb⟩
      replace H := H.getsDice hb hd hbb (Nat.le_refl _)
      clear hb hd hbb
      try clear C
      try simp only [World.size_alloc, List.nil_append, List.cons_append, List.append_assoc] at H
      try clear w2
      have C := H.cells
      try simp only [cellsOf, cellsM, apartOf, apartM, and_true] at C
      dsimp only
      go_wp2_with fail
      refine (mcache_f w.heap.size bd _ (H.at 1 rfl) H.size).mono ?_
      rintro _ w41 ⟨S, W, z, l, ⟨sc, nc, cc⟩, Fc, hS3, hz1, hz3, hg, rfl, K⟩
      replace H := H.joinDice 1 rfl K (one_low rfl)
      clear K
      try simp only [List.nil_append, List.cons_append] at H
      skip
      try clear C
      try simp only [World.size_alloc, List.nil_append, List.cons_append, List.append_assoc] at H
      have C := H.cells
      try simp only [cellsOf, cellsM, apartOf, apartM, and_true] at C
      dsimp only [caV, lnV]
      have HG := Lib.hid hg
      have HZ := Lib.hid (show 1 ≤ z ∧ z ≤ 3 from ⟨hz1, hz3⟩)
      clear hS3 hz1 hz3 hg
      go_upto_region 5 with fail
      generalize hwb : w41.alloc _ = w4
      replace H := HS.eqW hwb H.alloc
      try simp only [World.size_alloc, List.nil_append, List.cons_append, List.append_assoc] at H
      clear hwb
      generalize w41.heap.size = b8 at H ⊢
      try clear C
      try clear w41
      have C := H.cells
      try simp only [cellsOf, cellsM, apartOf, apartM, and_true] at C
      have HM := Lib.hid (fun w => gives_of31 (mod_any a 14 w))
      generalize modF a 14 = mk at HM
      go_wp2_with fail
      refine (HM.out _).mono ?_
      rintro _ w5 ⟨rfl, hb⟩
      replace H := H.below hb
      clear hb
      try clear C
      try simp only [World.size_alloc, List.nil_append, List.cons_append, List.append_assoc] at H
      try clear w4
      have C := H.cells
      try simp only [cellsOf, cellsM, apartOf, apartM, and_true] at C
      dsimp only
      clear HM
      go_wp2_with fail
      refine (next_any 14 (by omega) w.heap.size bd _ (H.at 1 rfl)).mono ?_
      rintro _ w6 ⟨v0, rfl, hv0, hd, hg⟩
      replace H := (H).diceAt 1 rfl hg hd
      clear hg hd
      try clear C
      try simp only [World.size_alloc, List.nil_append, List.cons_append, List.append_assoc] at H
      try clear w5
      have C := H.cells
      try simp only [cellsOf, cellsM, apartOf, apartM, and_true] at C
      dsimp only
      clear hv0
      go_upto_region 6 with fail
      generalize hwb : w6.alloc _ = w7
      replace H := HS.eqW hwb H.alloc
      try simp only [World.size_alloc, List.nil_append, List.cons_append, List.append_assoc] at H
      clear hwb
      generalize w6.heap.size = bS at H ⊢
      try clear C
      try clear w6
      have C := H.cells
      try simp only [cellsOf, cellsM, apartOf, apartM, and_true] at C
      go_loopw [48] (fun jj wr => ∃ (j : Nat), jj = .int .i64 j ∧ j ≤ 3 ∧ HS NoD w [.blk b4 #[.int .i64 ad, .slice xa xn xc, .bool d, .bool p] 35, .dice w.heap.size bd, .any Fc (fun w => SlotsAt w ⟨sc, nc, cc⟩ l), .blk b8 #[.int .i64 S, .int .i64 W, .int .i64 z, .slice sc nc cc] 24, .blk bS #[.int .i64 a, .int .i64 mk, .int .i64 v0] 3] wr) (fun jj _ => 3 - (intOf jj).toNat)
      case atStart => exact ⟨0, rfl, by omega, H⟩
      case round =>
        clear H C
        obtain ⟨j, rfl, hj, H⟩ := hrel
        skip
        try clear C
        try simp only [World.size_alloc, List.nil_append, List.cons_append, List.append_assoc] at H
        have C := H.cells
        try simp only [cellsOf, cellsM, apartOf, apartM, and_true] at C
        by_cases hlt : j < 3
        · have hj3 : j = 0 ∨ j = 1 ∨ j = 2 := by omega
          rcases hj3 with rfl | rfl | rfl
          · skip
            go_upto_region 8 with fail
            go_wp2_with fail
            refine (cget_f HG.out ⟨sc, nc, cc⟩ a _ (H.says 2 rfl)).mono ?_
            rintro _ w42 ⟨⟨lU, vU, fU⟩, ⟨saU, naU, caU⟩, ⟨yaU, ynU, ycU⟩, FU, hU, rfl, K⟩
            replace H := H.join K (one_low rfl)
            clear K
            try simp only [List.nil_append, List.cons_append] at H
            skip
            try clear C
            try simp only [World.size_alloc, List.nil_append, List.cons_append, List.append_assoc] at H
            have C := H.cells
            try simp only [cellsOf, cellsM, apartOf, apartM, and_true] at C
            dsimp only [caV, lnV]
            go_upto_region 9 with fail
            generalize hwb : (w42.alloc _).alloc _ = w8
            replace H := HS.eqW hwb H.alloc.alloc
            try simp only [World.size_alloc, List.nil_append, List.cons_append, List.append_assoc] at H
            clear hwb
            generalize w42.heap.size + 1 = b12 at H ⊢
            generalize w42.heap.size = b11 at H ⊢
            try clear C
            try clear w42
            have C := H.cells
            try simp only [cellsOf, cellsM, apartOf, apartM, and_true] at C
            go_wp2_with fail
            refine (r31get_f HG.out ⟨sc, nc, cc⟩ a _ (H.says 2 rfl)).mono ?_
            rintro _ w43 ⟨⟨lG, vG, fG⟩, ⟨saG, naG, caG⟩, ⟨yaG, ynG, ycG⟩, FG, hG, rfl, K⟩
            replace H := H.join K (one_low rfl)
            clear K
            try simp only [List.nil_append, List.cons_append] at H
            skip
            try clear C
            try simp only [World.size_alloc, List.nil_append, List.cons_append, List.append_assoc] at H
            have C := H.cells
            try simp only [cellsOf, cellsM, apartOf, apartM, and_true] at C
            dsimp only [caV, lnV]
            obtain ⟨rfl, rfl, rfl⟩ : lU = lG ∧ vU = vG ∧ fU = fG := by simpa using HG.out.get_one hU hG
            have HU := Lib.hid hU
            clear hU hG
            go_upto_region 10 with fail
            generalize hwb : (w43.alloc _).alloc _ = w9
            replace H := HS.eqW hwb H.alloc.alloc
            try simp only [World.size_alloc, List.nil_append, List.cons_append, List.append_assoc] at H
            clear hwb
            generalize w43.heap.size + 1 = b15 at H ⊢
            generalize w43.heap.size = b14 at H ⊢
            try clear C
            try clear w43
            have C := H.cells
            try simp only [cellsOf, cellsM, apartOf, apartM, and_true] at C
            have HSM := Lib.hid (fun x y wx hx hy => r31same_any S W z x y lU (by have := (HG.out.get HU.out).len32; dsimp only at this; omega) wx hx hy)
            have hff : (fU != fU) = false := by cases fU <;> rfl
            go_wp2_with fail
            refine (HSM.out ⟨saU, naU, caU⟩ ⟨saG, naG, caG⟩ _ (H.says 5 rfl).1 (H.says 8 rfl).1).mono ?_
            rintro _ w10 ⟨rfl, hb⟩
            replace H := H.below hb
            clear hb
            try clear C
            try simp only [World.size_alloc, List.nil_append, List.cons_append, List.append_assoc] at H
            try clear w9
            have C := H.cells
            try simp only [cellsOf, cellsM, apartOf, apartM, and_true] at C
            dsimp only
            go_wp2_with fail
            refine (l30same_any vU ⟨yaU, ynU, ycU⟩ ⟨yaG, ynG, ycG⟩ _ (H.says 5 rfl).2 (H.says 8 rfl).2).mono ?_
            rintro _ w11 ⟨rfl, hb⟩
            replace H := H.below hb
            clear hb
            try clear C
            try simp only [World.size_alloc, List.nil_append, List.cons_append, List.append_assoc] at H
            try clear w10
            have C := H.cells
            try simp only [cellsOf, cellsM, apartOf, apartM, and_true] at C
            dsimp only
            clear HSM
            go_wp2_with fail
            refine (cdrop_f HG.out ⟨sc, nc, cc⟩ a _ (H.says 2 rfl)).mono ?_
            rintro _ w44 ⟨⟨lX, vX, fX⟩, ⟨saX, naX, caX⟩, ⟨yaX, ynX, ycX⟩, FX, hX, rfl, K⟩
            replace H := H.join K (one_low rfl)
            clear K
            try simp only [List.nil_append, List.cons_append] at H
            skip
            try clear C
            try simp only [World.size_alloc, List.nil_append, List.cons_append, List.append_assoc] at H
            have C := H.cells
            try simp only [cellsOf, cellsM, apartOf, apartM, and_true] at C
            dsimp only [caV, lnV]
            go_upto_region 13 with fail
            generalize hwb : (((w44.setCell _ _).setCell _ _).setCell _ _).setCell _ _ = w12
            replace H := HS.eqW hwb (H.putAll (i := 6) rfl (vs := [.int .i64 S, .int .i64 W, .int .i64 z, .slice saX naX caX]) rfl rfl)
            simp only [List.nil_append, List.cons_append, List.append_assoc, List.set_cons_succ, List.set_cons_zero] at H
            clear hwb
            try clear C
            try clear w44
            have C := H.cells
            try simp only [cellsOf, cellsM, apartOf, apartM, and_true] at C
            generalize hwb : (((w12.setCell _ _).setCell _ _).setCell _ _).setCell _ _ = w13
            replace H := HS.eqW hwb (H.putAll (i := 7) rfl (vs := [.int .i64 vX.ad, .slice yaX ynX ycX, .bool vX.d, .bool vX.p]) rfl rfl)
            simp only [List.nil_append, List.cons_append, List.append_assoc, List.set_cons_succ, List.set_cons_zero] at H
            clear hwb
            try clear C
            try clear w12
            have C := H.cells
            try simp only [cellsOf, cellsM, apartOf, apartM, and_true] at C
            go_wp2_with fail
            refine (r31drop_f HG.out ⟨sc, nc, cc⟩ a _ (H.says 2 rfl)).mono ?_
            rintro _ w45 ⟨⟨lY, vY, fY⟩, ⟨saY, naY, caY⟩, ⟨yaY, ynY, ycY⟩, FY, hY, rfl, K⟩
            replace H := H.join K (one_low rfl)
            clear K
            try simp only [List.nil_append, List.cons_append] at H
            skip
            try clear C
            try simp only [World.size_alloc, List.nil_append, List.cons_append, List.append_assoc] at H
            have C := H.cells
            try simp only [cellsOf, cellsM, apartOf, apartM, and_true] at C
            dsimp only [caV, lnV]
            obtain ⟨rfl, rfl, rfl⟩ : lX = lY ∧ vX = vY ∧ fX = fY := by simpa using HG.out.drop_one hX hY
            have HX := Lib.hid hX
            clear hX hY
            go_upto_region 14 with fail
            generalize hwb : (((w45.setCell _ _).setCell _ _).setCell _ _).setCell _ _ = w14
            replace H := HS.eqW hwb (H.putAll (i := 9) rfl (vs := [.int .i64 S, .int .i64 W, .int .i64 z, .slice saY naY caY]) rfl rfl)
            simp only [List.nil_append, List.cons_append, List.append_assoc, List.set_cons_succ, List.set_cons_zero] at H
            clear hwb
            try clear C
            try clear w45
            have C := H.cells
            try simp only [cellsOf, cellsM, apartOf, apartM, and_true] at C
            generalize hwb : (((w14.setCell _ _).setCell _ _).setCell _ _).setCell _ _ = w15
            replace H := HS.eqW hwb (H.putAll (i := 10) rfl (vs := [.int .i64 vX.ad, .slice yaY ynY ycY, .bool vX.d, .bool vX.p]) rfl rfl)
            simp only [List.nil_append, List.cons_append, List.append_assoc, List.set_cons_succ, List.set_cons_zero] at H
            clear hwb
            try clear C
            try clear w14
            have C := H.cells
            try simp only [cellsOf, cellsM, apartOf, apartM, and_true] at C
            clear hff
            have HSM := Lib.hid (fun x y wx hx hy => r31same_any S W z x y lX (by have := (HG.out.drop HX.out).len32; dsimp only at this; omega) wx hx hy)
            have hff : (fX != fX) = false := by cases fX <;> rfl
            go_wp2_with fail
            refine (HSM.out ⟨saX, naX, caX⟩ ⟨saY, naY, caY⟩ _ (H.says 11 rfl).1 (H.says 12 rfl).1).mono ?_
            rintro _ w16 ⟨rfl, hb⟩
            replace H := H.below hb
            clear hb
            try clear C
            try simp only [World.size_alloc, List.nil_append, List.cons_append, List.append_assoc] at H
            try clear w15
            have C := H.cells
            try simp only [cellsOf, cellsM, apartOf, apartM, and_true] at C
            dsimp only
            go_wp2_with fail
            refine (l30same_any vX ⟨yaX, ynX, ycX⟩ ⟨yaY, ynY, ycY⟩ _ (H.says 11 rfl).2 (H.says 12 rfl).2).mono ?_
            rintro _ w17 ⟨rfl, hb⟩
            replace H := H.below hb
            clear hb
            try clear C
            try simp only [World.size_alloc, List.nil_append, List.cons_append, List.append_assoc] at H
            try clear w16
            have C := H.cells
            try simp only [cellsOf, cellsM, apartOf, apartM, and_true] at C
            dsimp only
            clear HSM
            go_wp2_with fail
            go_roundw
            case rel => exact ⟨0 + 1, by go_num, by omega, HS.less H (by repeat (first | exact .slnil | refine .cons_cons _ ?_ | refine .cons _ ?_))⟩
            case measure => simp [intOf]
          · skip
            skip
            go_upto_region 8 with fail
            go_wp2_with fail
            refine (cget_f HG.out ⟨sc, nc, cc⟩ mk _ (H.says 2 rfl)).mono ?_
            rintro _ w46 ⟨⟨lU, vU, fU⟩, ⟨saU, naU, caU⟩, ⟨yaU, ynU, ycU⟩, FU, hU, rfl, K⟩
            replace H := H.join K (one_low rfl)
            clear K
            try simp only [List.nil_append, List.cons_append] at H
            skip
            try clear C
            try simp only [World.size_alloc, List.nil_append, List.cons_append, List.append_assoc] at H
            have C := H.cells
            try simp only [cellsOf, cellsM, apartOf, apartM, and_true] at C
            dsimp only [caV, lnV]
            go_upto_region 9 with fail
            generalize hwb : (w46.alloc _).alloc _ = w18
            replace H := HS.eqW hwb H.alloc.alloc
            try simp only [World.size_alloc, List.nil_append, List.cons_append, List.append_assoc] at H
            clear hwb
            generalize w46.heap.size + 1 = b12 at H ⊢
            generalize w46.heap.size = b11 at H ⊢
            try clear C
            try clear w46
            have C := H.cells
            try simp only [cellsOf, cellsM, apartOf, apartM, and_true] at C
            go_wp2_with fail
            refine (r31get_f HG.out ⟨sc, nc, cc⟩ mk _ (H.says 2 rfl)).mono ?_
            rintro _ w47 ⟨⟨lG, vG, fG⟩, ⟨saG, naG, caG⟩, ⟨yaG, ynG, ycG⟩, FG, hG, rfl, K⟩
            replace H := H.join K (one_low rfl)
            clear K
            try simp only [List.nil_append, List.cons_append] at H
            skip
            try clear C
            try simp only [World.size_alloc, List.nil_append, List.cons_append, List.append_assoc] at H
            have C := H.cells
            try simp only [cellsOf, cellsM, apartOf, apartM, and_true] at C
            dsimp only [caV, lnV]
            obtain ⟨rfl, rfl, rfl⟩ : lU = lG ∧ vU = vG ∧ fU = fG := by simpa using HG.out.get_one hU hG
            have HU := Lib.hid hU
            clear hU hG
            go_upto_region 10 with fail
            generalize hwb : (w47.alloc _).alloc _ = w19
            replace H := HS.eqW hwb H.alloc.alloc
            try simp only [World.size_alloc, List.nil_append, List.cons_append, List.append_assoc] at H
            clear hwb
            generalize w47.heap.size + 1 = b15 at H ⊢
            generalize w47.heap.size = b14 at H ⊢
            try clear C
            try clear w47
            have C := H.cells
            try simp only [cellsOf, cellsM, apartOf, apartM, and_true] at C
            have HSM := Lib.hid (fun x y wx hx hy => r31same_any S W z x y lU (by have := (HG.out.get HU.out).len32; dsimp only at this; omega) wx hx hy)
            have hff : (fU != fU) = false := by cases fU <;> rfl
            go_wp2_with fail
            refine (HSM.out ⟨saU, naU, caU⟩ ⟨saG, naG, caG⟩ _ (H.says 5 rfl).1 (H.says 8 rfl).1).mono ?_
            rintro _ w20 ⟨rfl, hb⟩
            replace H := H.below hb
            clear hb
            try clear C
            try simp only [World.size_alloc, List.nil_append, List.cons_append, List.append_assoc] at H
            try clear w19
            have C := H.cells
            try simp only [cellsOf, cellsM, apartOf, apartM, and_true] at C
            dsimp only
            go_wp2_with fail
            refine (l30same_any vU ⟨yaU, ynU, ycU⟩ ⟨yaG, ynG, ycG⟩ _ (H.says 5 rfl).2 (H.says 8 rfl).2).mono ?_
            rintro _ w21 ⟨rfl, hb⟩
            replace H := H.below hb
            clear hb
            try clear C
            try simp only [World.size_alloc, List.nil_append, List.cons_append, List.append_assoc] at H
            try clear w20
            have C := H.cells
            try simp only [cellsOf, cellsM, apartOf, apartM, and_true] at C
            dsimp only
            clear HSM
            go_wp2_with fail
            refine (cdrop_f HG.out ⟨sc, nc, cc⟩ mk _ (H.says 2 rfl)).mono ?_
            rintro _ w48 ⟨⟨lX, vX, fX⟩, ⟨saX, naX, caX⟩, ⟨yaX, ynX, ycX⟩, FX, hX, rfl, K⟩
            replace H := H.join K (one_low rfl)
            clear K
            try simp only [List.nil_append, List.cons_append] at H
            skip
            try clear C
            try simp only [World.size_alloc, List.nil_append, List.cons_append, List.append_assoc] at H
            have C := H.cells
            try simp only [cellsOf, cellsM, apartOf, apartM, and_true] at C
            dsimp only [caV, lnV]
            go_upto_region 13 with fail
            generalize hwb : (((w48.setCell _ _).setCell _ _).setCell _ _).setCell _ _ = w22
            replace H := HS.eqW hwb (H.putAll (i := 6) rfl (vs := [.int .i64 S, .int .i64 W, .int .i64 z, .slice saX naX caX]) rfl rfl)
            simp only [List.nil_append, List.cons_append, List.append_assoc, List.set_cons_succ, List.set_cons_zero] at H
            clear hwb
            try clear C
            try clear w48
            have C := H.cells
            try simp only [cellsOf, cellsM, apartOf, apartM, and_true] at C
            generalize hwb : (((w22.setCell _ _).setCell _ _).setCell _ _).setCell _ _ = w23
            replace H := HS.eqW hwb (H.putAll (i := 7) rfl (vs := [.int .i64 vX.ad, .slice yaX ynX ycX, .bool vX.d, .bool vX.p]) rfl rfl)
            simp only [List.nil_append, List.cons_append, List.append_assoc, List.set_cons_succ, List.set_cons_zero] at H
            clear hwb
            try clear C
            try clear w22
            have C := H.cells
            try simp only [cellsOf, cellsM, apartOf, apartM, and_true] at C
            go_wp2_with fail
            refine (r31drop_f HG.out ⟨sc, nc, cc⟩ mk _ (H.says 2 rfl)).mono ?_
            rintro _ w49 ⟨⟨lY, vY, fY⟩, ⟨saY, naY, caY⟩, ⟨yaY, ynY, ycY⟩, FY, hY, rfl, K⟩
            replace H := H.join K (one_low rfl)
            clear K
            try simp only [List.nil_append, List.cons_append] at H
            skip
            try clear C
            try simp only [World.size_alloc, List.nil_append, List.cons_append, List.append_assoc] at H
            have C := H.cells
            try simp only [cellsOf, cellsM, apartOf, apartM, and_true] at C
            dsimp only [caV, lnV]
            obtain ⟨rfl, rfl, rfl⟩ : lX = lY ∧ vX = vY ∧ fX = fY := by simpa using HG.out.drop_one hX hY
            have HX := Lib.hid hX
            clear hX hY
            go_upto_region 14 with fail
            generalize hwb : (((w49.setCell _ _).setCell _ _).setCell _ _).setCell _ _ = w24
            replace H := HS.eqW hwb (H.putAll (i := 9) rfl (vs := [.int .i64 S, .int .i64 W, .int .i64 z, .slice saY naY caY]) rfl rfl)
            simp only [List.nil_append, List.cons_append, List.append_assoc, List.set_cons_succ, List.set_cons_zero] at H
            clear hwb
            try clear C
            try clear w49
            have C := H.cells
            try simp only [cellsOf, cellsM, apartOf, apartM, and_true] at C
            generalize hwb : (((w24.setCell _ _).setCell _ _).setCell _ _).setCell _ _ = w25
            replace H := HS.eqW hwb (H.putAll (i := 10) rfl (vs := [.int .i64 vX.ad, .slice yaY ynY ycY, .bool vX.d, .bool vX.p]) rfl rfl)
            simp only [List.nil_append, List.cons_append, List.append_assoc, List.set_cons_succ, List.set_cons_zero] at H
            clear hwb
            try clear C
            try clear w24
            have C := H.cells
            try simp only [cellsOf, cellsM, apartOf, apartM, and_true] at C
            clear hff
            have HSM := Lib.hid (fun x y wx hx hy => r31same_any S W z x y lX (by have := (HG.out.drop HX.out).len32; dsimp only at this; omega) wx hx hy)
            have hff : (fX != fX) = false := by cases fX <;> rfl
            go_wp2_with fail
            refine (HSM.out ⟨saX, naX, caX⟩ ⟨saY, naY, caY⟩ _ (H.says 11 rfl).1 (H.says 12 rfl).1).mono ?_
            rintro _ w26 ⟨rfl, hb⟩
            replace H := H.below hb
            clear hb
            try clear C
            try simp only [World.size_alloc, List.nil_append, List.cons_append, List.append_assoc] at H
            try clear w25
            have C := H.cells
            try simp only [cellsOf, cellsM, apartOf, apartM, and_true] at C
            dsimp only
            go_wp2_with fail
            refine (l30same_any vX ⟨yaX, ynX, ycX⟩ ⟨yaY, ynY, ycY⟩ _ (H.says 11 rfl).2 (H.says 12 rfl).2).mono ?_
            rintro _ w27 ⟨rfl, hb⟩
            replace H := H.below hb
            clear hb
            try clear C
            try simp only [World.size_alloc, List.nil_append, List.cons_append, List.append_assoc] at H
            try clear w26
            have C := H.cells
            try simp only [cellsOf, cellsM, apartOf, apartM, and_true] at C
            dsimp only
            clear HSM
            go_wp2_with fail
            go_roundw
            case rel => exact ⟨1 + 1, by go_num, by omega, HS.less H (by repeat (first | exact .slnil | refine .cons_cons _ ?_ | refine .cons _ ?_))⟩
            case measure => simp [intOf]
          · skip
            skip
            go_upto_region 8 with fail
            go_wp2_with fail
            refine (cget_f HG.out ⟨sc, nc, cc⟩ v0 _ (H.says 2 rfl)).mono ?_
            rintro _ w50 ⟨⟨lU, vU, fU⟩, ⟨saU, naU, caU⟩, ⟨yaU, ynU, ycU⟩, FU, hU, rfl, K⟩
            replace H := H.join K (one_low rfl)
            clear K
            try simp only [List.nil_append, List.cons_append] at H
            skip
            try clear C
            try simp only [World.size_alloc, List.nil_append, List.cons_append, List.append_assoc] at H
            have C := H.cells
            try simp only [cellsOf, cellsM, apartOf, apartM, and_true] at C
            dsimp only [caV, lnV]
            go_upto_region 9 with fail
            generalize hwb : (w50.alloc _).alloc _ = w28
            replace H := HS.eqW hwb H.alloc.alloc
            try simp only [World.size_alloc, List.nil_append, List.cons_append, List.append_assoc] at H
            clear hwb
            generalize w50.heap.size + 1 = b12 at H ⊢
            generalize w50.heap.size = b11 at H ⊢
            try clear C
            try clear w50
            have C := H.cells
            try simp only [cellsOf, cellsM, apartOf, apartM, and_true] at C
            go_wp2_with fail
            refine (r31get_f HG.out ⟨sc, nc, cc⟩ v0 _ (H.says 2 rfl)).mono ?_
            rintro _ w51 ⟨⟨lG, vG, fG⟩, ⟨saG, naG, caG⟩, ⟨yaG, ynG, ycG⟩, FG, hG, rfl, K⟩
            replace H := H.join K (one_low rfl)
            clear K
            try simp only [List.nil_append, List.cons_append] at H
            skip
            try clear C
            try simp only [World.size_alloc, List.nil_append, List.cons_append, List.append_assoc] at H
            have C := H.cells
            try simp only [cellsOf, cellsM, apartOf, apartM, and_true] at C
            dsimp only [caV, lnV]
            obtain ⟨rfl, rfl, rfl⟩ : lU = lG ∧ vU = vG ∧ fU = fG := by simpa using HG.out.get_one hU hG
            have HU := Lib.hid hU
            clear hU hG
            go_upto_region 10 with fail
            generalize hwb : (w51.alloc _).alloc _ = w29
            replace H := HS.eqW hwb H.alloc.alloc
            try simp only [World.size_alloc, List.nil_append, List.cons_append, List.append_assoc] at H
            clear hwb
            generalize w51.heap.size + 1 = b15 at H ⊢
            generalize w51.heap.size = b14 at H ⊢
            try clear C
            try clear w51
            have C := H.cells
            try simp only [cellsOf, cellsM, apartOf, apartM, and_true] at C
            have HSM := Lib.hid (fun x y wx hx hy => r31same_any S W z x y lU (by have := (HG.out.get HU.out).len32; dsimp only at this; omega) wx hx hy)
            have hff : (fU != fU) = false := by cases fU <;> rfl
            go_wp2_with fail
            refine (HSM.out ⟨saU, naU, caU⟩ ⟨saG, naG, caG⟩ _ (H.says 5 rfl).1 (H.says 8 rfl).1).mono ?_
            rintro _ w30 ⟨rfl, hb⟩
            replace H := H.below hb
            clear hb
            try clear C
            try simp only [World.size_alloc, List.nil_append, List.cons_append, List.append_assoc] at H
            try clear w29
            have C := H.cells
            try simp only [cellsOf, cellsM, apartOf, apartM, and_true] at C
            dsimp only
            go_wp2_with fail
            refine (l30same_any vU ⟨yaU, ynU, ycU⟩ ⟨yaG, ynG, ycG⟩ _ (H.says 5 rfl).2 (H.says 8 rfl).2).mono ?_
            rintro _ w31 ⟨rfl, hb⟩
            replace H := H.below hb
            clear hb
            try clear C
            try simp only [World.size_alloc, List.nil_append, List.cons_append, List.append_assoc] at H
            try clear w30
            have C := H.cells
            try simp only [cellsOf, cellsM, apartOf, apartM, and_true] at C
            dsimp only
            clear HSM
            go_wp2_with fail
            refine (cdrop_f HG.out ⟨sc, nc, cc⟩ v0 _ (H.says 2 rfl)).mono ?_
            rintro _ w52 ⟨⟨lX, vX, fX⟩, ⟨saX, naX, caX⟩, ⟨yaX, ynX, ycX⟩, FX, hX, rfl, K⟩
            replace H := H.join K (one_low rfl)
            clear K
            try simp only [List.nil_append, List.cons_append] at H
            skip
            try clear C
            try simp only [World.size_alloc, List.nil_append, List.cons_append, List.append_assoc] at H
            have C := H.cells
            try simp only [cellsOf, cellsM, apartOf, apartM, and_true] at C
            dsimp only [caV, lnV]
            go_upto_region 13 with fail
            generalize hwb : (((w52.setCell _ _).setCell _ _).setCell _ _).setCell _ _ = w32
            replace H := HS.eqW hwb (H.putAll (i := 6) rfl (vs := [.int .i64 S, .int .i64 W, .int .i64 z, .slice saX naX caX]) rfl rfl)
            simp only [List.nil_append, List.cons_append, List.append_assoc, List.set_cons_succ, List.set_cons_zero] at H
            clear hwb
            try clear C
            try clear w52
            have C := H.cells
            try simp only [cellsOf, cellsM, apartOf, apartM, and_true] at C
            generalize hwb : (((w32.setCell _ _).setCell _ _).setCell _ _).setCell _ _ = w33
            replace H := HS.eqW hwb (H.putAll (i := 7) rfl (vs := [.int .i64 vX.ad, .slice yaX ynX ycX, .bool vX.d, .bool vX.p]) rfl rfl)
            simp only [List.nil_append, List.cons_append, List.append_assoc, List.set_cons_succ, List.set_cons_zero] at H
            clear hwb
            try clear C
            try clear w32
            have C := H.cells
            try simp only [cellsOf, cellsM, apartOf, apartM, and_true] at C
            go_wp2_with fail
            refine (r31drop_f HG.out ⟨sc, nc, cc⟩ v0 _ (H.says 2 rfl)).mono ?_
            rintro _ w53 ⟨⟨lY, vY, fY⟩, ⟨saY, naY, caY⟩, ⟨yaY, ynY, ycY⟩, FY, hY, rfl, K⟩
            replace H := H.join K (one_low rfl)
            clear K
            try simp only [List.nil_append, List.cons_append] at H
            skip
            try clear C
            try simp only [World.size_alloc, List.nil_append, List.cons_append, List.append_assoc] at H
            have C := H.cells
            try simp only [cellsOf, cellsM, apartOf, apartM, and_true] at C
            dsimp only [caV, lnV]
            obtain ⟨rfl, rfl, rfl⟩ : lX = lY ∧ vX = vY ∧ fX = fY := by simpa using HG.out.drop_one hX hY
            have HX := Lib.hid hX
            clear hX hY
            go_upto_region 14 with fail
            generalize hwb : (((w53.setCell _ _).setCell _ _).setCell _ _).setCell _ _ = w34
            replace H := HS.eqW hwb (H.putAll (i := 9) rfl (vs := [.int .i64 S, .int .i64 W, .int .i64 z, .slice saY naY caY]) rfl rfl)
            simp only [List.nil_append, List.cons_append, List.append_assoc, List.set_cons_succ, List.set_cons_zero] at H
            clear hwb
            try clear C
            try clear w53
            have C := H.cells
            try simp only [cellsOf, cellsM, apartOf, apartM, and_true] at C
            generalize hwb : (((w34.setCell _ _).setCell _ _).setCell _ _).setCell _ _ = w35
            replace H := HS.eqW hwb (H.putAll (i := 10) rfl (vs := [.int .i64 vX.ad, .slice yaY ynY ycY, .bool vX.d, .bool vX.p]) rfl rfl)
            simp only [List.nil_append, List.cons_append, List.append_assoc, List.set_cons_succ, List.set_cons_zero] at H
            clear hwb
            try clear C
            try clear w34
            have C := H.cells
            try simp only [cellsOf, cellsM, apartOf, apartM, and_true] at C
            clear hff
            have HSM := Lib.hid (fun x y wx hx hy => r31same_any S W z x y lX (by have := (HG.out.drop HX.out).len32; dsimp only at this; omega) wx hx hy)
            have hff : (fX != fX) = false := by cases fX <;> rfl
            go_wp2_with fail
            refine (HSM.out ⟨saX, naX, caX⟩ ⟨saY, naY, caY⟩ _ (H.says 11 rfl).1 (H.says 12 rfl).1).mono ?_
            rintro _ w36 ⟨rfl, hb⟩
            replace H := H.below hb
            clear hb
            try clear C
            try simp only [World.size_alloc, List.nil_append, List.cons_append, List.append_assoc] at H
            try clear w35
            have C := H.cells
            try simp only [cellsOf, cellsM, apartOf, apartM, and_true] at C
            dsimp only
            go_wp2_with fail
            refine (l30same_any vX ⟨yaX, ynX, ycX⟩ ⟨yaY, ynY, ycY⟩ _ (H.says 11 rfl).2 (H.says 12 rfl).2).mono ?_
            rintro _ w37 ⟨rfl, hb⟩
            replace H := H.below hb
            clear hb
            try clear C
            try simp only [World.size_alloc, List.nil_append, List.cons_append, List.append_assoc] at H
            try clear w36
            have C := H.cells
            try simp only [cellsOf, cellsM, apartOf, apartM, and_true] at C
            dsimp only
            clear HSM
            go_wp2_with fail
            go_roundw
            case rel => exact ⟨2 + 1, by go_num, by omega, HS.less H (by repeat (first | exact .slnil | refine .cons_cons _ ?_ | refine .cons _ ?_))⟩
            case measure => simp [intOf]
        · obtain rfl : j = 3 := by omega
          skip
          have H9 := HS.less (L' := [.blk b4 #[.int .i64 ad, .slice xa xn xc, .bool d, .bool p] 35, .dice w.heap.size bd, .any Fc (fun w => SlotsAt w ⟨sc, nc, cc⟩ l), .blk b8 #[.int .i64 S, .int .i64 W, .int .i64 z, .slice sc nc cc] 24]) H (by repeat (first | exact .slnil | refine .cons_cons _ ?_ | refine .cons _ ?_))
          clear H C
          have H := H9
          clear H9 hlt hj
          try clear C
          try simp only [World.size_alloc, List.nil_append, List.cons_append, List.append_assoc] at H
          have C := H.cells
          try simp only [cellsOf, cellsM, apartOf, apartM, and_true] at C
          have HML := Lib.hid (fun (sz : Nat) (hsz : sz ≤ 100) (q : Int) wx hd hB => mline_any sz hsz q w.heap.size bd wx hd hB)
          have HZ1 := Lib.hid (show z ≤ 100 by have := HZ.out; omega)
          go_upto_region 17 with fail
          refine wp_region_sH (by kernel_rfl) (by kernel_rfl) (by kernel_rfl) (by kernel_rfl) (fun w => w.cell? ⟨b8, 2, none⟩ = some (.int .i64 z) ∧ w.cell? ⟨b4, 0, none⟩ = some (.int .i64 ad) ∧ w.cell? ⟨b4, 1, none⟩ = some (.slice xa xn xc) ∧ w.cell? ⟨b4, 2, none⟩ = some (.bool d) ∧ w.cell? ⟨b4, 3, none⟩ = some (.bool p)) (H) (fun w0 H => ⟨(Blk.cell (H.at 3 rfl) 2).trans rfl, (Blk.cell (H.at 0 rfl) 0).trans rfl, (Blk.cell (H.at 0 rfl) 1).trans rfl, (Blk.cell (H.at 0 rfl) 2).trans rfl, (Blk.cell (H.at 0 rfl) 3).trans rfl⟩) ?_
          clear H; intro w38 h0 H hz0
          try clear C
          try simp only [World.size_alloc, List.nil_append, List.cons_append, List.append_assoc] at H hz0
          clear hz0
          try clear wr
          have C := H.cells
          try simp only [cellsOf, cellsM, apartOf, apartM, and_true] at C
          (refine wpX_yield rfl rfl (.agg #[.int .i64 ad, .slice xa xn xc, .bool d, .bool p]) (fun w hw => by obtain ⟨k0, k1, k2, k3, k4⟩ := hw; go_simp) ?_; go_simp)
          repeat (first | (refine wpX_skip rfl ?_; go_simp) | (refine wpX_free rfl rfl rfl (fun K hK => ?_); go_step; refine hK _ _ ?_; clear hK K))
          (refine wpX_yield rfl rfl (.int .i64 z) (fun w hw => by obtain ⟨k0, k1, k2, k3, k4⟩ := hw; go_simp) ?_; go_simp)
          repeat (first | (refine wpX_skip rfl ?_; go_simp) | (refine wpX_free rfl rfl rfl (fun K hK => ?_); go_step; refine hK _ _ ?_; clear hK K))
          refine wpX_eff rfl rfl (fun _ _ => ?_)
          go_step
          refine (next_any 14 (by omega) w.heap.size bd _ (H.at 1 rfl)).mono ?_
          rintro _ w39 ⟨u1, rfl, hu1, hd, hg⟩
          replace H := H.diceAt 1 rfl hg hd
          clear hg hd
          try clear C
          have C := H.cells
          try simp only [cellsOf, cellsM, apartOf, apartM, and_true] at C
          try clear w38
          dsimp only
          go_step
          refine ⟨⟨(Blk.cell (H.at 3 rfl) 2).trans rfl, (Blk.cell (H.at 0 rfl) 0).trans rfl, (Blk.cell (H.at 0 rfl) 1).trans rfl, (Blk.cell (H.at 0 rfl) 2).trans rfl, (Blk.cell (H.at 0 rfl) 3).trans rfl⟩, ?_⟩
          clear hu1
          repeat (first | (refine wpX_skip rfl ?_; go_simp) | (refine wpX_free rfl rfl rfl (fun K hK => ?_); go_step; refine hK _ _ ?_; clear hK K))
          refine wpX_eff rfl rfl (fun _ _ => ?_)
          go_step
          refine (HML.out z HZ1.out _ _ (H.at 1 rfl) H.size).mono ?_
          rintro _ w40 ⟨⟨ad1, bs1, d1, p1⟩, ⟨xa1, xn1, xc1⟩, F1, rfl, hma1, hmb1, K⟩
          replace H := H.joinDice 1 rfl K (one_low rfl)
          clear K
          try simp only [List.nil_append, List.cons_append, List.append_assoc] at H
          try clear C
          have C := H.cells
          try simp only [cellsOf, cellsM, apartOf, apartM, and_true] at C
          try clear w39
          dsimp only
          go_step
          refine ⟨⟨(Blk.cell (H.at 3 rfl) 2).trans rfl, (Blk.cell (H.at 0 rfl) 0).trans rfl, (Blk.cell (H.at 0 rfl) 1).trans rfl, (Blk.cell (H.at 0 rfl) 2).trans rfl, (Blk.cell (H.at 0 rfl) 3).trans rfl⟩, ?_⟩
          dsimp only [lnV]
          repeat (first | (refine wpX_skip rfl ?_; go_simp) | (refine wpX_free rfl rfl rfl (fun K hK => ?_); go_step; refine hK _ _ ?_; clear hK K))
          (refine wpX_yield rfl rfl (.int .i64 z) (fun w hw => by obtain ⟨k0, k1, k2, k3, k4⟩ := hw; go_simp) ?_; go_simp)
          repeat (first | (refine wpX_skip rfl ?_; go_simp) | (refine wpX_free rfl rfl rfl (fun K hK => ?_); go_step; refine hK _ _ ?_; clear hK K))
          refine wpX_eff rfl rfl (fun _ _ => ?_)
          go_step
          refine (next_any 2 (by omega) w.heap.size bd _ (H.at 1 rfl)).mono ?_
          rintro _ w41 ⟨u2, rfl, hu2, hd, hg⟩
          replace H := H.diceAt 1 rfl hg hd
          clear hg hd
          try clear C
          have C := H.cells
          try simp only [cellsOf, cellsM, apartOf, apartM, and_true] at C
          try clear w40
          dsimp only
          go_step
          refine ⟨⟨(Blk.cell (H.at 3 rfl) 2).trans rfl, (Blk.cell (H.at 0 rfl) 0).trans rfl, (Blk.cell (H.at 0 rfl) 1).trans rfl, (Blk.cell (H.at 0 rfl) 2).trans rfl, (Blk.cell (H.at 0 rfl) 3).trans rfl⟩, ?_⟩
          clear hu2
          repeat (first | (refine wpX_skip rfl ?_; go_simp) | (refine wpX_free rfl rfl rfl (fun K hK => ?_); go_step; refine hK _ _ ?_; clear hK K))
          refine wpX_eff rfl rfl (fun _ _ => ?_)
          go_step
          refine (HML.out z HZ1.out _ _ (H.at 1 rfl) H.size).mono ?_
          rintro _ w42 ⟨⟨ad2, bs2, d2, p2⟩, ⟨xa2, xn2, xc2⟩, F2, rfl, hma2, hmb2, K⟩
          replace H := H.joinDice 1 rfl K (one_low rfl)
          clear K
          try simp only [List.nil_append, List.cons_append, List.append_assoc] at H
          try clear C
          have C := H.cells
          try simp only [cellsOf, cellsM, apartOf, apartM, and_true] at C
          try clear w41
          dsimp only
          go_step
          refine ⟨⟨(Blk.cell (H.at 3 rfl) 2).trans rfl, (Blk.cell (H.at 0 rfl) 0).trans rfl, (Blk.cell (H.at 0 rfl) 1).trans rfl, (Blk.cell (H.at 0 rfl) 2).trans rfl, (Blk.cell (H.at 0 rfl) 3).trans rfl⟩, ?_⟩
          dsimp only [lnV]
          repeat (first | (refine wpX_skip rfl ?_; go_simp) | (refine wpX_free rfl rfl rfl (fun K hK => ?_); go_step; refine hK _ _ ?_; clear hK K))
          refine wpX_eff rfl rfl (fun _ _ => ?_)
          go_step
          refine (next_any 5 (by omega) w.heap.size bd _ (H.at 1 rfl)).mono ?_
          rintro _ w43 ⟨u3, rfl, hu3, hd, hg⟩
          replace H := H.diceAt 1 rfl hg hd
          clear hg hd
          try clear C
          have C := H.cells
          try simp only [cellsOf, cellsM, apartOf, apartM, and_true] at C
          try clear w42
          dsimp only
          go_step
          refine ⟨⟨(Blk.cell (H.at 3 rfl) 2).trans rfl, (Blk.cell (H.at 0 rfl) 0).trans rfl, (Blk.cell (H.at 0 rfl) 1).trans rfl, (Blk.cell (H.at 0 rfl) 2).trans rfl, (Blk.cell (H.at 0 rfl) 3).trans rfl⟩, ?_⟩
          have hu31 : u3 < 5 := hu3.lt (by omega)
          have hu32 : 0 ≤ u3 := hu3.1
          obtain ⟨z3, rfl⟩ : ∃ n : Nat, u3 = n := ⟨u3.toNat, by omega⟩
          have HZ3 := Lib.hid (show z3 ≤ 100 by omega)
          clear hu3 hu31 hu32
          repeat (first | (refine wpX_skip rfl ?_; go_simp) | (refine wpX_free rfl rfl rfl (fun K hK => ?_); go_step; refine hK _ _ ?_; clear hK K))
          refine wpX_eff rfl rfl (fun _ _ => ?_)
          go_step
          refine (next_any 5 (by omega) w.heap.size bd _ (H.at 1 rfl)).mono ?_
          rintro _ w44 ⟨u4, rfl, hu4, hd, hg⟩
          replace H := H.diceAt 1 rfl hg hd
          clear hg hd
          try clear C
          have C := H.cells
          try simp only [cellsOf, cellsM, apartOf, apartM, and_true] at C
          try clear w43
          dsimp only
          go_step
          refine ⟨⟨(Blk.cell (H.at 3 rfl) 2).trans rfl, (Blk.cell (H.at 0 rfl) 0).trans rfl, (Blk.cell (H.at 0 rfl) 1).trans rfl, (Blk.cell (H.at 0 rfl) 2).trans rfl, (Blk.cell (H.at 0 rfl) 3).trans rfl⟩, ?_⟩
          clear hu4
          repeat (first | (refine wpX_skip rfl ?_; go_simp) | (refine wpX_free rfl rfl rfl (fun K hK => ?_); go_step; refine hK _ _ ?_; clear hK K))
          refine wpX_eff rfl rfl (fun _ _ => ?_)
          go_step
          refine (HML.out z3 HZ3.out _ _ (H.at 1 rfl) H.size).mono ?_
          rintro _ w45 ⟨⟨ad3, bs3, d3, p3⟩, ⟨xa3, xn3, xc3⟩, F3, rfl, hma3, hmb3, K⟩
          replace H := H.joinDice 1 rfl K (one_low rfl)
          clear K
          try simp only [List.nil_append, List.cons_append, List.append_assoc] at H
          try clear C
          have C := H.cells
          try simp only [cellsOf, cellsM, apartOf, apartM, and_true] at C
          try clear w44
          dsimp only
          go_step
          refine ⟨⟨(Blk.cell (H.at 3 rfl) 2).trans rfl, (Blk.cell (H.at 0 rfl) 0).trans rfl, (Blk.cell (H.at 0 rfl) 1).trans rfl, (Blk.cell (H.at 0 rfl) 2).trans rfl, (Blk.cell (H.at 0 rfl) 3).trans rfl⟩, ?_⟩
          dsimp only [lnV]
          repeat (first | (refine wpX_skip rfl ?_; go_simp) | (refine wpX_free rfl rfl rfl (fun K hK => ?_); go_step; refine hK _ _ ?_; clear hK K))
          refine wpX_eff rfl rfl (fun _ _ => ?_)
          go_step
          go_step
          generalize hwb : World.alloc _ _ = w46
          replace H := HS.eqW hwb H.alloc
          try simp only [World.size_alloc, List.nil_append, List.cons_append, List.append_assoc] at H
          clear hwb
          generalize w45.heap.size = bQ at H ⊢
          try clear C
          try clear w45
          have C := H.cells
          try simp only [cellsOf, cellsM, apartOf, apartM, and_true] at C
          refine ⟨⟨(Blk.cell (H.at 3 rfl) 2).trans rfl, (Blk.cell (H.at 0 rfl) 0).trans rfl, (Blk.cell (H.at 0 rfl) 1).trans rfl, (Blk.cell (H.at 0 rfl) 2).trans rfl, (Blk.cell (H.at 0 rfl) 3).trans rfl⟩, ?_⟩
          repeat (first | (refine wpX_skip rfl ?_; go_simp) | (refine wpX_free rfl rfl rfl (fun K hK => ?_); go_step; refine hK _ _ ?_; clear hK K) | (refine wpX_load rfl rfl rfl (by simp [Stay, OneD, NoD, *]) hs0 (by simp [*]) (fun K hK => ?_); go_step; refine hK _ _ ?_; clear hK K))
          (refine wpX_nil ?_; go_step)
          have HB1 := Lib.hid (show bs1.length ≤ 1000 by have : bs1.length = z := hmb1; have := HZ1.out; omega)
          have HB2 := Lib.hid (show bs2.length ≤ 1000 by have : bs2.length = z := hmb2; have := HZ1.out; omega)
          have HB3 := Lib.hid (show bs3.length ≤ 1000 by have : bs3.length = z3 := hmb3; have := HZ3.out; omega)
          clear hma1 hmb1 hma2 hmb2 hma3 hmb3 HML
          go_wp2_with fail
          go_loopw [134] (fun jj wr => ∃ (j : Nat), jj = .int .i64 j ∧ j ≤ 4 ∧ HS NoD w [.blk b4 #[.int .i64 ad, .slice xa xn xc, .bool d, .bool p] 35, .dice w.heap.size bd, .any Fc (fun w => SlotsAt w ⟨sc, nc, cc⟩ l), .blk b8 #[.int .i64 S, .int .i64 W, .int .i64 z, .slice sc nc cc] 24, .any F1 (fun w => BytesAt w ⟨xa1, xn1, xc1⟩ bs1), .any F2 (fun w => BytesAt w ⟨xa2, xn2, xc2⟩ bs2), .any F3 (fun w => BytesAt w ⟨xa3, xn3, xc3⟩ bs3), .blk bQ #[.int .i64 ad, .slice xa xn xc, .bool d, .bool p, .int .i64 ad1, .slice xa1 xn1 xc1, .bool d1, .bool p1, .int .i64 ad2, .slice xa2 xn2 xc2, .bool d2, .bool p2, .int .i64 ad3, .slice xa3 xn3 xc3, .bool d3, .bool p3] 35] wr) (fun jj _ => 4 - (intOf jj).toNat)
          case atStart => exact ⟨0, rfl, by omega, H⟩
          case round =>
            clear H C
            obtain ⟨j, rfl, hj, H⟩ := hrel
            skip
            try clear C
            try simp only [World.size_alloc, List.nil_append, List.cons_append, List.append_assoc] at H
            have C := H.cells
            try simp only [cellsOf, cellsM, apartOf, apartM, and_true] at C
            by_cases hlt : j < 4
            · have hj3 : j = 0 ∨ j = 1 ∨ j = 2 ∨ j = 3 := by omega
              rcases hj3 with rfl | rfl | rfl | rfl
              · skip
                go_upto_region 20 with fail
                generalize hwb : wr.alloc _ = w47
                replace H := HS.eqW hwb H.alloc
                try simp only [World.size_alloc, List.nil_append, List.cons_append, List.append_assoc] at H
                clear hwb
                generalize wr.heap.size = b18 at H ⊢
                try clear C
                try clear wr
                have C := H.cells
                try simp only [cellsOf, cellsM, apartOf, apartM, and_true] at C
                go_wp2_with fail
                refine (cput_f HG.out ⟨sc, nc, cc⟩ ⟨ad, bs, d, p⟩ ⟨xa, xn, xc⟩ HB0.out _ (H.says 2 rfl) (HY.out.up H.done)).mono ?_
                rintro _ w54 ⟨⟨lU, vU, fU, eU⟩, ⟨saU, naU, caU⟩, ⟨yaU, ynU, ycU⟩, FU, hU, rfl, K⟩
                replace H := H.join K (one_low rfl)
                clear K
                try simp only [List.nil_append, List.cons_append] at H
                skip
                try clear C
                try simp only [World.size_alloc, List.nil_append, List.cons_append, List.append_assoc] at H
                have C := H.cells
                try simp only [cellsOf, cellsM, apartOf, apartM, and_true] at C
                dsimp only [caV, lnV]
                go_upto_region 21 with fail
                generalize hwb : (w54.alloc _).alloc _ = w48
                replace H := HS.eqW hwb H.alloc.alloc
                try simp only [World.size_alloc, List.nil_append, List.cons_append, List.append_assoc] at H
                clear hwb
                generalize w54.heap.size + 1 = b20 at H ⊢
                generalize w54.heap.size = b19 at H ⊢
                try clear C
                try clear w54
                have C := H.cells
                try simp only [cellsOf, cellsM, apartOf, apartM, and_true] at C
                go_wp2_with fail
                refine (r31put_f HG.out ⟨sc, nc, cc⟩ ⟨ad, bs, d, p⟩ ⟨xa, xn, xc⟩ HB0.out _ (H.says 2 rfl) (HY.out.up H.done)).mono ?_
                rintro _ w55 ⟨⟨lG, vG, fG, eG⟩, ⟨saG, naG, caG⟩, ⟨yaG, ynG, ycG⟩, FG, hG, rfl, K⟩
                replace H := H.join K (one_low rfl)
                clear K
                try simp only [List.nil_append, List.cons_append] at H
                skip
                try clear C
                try simp only [World.size_alloc, List.nil_append, List.cons_append, List.append_assoc] at H
                have C := H.cells
                try simp only [cellsOf, cellsM, apartOf, apartM, and_true] at C
                dsimp only [caV, lnV]
                obtain ⟨rfl, rfl, rfl, rfl⟩ : lU = lG ∧ vU = vG ∧ fU = fG ∧ eU = eG := by simpa using HG.out.put_one hU hG
                have HU := Lib.hid hU
                clear hU hG
                go_upto_region 22 with fail
                generalize hwb : (w55.alloc _).alloc _ = w49
                replace H := HS.eqW hwb H.alloc.alloc
                try simp only [World.size_alloc, List.nil_append, List.cons_append, List.append_assoc] at H
                clear hwb
                generalize w55.heap.size + 1 = b24 at H ⊢
                generalize w55.heap.size = b23 at H ⊢
                try clear C
                try clear w55
                have C := H.cells
                try simp only [cellsOf, cellsM, apartOf, apartM, and_true] at C
                have hee : (eU != eU) = false := by simp
                have HSM := Lib.hid (fun x y wx hx hy => r31same_any S W z x y lU (by have := (HG.out.put HU.out).len32; dsimp only at this; omega) wx hx hy)
                have hff : (fU != fU) = false := by cases fU <;> rfl
                go_wp2_with fail
                refine (HSM.out ⟨saU, naU, caU⟩ ⟨saG, naG, caG⟩ _ (H.says 9 rfl).1 (H.says 12 rfl).1).mono ?_
                rintro _ w50 ⟨rfl, hb⟩
                replace H := H.below hb
                clear hb
                try clear C
                try simp only [World.size_alloc, List.nil_append, List.cons_append, List.append_assoc] at H
                try clear w49
                have C := H.cells
                try simp only [cellsOf, cellsM, apartOf, apartM, and_true] at C
                dsimp only
                go_wp2_with fail
                refine (l30same_any vU ⟨yaU, ynU, ycU⟩ ⟨yaG, ynG, ycG⟩ _ (H.says 9 rfl).2 (H.says 12 rfl).2).mono ?_
                rintro _ w51 ⟨rfl, hb⟩
                replace H := H.below hb
                clear hb
                try clear C
                try simp only [World.size_alloc, List.nil_append, List.cons_append, List.append_assoc] at H
                try clear w50
                have C := H.cells
                try simp only [cellsOf, cellsM, apartOf, apartM, and_true] at C
                dsimp only
                clear HSM
                go_wp2_with fail
                go_roundw
                case rel => exact ⟨0 + 1, by go_num, by omega, HS.less H (by repeat (first | exact .slnil | refine .cons_cons _ ?_ | refine .cons _ ?_))⟩
                case measure => simp [intOf]
              · skip
                skip
                go_upto_region 20 with fail
                generalize hwb : wr.alloc _ = w52
                replace H := HS.eqW hwb H.alloc
                try simp only [World.size_alloc, List.nil_append, List.cons_append, List.append_assoc] at H
                clear hwb
                generalize wr.heap.size = b18 at H ⊢
                try clear C
                try clear wr
                have C := H.cells
                try simp only [cellsOf, cellsM, apartOf, apartM, and_true] at C
                go_wp2_with fail
                refine (cput_f HG.out ⟨sc, nc, cc⟩ ⟨ad1, bs1, d1, p1⟩ ⟨xa1, xn1, xc1⟩ HB1.out _ (H.says 2 rfl) (H.says 4 rfl)).mono ?_
                rintro _ w56 ⟨⟨lU, vU, fU, eU⟩, ⟨saU, naU, caU⟩, ⟨yaU, ynU, ycU⟩, FU, hU, rfl, K⟩
                replace H := H.join K (one_low rfl)
                clear K
                try simp only [List.nil_append, List.cons_append] at H
                skip
                try clear C
                try simp only [World.size_alloc, List.nil_append, List.cons_append, List.append_assoc] at H
                have C := H.cells
                try simp only [cellsOf, cellsM, apartOf, apartM, and_true] at C
                dsimp only [caV, lnV]
                go_upto_region 21 with fail
                generalize hwb : (w56.alloc _).alloc _ = w53
                replace H := HS.eqW hwb H.alloc.alloc
                try simp only [World.size_alloc, List.nil_append, List.cons_append, List.append_assoc] at H
                clear hwb
                generalize w56.heap.size + 1 = b20 at H ⊢
                generalize w56.heap.size = b19 at H ⊢
                try clear C
                try clear w56
                have C := H.cells
                try simp only [cellsOf, cellsM, apartOf, apartM, and_true] at C
                go_wp2_with fail
                refine (r31put_f HG.out ⟨sc, nc, cc⟩ ⟨ad1, bs1, d1, p1⟩ ⟨xa1, xn1, xc1⟩ HB1.out _ (H.says 2 rfl) (H.says 4 rfl)).mono ?_
                rintro _ w57 ⟨⟨lG, vG, fG, eG⟩, ⟨saG, naG, caG⟩, ⟨yaG, ynG, ycG⟩, FG, hG, rfl, K⟩
                replace H := H.join K (one_low rfl)
                clear K
                try simp only [List.nil_append, List.cons_append] at H
                skip
                try clear C
                try simp only [World.size_alloc, List.nil_append, List.cons_append, List.append_assoc] at H
                have C := H.cells
                try simp only [cellsOf, cellsM, apartOf, apartM, and_true] at C
                dsimp only [caV, lnV]
                obtain ⟨rfl, rfl, rfl, rfl⟩ : lU = lG ∧ vU = vG ∧ fU = fG ∧ eU = eG := by simpa using HG.out.put_one hU hG
                have HU := Lib.hid hU
                clear hU hG
                go_upto_region 22 with fail
                generalize hwb : (w57.alloc _).alloc _ = w54
                replace H := HS.eqW hwb H.alloc.alloc
                try simp only [World.size_alloc, List.nil_append, List.cons_append, List.append_assoc] at H
                clear hwb
                generalize w57.heap.size + 1 = b24 at H ⊢
                generalize w57.heap.size = b23 at H ⊢
                try clear C
                try clear w57
                have C := H.cells
                try simp only [cellsOf, cellsM, apartOf, apartM, and_true] at C
                have hee : (eU != eU) = false := by simp
                have HSM := Lib.hid (fun x y wx hx hy => r31same_any S W z x y lU (by have := (HG.out.put HU.out).len32; dsimp only at this; omega) wx hx hy)
                have hff : (fU != fU) = false := by cases fU <;> rfl
                go_wp2_with fail
                refine (HSM.out ⟨saU, naU, caU⟩ ⟨saG, naG, caG⟩ _ (H.says 9 rfl).1 (H.says 12 rfl).1).mono ?_
                rintro _ w55 ⟨rfl, hb⟩
                replace H := H.below hb
                clear hb
                try clear C
                try simp only [World.size_alloc, List.nil_append, List.cons_append, List.append_assoc] at H
                try clear w54
                have C := H.cells
                try simp only [cellsOf, cellsM, apartOf, apartM, and_true] at C
                dsimp only
                go_wp2_with fail
                refine (l30same_any vU ⟨yaU, ynU, ycU⟩ ⟨yaG, ynG, ycG⟩ _ (H.says 9 rfl).2 (H.says 12 rfl).2).mono ?_
                rintro _ w56 ⟨rfl, hb⟩
                replace H := H.below hb
                clear hb
                try clear C
                try simp only [World.size_alloc, List.nil_append, List.cons_append, List.append_assoc] at H
                try clear w55
                have C := H.cells
                try simp only [cellsOf, cellsM, apartOf, apartM, and_true] at C
                dsimp only
                clear HSM
                go_wp2_with fail
                go_roundw
                case rel => exact ⟨1 + 1, by go_num, by omega, HS.less H (by repeat (first | exact .slnil | refine .cons_cons _ ?_ | refine .cons _ ?_))⟩
                case measure => simp [intOf]
              · skip
                skip
                go_upto_region 20 with fail
                generalize hwb : wr.alloc _ = w57
                replace H := HS.eqW hwb H.alloc
                try simp only [World.size_alloc, List.nil_append, List.cons_append, List.append_assoc] at H
                clear hwb
                generalize wr.heap.size = b18 at H ⊢
                try clear C
                try clear wr
                have C := H.cells
                try simp only [cellsOf, cellsM, apartOf, apartM, and_true] at C
                go_wp2_with fail
                refine (cput_f HG.out ⟨sc, nc, cc⟩ ⟨ad2, bs2, d2, p2⟩ ⟨xa2, xn2, xc2⟩ HB2.out _ (H.says 2 rfl) (H.says 5 rfl)).mono ?_
                rintro _ w58 ⟨⟨lU, vU, fU, eU⟩, ⟨saU, naU, caU⟩, ⟨yaU, ynU, ycU⟩, FU, hU, rfl, K⟩
                replace H := H.join K (one_low rfl)
                clear K
                try simp only [List.nil_append, List.cons_append] at H
                skip
                try clear C
                try simp only [World.size_alloc, List.nil_append, List.cons_append, List.append_assoc] at H
                have C := H.cells
                try simp only [cellsOf, cellsM, apartOf, apartM, and_true] at C
                dsimp only [caV, lnV]
                go_upto_region 21 with fail
                generalize hwb : (w58.alloc _).alloc _ = w58
                replace H := HS.eqW hwb H.alloc.alloc
                try simp only [World.size_alloc, List.nil_append, List.cons_append, List.append_assoc] at H
                clear hwb
                generalize w58.heap.size + 1 = b20 at H ⊢
                generalize w58.heap.size = b19 at H ⊢
                try clear C
                try clear w58
                have C := H.cells
                try simp only [cellsOf, cellsM, apartOf, apartM, and_true] at C
                go_wp2_with fail
                refine (r31put_f HG.out ⟨sc, nc, cc⟩ ⟨ad2, bs2, d2, p2⟩ ⟨xa2, xn2, xc2⟩ HB2.out _ (H.says 2 rfl) (H.says 5 rfl)).mono ?_
                rintro _ w59 ⟨⟨lG, vG, fG, eG⟩, ⟨saG, naG, caG⟩, ⟨yaG, ynG, ycG⟩, FG, hG, rfl, K⟩
                replace H := H.join K (one_low rfl)
                clear K
                try simp only [List.nil_append, List.cons_append] at H
                skip
                try clear C
                try simp only [World.size_alloc, List.nil_append, List.cons_append, List.append_assoc] at H
                have C := H.cells
                try simp only [cellsOf, cellsM, apartOf, apartM, and_true] at C
                dsimp only [caV, lnV]
                obtain ⟨rfl, rfl, rfl, rfl⟩ : lU = lG ∧ vU = vG ∧ fU = fG ∧ eU = eG := by simpa using HG.out.put_one hU hG
                have HU := Lib.hid hU
                clear hU hG
                go_upto_region 22 with fail
                generalize hwb : (w59.alloc _).alloc _ = w59
                replace H := HS.eqW hwb H.alloc.alloc
                try simp only [World.size_alloc, List.nil_append, List.cons_append, List.append_assoc] at H
                clear hwb
                generalize w59.heap.size + 1 = b24 at H ⊢
                generalize w59.heap.size = b23 at H ⊢
                try clear C
                try clear w59
                have C := H.cells
                try simp only [cellsOf, cellsM, apartOf, apartM, and_true] at C
                have hee : (eU != eU) = false := by simp
                have HSM := Lib.hid (fun x y wx hx hy => r31same_any S W z x y lU (by have := (HG.out.put HU.out).len32; dsimp only at this; omega) wx hx hy)
                have hff : (fU != fU) = false := by cases fU <;> rfl
                go_wp2_with fail
                refine (HSM.out ⟨saU, naU, caU⟩ ⟨saG, naG, caG⟩ _ (H.says 9 rfl).1 (H.says 12 rfl).1).mono ?_
                rintro _ w60 ⟨rfl, hb⟩
                replace H := H.below hb
                clear hb
                try clear C
                try simp only [World.size_alloc, List.nil_append, List.cons_append, List.append_assoc] at H
                try clear w59
                have C := H.cells
                try simp only [cellsOf, cellsM, apartOf, apartM, and_true] at C
                dsimp only
                go_wp2_with fail
                refine (l30same_any vU ⟨yaU, ynU, ycU⟩ ⟨yaG, ynG, ycG⟩ _ (H.says 9 rfl).2 (H.says 12 rfl).2).mono ?_
                rintro _ w61 ⟨rfl, hb⟩
                replace H := H.below hb
                clear hb
                try clear C
                try simp only [World.size_alloc, List.nil_append, List.cons_append, List.append_assoc] at H
                try clear w60
                have C := H.cells
                try simp only [cellsOf, cellsM, apartOf, apartM, and_true] at C
                dsimp only
                clear HSM
                go_wp2_with fail
                go_roundw
                case rel => exact ⟨2 + 1, by go_num, by omega, HS.less H (by repeat (first | exact .slnil | refine .cons_cons _ ?_ | refine .cons _ ?_))⟩
                case measure => simp [intOf]
              · skip
                skip
                go_upto_region 20 with fail
                generalize hwb : wr.alloc _ = w62
                replace H := HS.eqW hwb H.alloc
                try simp only [World.size_alloc, List.nil_append, List.cons_append, List.append_assoc] at H
                clear hwb
                generalize wr.heap.size = b18 at H ⊢
                try clear C
                try clear wr
                have C := H.cells
                try simp only [cellsOf, cellsM, apartOf, apartM, and_true] at C
                go_wp2_with fail
                refine (cput_f HG.out ⟨sc, nc, cc⟩ ⟨ad3, bs3, d3, p3⟩ ⟨xa3, xn3, xc3⟩ HB3.out _ (H.says 2 rfl) (H.says 6 rfl)).mono ?_
                rintro _ w60 ⟨⟨lU, vU, fU, eU⟩, ⟨saU, naU, caU⟩, ⟨yaU, ynU, ycU⟩, FU, hU, rfl, K⟩
                replace H := H.join K (one_low rfl)
                clear K
                try simp only [List.nil_append, List.cons_append] at H
                skip
                try clear C
                try simp only [World.size_alloc, List.nil_append, List.cons_append, List.append_assoc] at H
                have C := H.cells
                try simp only [cellsOf, cellsM, apartOf, apartM, and_true] at C
                dsimp only [caV, lnV]
                go_upto_region 21 with fail
                generalize hwb : (w60.alloc _).alloc _ = w63
                replace H := HS.eqW hwb H.alloc.alloc
                try simp only [World.size_alloc, List.nil_append, List.cons_append, List.append_assoc] at H
                clear hwb
                generalize w60.heap.size + 1 = b20 at H ⊢
                generalize w60.heap.size = b19 at H ⊢
                try clear C
                try clear w60
                have C := H.cells
                try simp only [cellsOf, cellsM, apartOf, apartM, and_true] at C
                go_wp2_with fail
                refine (r31put_f HG.out ⟨sc, nc, cc⟩ ⟨ad3, bs3, d3, p3⟩ ⟨xa3, xn3, xc3⟩ HB3.out _ (H.says 2 rfl) (H.says 6 rfl)).mono ?_
                rintro _ w61 ⟨⟨lG, vG, fG, eG⟩, ⟨saG, naG, caG⟩, ⟨yaG, ynG, ycG⟩, FG, hG, rfl, K⟩
                replace H := H.join K (one_low rfl)
                clear K
                try simp only [List.nil_append, List.cons_append] at H
                skip
                try clear C
                try simp only [World.size_alloc, List.nil_append, List.cons_append, List.append_assoc] at H
                have C := H.cells
                try simp only [cellsOf, cellsM, apartOf, apartM, and_true] at C
                dsimp only [caV, lnV]
                obtain ⟨rfl, rfl, rfl, rfl⟩ : lU = lG ∧ vU = vG ∧ fU = fG ∧ eU = eG := by simpa using HG.out.put_one hU hG
                have HU := Lib.hid hU
                clear hU hG
                go_upto_region 22 with fail
                generalize hwb : (w61.alloc _).alloc _ = w64
                replace H := HS.eqW hwb H.alloc.alloc
                try simp only [World.size_alloc, List.nil_append, List.cons_append, List.append_assoc] at H
                clear hwb
                generalize w61.heap.size + 1 = b24 at H ⊢
                generalize w61.heap.size = b23 at H ⊢
                try clear C
                try clear w61
                have C := H.cells
                try simp only [cellsOf, cellsM, apartOf, apartM, and_true] at C
                have hee : (eU != eU) = false := by simp
                have HSM := Lib.hid (fun x y wx hx hy => r31same_any S W z x y lU (by have := (HG.out.put HU.out).len32; dsimp only at this; omega) wx hx hy)
                have hff : (fU != fU) = false := by cases fU <;> rfl
                go_wp2_with fail
                refine (HSM.out ⟨saU, naU, caU⟩ ⟨saG, naG, caG⟩ _ (H.says 9 rfl).1 (H.says 12 rfl).1).mono ?_
                rintro _ w65 ⟨rfl, hb⟩
                replace H := H.below hb
                clear hb
                try clear C
                try simp only [World.size_alloc, List.nil_append, List.cons_append, List.append_assoc] at H
                try clear w64
                have C := H.cells
                try simp only [cellsOf, cellsM, apartOf, apartM, and_true] at C
                dsimp only
                go_wp2_with fail
                refine (l30same_any vU ⟨yaU, ynU, ycU⟩ ⟨yaG, ynG, ycG⟩ _ (H.says 9 rfl).2 (H.says 12 rfl).2).mono ?_
                rintro _ w66 ⟨rfl, hb⟩
                replace H := H.below hb
                clear hb
                try clear C
                try simp only [World.size_alloc, List.nil_append, List.cons_append, List.append_assoc] at H
                try clear w65
                have C := H.cells
                try simp only [cellsOf, cellsM, apartOf, apartM, and_true] at C
                dsimp only
                clear HSM
                go_wp2_with fail
                go_roundw
                case rel => exact ⟨3 + 1, by go_num, by omega, HS.less H (by repeat (first | exact .slnil | refine .cons_cons _ ?_ | refine .cons _ ?_))⟩
                case measure => simp [intOf]
            · obtain rfl : j = 4 := by omega
              skip
              go_upto_region 25 with fail
              refine wp_region_xH (by kernel_rfl) (by kernel_rfl) (by kernel_rfl) (by kernel_rfl) (fun _ => False) (H) ?_
              clear H; intro w67 H hz0 hs0
              try clear C
              try simp only [World.size_alloc, List.nil_append, List.cons_append, List.append_assoc] at H hz0
              clear hz0
              try clear wr
              have C := H.cells
              try simp only [cellsOf, cellsM, apartOf, apartM, and_true] at C
              have Z := H.zs
              try simp only [ltsOf, ltsM, and_true] at Z
              have hz0 := Nat.le_refl w67.heap.size
              repeat (first | (refine wpX_skip rfl ?_; go_simp) | (refine wpX_free rfl rfl rfl (fun K hK => ?_); go_step; refine hK _ _ ?_; clear hK K) | (refine wpX_load rfl rfl rfl (by simp [Stay, OneD, NoD, *]) hs0 (by simp [*]) (fun K hK => ?_); go_step; refine hK _ _ ?_; clear hK K))
              refine wpX_eff rfl rfl (fun _ _ => ?_)
              go_step
              refine (cdirty_f S W z ⟨sc, nc, cc⟩ l HG.out.small _ (H.says 2 rfl)).mono ?_
              rintro _ w68 ⟨ms, ⟨ma, mn, mc⟩, Fm, hm, rfl, K⟩
              replace hs0 := hs0.belowS hz0 K.done
              replace hz0 := Nat.le_trans hz0 K.done.size
              replace H := H.join K (one_low rfl)
              clear K
              try simp only [List.nil_append, List.cons_append, List.append_assoc] at H
              try clear C
              have C := H.cells
              try simp only [cellsOf, cellsM, apartOf, apartM, and_true] at C
              try clear w67
              dsimp only
              go_step
              refine ⟨hs0, ?_⟩
              repeat (first | (refine wpX_skip rfl ?_; go_simp) | (refine wpX_free rfl rfl rfl (fun K hK => ?_); go_step; refine hK _ _ ?_; clear hK K) | (refine wpX_load rfl rfl rfl (by simp [Stay, OneD, NoD, *]) hs0 (by simp [*]) (fun K hK => ?_); go_step; refine hK _ _ ?_; clear hK K))
              refine wpX_eff rfl rfl (fun _ _ => ?_)
              go_step
              refine (r31dirty_f S W z ⟨sc, nc, cc⟩ l HG.out.small _ (H.says 2 rfl)).mono ?_
              rintro _ w69 ⟨ms2, ⟨ma2, mn2, mc2⟩, Fm2, hm2, rfl, K⟩
              replace hs0 := hs0.belowS hz0 K.done
              replace hz0 := Nat.le_trans hz0 K.done.size
              replace H := H.join K (one_low rfl)
              clear K
              try simp only [List.nil_append, List.cons_append, List.append_assoc] at H
              try clear C
              have C := H.cells
              try simp only [cellsOf, cellsM, apartOf, apartM, and_true] at C
              try clear w68
              dsimp only
              go_step
              refine ⟨hs0, ?_⟩
              obtain rfl : ms2 = ms := HG.out.dirty_one hm2 hm
              have HMS := Lib.hid (show ms2.length ≤ 1000000 by have := dirty_len HG.out hm; omega)
              clear hm hm2
              repeat (first | (refine wpX_skip rfl ?_; go_simp) | (refine wpX_free rfl rfl rfl (fun K hK => ?_); go_step; refine hK _ _ ?_; clear hK K) | (refine wpX_load rfl rfl rfl (by simp [Stay, OneD, NoD, *]) hs0 (by simp [*]) (fun K hK => ?_); go_step; refine hK _ _ ?_; clear hK K))
              refine wpX_eff rfl rfl (fun _ _ => ?_)
              go_step
              refine (sameList_any ⟨ma, mn, mc⟩ ⟨ma2, mn2, mc2⟩ ms2 HMS.out _ (H.says 8 rfl) (H.says 9 rfl)).mono ?_
              rintro _ w70 ⟨rfl, hb⟩
              replace hs0 := hs0.belowS hz0 hb
              replace hz0 := Nat.le_trans hz0 hb.size
              replace H := H.below hb
              clear hb
              try clear C
              have C := H.cells
              try simp only [cellsOf, cellsM, apartOf, apartM, and_true] at C
              try clear w69
              dsimp only
              go_step
              refine ⟨hs0, ?_⟩
              repeat (first | (refine wpX_skip rfl ?_; go_simp) | (refine wpX_free rfl rfl rfl (fun K hK => ?_); go_step; refine hK _ _ ?_; clear hK K) | (refine wpX_load rfl rfl rfl (by simp [Stay, OneD, NoD, *]) hs0 (by simp [*]) (fun K hK => ?_); go_step; refine hK _ _ ?_; clear hK K))
              refine wpX_eff rfl rfl (fun _ _ => ?_)
              go_step
              refine (cflush_f S W z ⟨sc, nc, cc⟩ l HG.out.small _ (H.says 2 rfl)).mono ?_
              rintro _ w71 ⟨⟨fa, fn, fc⟩, Ff, rfl, K⟩
              replace hs0 := hs0.belowS hz0 K.done
              replace hz0 := Nat.le_trans hz0 K.done.size
              replace H := H.join K (one_low rfl)
              clear K
              try simp only [List.nil_append, List.cons_append, List.append_assoc] at H
              try clear C
              have C := H.cells
              try simp only [cellsOf, cellsM, apartOf, apartM, and_true] at C
              try clear w70
              dsimp only
              go_step
              refine ⟨hs0, ?_⟩
              dsimp only [caV]
              repeat (first | (refine wpX_skip rfl ?_; go_simp) | (refine wpX_free rfl rfl rfl (fun K hK => ?_); go_step; refine hK _ _ ?_; clear hK K) | (refine wpX_load rfl rfl rfl (by simp [Stay, OneD, NoD, *]) hs0 (by simp [*]) (fun K hK => ?_); go_step; refine hK _ _ ?_; clear hK K))
              refine wpX_eff rfl rfl (fun _ _ => ?_)
              go_step
              refine (r31flush_f S W z ⟨sc, nc, cc⟩ l HG.out.small _ (H.says 2 rfl)).mono ?_
              rintro _ w72 ⟨⟨fa2, fn2, fc2⟩, Ff2, rfl, K⟩
              replace hs0 := hs0.belowS hz0 K.done
              replace hz0 := Nat.le_trans hz0 K.done.size
              replace H := H.join K (one_low rfl)
              clear K
              try simp only [List.nil_append, List.cons_append, List.append_assoc] at H
              try clear C
              have C := H.cells
              try simp only [cellsOf, cellsM, apartOf, apartM, and_true] at C
              try clear w71
              dsimp only
              go_step
              refine ⟨hs0, ?_⟩
              dsimp only [caV]
              repeat (first | (refine wpX_skip rfl ?_; go_simp) | (refine wpX_free rfl rfl rfl (fun K hK => ?_); go_step; refine hK _ _ ?_; clear hK K) | (refine wpX_load rfl rfl rfl (by simp [Stay, OneD, NoD, *]) hs0 (by simp [*]) (fun K hK => ?_); go_step; refine hK _ _ ?_; clear hK K))
              refine wpX_eff rfl rfl (fun _ _ => ?_)
              go_step
              refine (r31same_any S W z ⟨fa, fn, fc⟩ ⟨fa2, fn2, fc2⟩ (flushL l) (by have := HG.out.flush.len32; omega) _ (H.says 10 rfl) (H.says 11 rfl)).mono ?_
              rintro _ w73 ⟨rfl, hb⟩
              replace hs0 := hs0.belowS hz0 hb
              replace hz0 := Nat.le_trans hz0 hb.size
              replace H := H.below hb
              clear hb
              try clear C
              have C := H.cells
              try simp only [cellsOf, cellsM, apartOf, apartM, and_true] at C
              try clear w72
              dsimp only
              go_step
              refine ⟨hs0, ?_⟩
              repeat (first | (refine wpX_skip rfl ?_; go_simp) | (refine wpX_free rfl rfl rfl (fun K hK => ?_); go_step; refine hK _ _ ?_; clear hK K) | (refine wpX_load rfl rfl rfl (by simp [Stay, OneD, NoD, *]) hs0 (by simp [*]) (fun K hK => ?_); go_step; refine hK _ _ ?_; clear hK K))
              refine wpX_eff rfl rfl (fun _ _ => ?_)
              go_step
              refine (HAW.out _).mono ?_
              rintro _ w74 ⟨rfl, hb⟩
              replace hs0 := hs0.belowS hz0 hb
              replace hz0 := Nat.le_trans hz0 hb.size
              replace H := H.below hb
              clear hb
              try clear C
              have C := H.cells
              try simp only [cellsOf, cellsM, apartOf, apartM, and_true] at C
              try clear w73
              dsimp only
              go_step
              refine ⟨hs0, ?_⟩
              repeat (first | (refine wpX_skip rfl ?_; go_simp) | (refine wpX_free rfl rfl rfl (fun K hK => ?_); go_step; refine hK _ _ ?_; clear hK K) | (refine wpX_load rfl rfl rfl (by simp [Stay, OneD, NoD, *]) hs0 (by simp [*]) (fun K hK => ?_); go_step; refine hK _ _ ?_; clear hK K))
              (refine wpX_nil ?_; go_step)
              go_wp2_with fail
              go_ret
              exact ⟨rfl, H.done⟩
    · have h100i : (100 : Int) < xn := by omega
      go_enter Try.func7, Try.ntmps7
      have H := HS.start NoD w
      go_upto_region 1 with fail
      generalize hwb : w.alloc _ = w1
      replace H := HS.eqW hwb H.alloc
      try simp only [World.size_alloc, List.nil_append, List.cons_append, List.append_assoc] at H
      clear hwb
      generalize w.heap.size = b4 at H ⊢
      try clear C
      have C := H.cells
      try simp only [cellsOf, cellsM, apartOf, apartM, and_true] at C
      go_wp2_with fail
      refine (gives_of31 (HLI.out _)).mono ?_
      rintro _ w2 ⟨rfl, hb⟩
      replace H := H.below hb
      clear hb
      try clear C
      try simp only [World.size_alloc, List.nil_append, List.cons_append, List.append_assoc] at H
      try clear w1
      have C := H.cells
      try simp only [cellsOf, cellsM, apartOf, apartM, and_true] at C
      dsimp only
      go_wp2_with fail
      refine (HAW.out _).mono ?_
      rintro _ w3 ⟨rfl, hb⟩
      replace H := H.below hb
      clear hb
      try clear C
      try simp only [World.size_alloc, List.nil_append, List.cons_append, List.append_assoc] at H
      try clear w2
      have C := H.cells
      try simp only [cellsOf, cellsM, apartOf, apartM, and_true] at C
      dsimp only
      go_wp2_with fail
      go_ret
      exact ⟨rfl, H.done⟩
  · rw [decide_eq_false h400] at hli
    have HLI := Lib.hid hli
    clear hli
    go_enter Try.func7, Try.ntmps7
    have H := HS.start NoD w
    go_upto_region 1 with fail
    generalize hwb : w.alloc _ = w1
    replace H := HS.eqW hwb H.alloc
    try simp only [World.size_alloc, List.nil_append, List.cons_append, List.append_assoc] at H
    clear hwb
    generalize w.heap.size = b4 at H ⊢
    try clear C
    have C := H.cells
    try simp only [cellsOf, cellsM, apartOf, apartM, and_true] at C
    go_wp2_with fail
    refine (gives_of31 (HLI.out _)).mono ?_
    rintro _ w2 ⟨rfl, hb⟩
    replace H := H.below hb
    clear hb
    try clear C
    try simp only [World.size_alloc, List.nil_append, List.cons_append, List.append_assoc] at H
    try clear w1
    have C := H.cells
    try simp only [cellsOf, cellsM, apartOf, apartM, and_true] at C
    dsimp only
    go_wp2_with fail
    refine (HAW.out _).mono ?_
    rintro _ w3 ⟨rfl, hb⟩
    replace H := H.below hb
    clear hb
    try clear C
    try simp only [World.size_alloc, List.nil_append, List.cons_append, List.append_assoc] at H
    try clear w2
    have C := H.cells
    try simp only [cellsOf, cellsM, apartOf, apartM, and_true] at C
    dsimp only
    go_wp2_with fail
    go_ret
    exact ⟨rfl, H.done⟩
end Go.Proofs.Ytfmcicmbehjdcaa
