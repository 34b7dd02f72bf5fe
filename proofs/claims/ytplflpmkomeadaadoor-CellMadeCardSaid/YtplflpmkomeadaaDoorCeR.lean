/- cell.Valid: which memories are valid, on anything. -/
import Derived.Test.YtplflpmkomeadaaDoorCeF
namespace Go.Proofs.YtplflpmkomeadaaDoor
set_option linter.unusedSimpArgs false
set_option linter.unusedVariables false
open Go.RowKit
set_option maxRecDepth 100000
attribute [local irreducible] wpX wpF Calls

/-- The index of the last word, -1 at first. -/
def LastI (ws : List Wm) (j : Nat) (lv : Int) : Prop := (j = 0 → lv = -1) ∧ (0 < j → lv = (ws[j - 1]!).ix ∧ 0 ≤ lv)
theorem LastI.ge {ws : List Wm} {j : Nat} {lv : Int} (h : LastI ws j lv) : -1 ≤ lv := by
  rcases Nat.eq_zero_or_pos j with e | e
  · rw [h.1 e]; exact Int.le_refl _
  · have := (h.2 e).2; omega
theorem LastI.next {ws : List Wm} {j n : Nat} (_ : j < n) {ix : Int} (h : (ws[j]!).ix = ix) (h0 : 0 ≤ ix) : LastI ws (j + 1) ix := ⟨fun e => by omega, fun _ => ⟨by rw [Nat.add_sub_cancel]; exact h.symm, h0⟩⟩
theorem wokB_last {sz n : Nat} {ws : List Wm} {j : Nat} {lv : Int} (h : LastI ws j lv) : wokB sz n ws j = (decide (lv < (ws[j]!).ix) && (decide ((ws[j]!).ix < sz) && (decide ((ws[j]!).bs.length = n) && !blankW ws[j]!))) := by
  unfold wokB
  rcases Nat.eq_zero_or_pos j with e | e
  · have := h.1 e
    rw [decide_eq_true e]
    have h1 : decide (0 ≤ (ws[j]!).ix ∧ (ws[j]!).ix < (sz : Int)) = (decide (lv < (ws[j]!).ix) && decide ((ws[j]!).ix < (sz : Int))) := by
      rw [← Bool.decide_and]; exact decide_eq_decide.2 (by omega)
    rw [h1]
    cases decide (lv < (ws[j]!).ix) <;> cases decide ((ws[j]!).ix < (sz : Int)) <;> cases decide ((ws[j]!).bs.length = n) <;> cases blankW ws[j]! <;> rfl
  · obtain ⟨h1, h2⟩ := h.2 e
    rw [decide_eq_false (show ¬ j = 0 by omega), ← h1]
    have h3 : (decide (0 ≤ (ws[j]!).ix ∧ (ws[j]!).ix < (sz : Int)) && decide (lv < (ws[j]!).ix)) = (decide (lv < (ws[j]!).ix) && decide ((ws[j]!).ix < (sz : Int))) := by
      rw [← Bool.decide_and, ← Bool.decide_and]; exact decide_eq_decide.2 (by omega)
    rw [← Bool.and_assoc, ← h3]
    cases decide (0 ≤ (ws[j]!).ix ∧ (ws[j]!).ix < (sz : Int)) <;> cases decide (lv < (ws[j]!).ix) <;> cases decide ((ws[j]!).bs.length = n) <;> cases blankW ws[j]! <;> rfl
set_option maxHeartbeats 16000000 in
theorem cvalid13_any (M : Mm) (x y : Sv) (hM : LongM M) (w : World) (hNm : Nm w) (h : MeAt w x y M) : Calls Tryd.prog 21 #[meV M x y] w (Gives (.bool (goodB M)) w) := by
  have HNm := Lib.hid hNm
  clear hNm
  obtain ⟨s0, s1, s2, s3, s4, s5, kd, dt, ck, fx, ws, fs⟩ := M
  obtain ⟨xa, xn, xc⟩ := x
  obtain ⟨ya, yn, yc⟩ := y
  obtain ⟨⟨q0, rfl, hn, -, hl, hb⟩, hn2, hcap2, hl2⟩ := h
  dsimp only at hn hl hn2 hl2 hcap2
  subst hn hn2
  obtain ⟨hq1, hf1, hsm0⟩ := hM
  dsimp only at hq1 hf1 hsm0
  rw [List.length_map] at hq1
  have HB := Lib.hid (fun j (hj : j < q0.length) => hb _ (mem_bang2 hj))
  have HSM := Lib.hid (fun j (hj : j < q0.length) => hsm0 _ (map_mem2 hj))
  have HL := Lib.hid hl
  have HL2 := Lib.hid hl2
  have HCP2 := Lib.hid hcap2
  have HQ1 := Lib.hid hq1
  have HF1 := Lib.hid hf1
  clear hb hsm0 hl hl2 hcap2
  obtain ⟨r9, hr9⟩ : ∃ r, r = goodB (⟨s0, s1, s2, s3, s4, s5, kd, dt, ck, fx, q0.map Prod.fst, fs⟩ : Mm) := ⟨_, rfl⟩
  rw [← hr9]
  have HR9 := Lib.hid hr9
  clear hr9
  show Calls Tryd.prog 21 #[.agg #[.int .i64 s0, .int .i64 s1, .int .i64 s2, .int .i64 s3, .int .i64 s4, .int .i64 s5, .int .i64 kd, .int .i64 dt, .int .i64 ck, .int .i64 fx, .slice xa q0.length xc, .slice ya fs.length yc]] w _
  have HV := Lib.hid (fun w => valid_any s0 s1 s2 s3 s4 s5 w)
  have HC := Lib.hid (fun w => scode_any kd dt ck fx w)
  by_cases hsv : SV s0 s1 s2 s3 s4 s5
  · replace HV := Lib.hid (fun w => by have := HV.out w; rw [decide_eq_true hsv] at this; exact this)
    cases hco : codeB kd dt ck fx with
    | true =>
      replace HC := Lib.hid (fun w => by have := HC.out w; rw [hco] at this; exact this)
      by_cases hfl : fs.length ≤ 64
      · have hfli : (fs.length : Int) ≤ 64 := by omega
        have HSV := Lib.hid hsv
        have HCO := Lib.hid hco
        have HFL := Lib.hid hfl
        have hrg := codeB_rng hco
        obtain ⟨N, hN⟩ : ∃ N : Nat, (N : Int) = dt + ck := ⟨(dt + ck).toNat, by omega⟩
        have hN2 : (dt + ck).toNat = N := by omega
        have HNN := Lib.hid (show (dt + ck).toNat = N ∧ dt + ck = (N : Int) from ⟨hN2, hN.symm⟩)
        obtain ⟨sz9, hZ⟩ : ∃ sz9 : Nat, sz9 = sizeN s0 s1 s2 s3 s4 s5 := ⟨_, rfl⟩
        have HZZ := Lib.hid hZ
        have hZ4 : sz9 ≤ 4096 := by rw [hZ]; exact sizeN_le _ _ _ _ _ _
        have hN41 : N ≤ 40 := by omega
        have HCH := Lib.hid (fun w => show Calls Tryd.prog 43 #[.agg #[.int .i64 kd, .int .i64 dt, .int .i64 ck, .int .i64 fx]] w (Gives (.int .i64 N) w) from by have := cchips_any kd dt ck fx (by omega) (by omega) w; rwa [← hN] at this)
        have HSZ := Lib.hid (fun w => show Calls Tryd.prog 49 #[v6 s0 s1 s2 s3 s4 s5] w (Gives (.int .i64 sz9) w) from by rw [hZ]; exact size_all s0 s1 s2 s3 s4 s5 w)
        clear hsv hco hrg hN hN2 hZ
        go_enter Tryd.func21, Tryd.ntmps21
        have H := HS.start NoD w
        go_upto_region 1 with fail
        generalize hwb : w.alloc _ = w1
        replace H := HS.eqW hwb H.alloc
        try simp only [World.size_alloc, List.nil_append, List.cons_append, List.append_assoc] at H
        clear hwb
        generalize w.heap.size = b1 at H ⊢
        try clear C
        have C := H.cells
        try simp only [cellsOf, cellsM, apartOf, apartM, and_true] at C
        go_wp2_with fail
        refine (HV.out _).mono ?_
        rintro _ w2 ⟨rfl, hb⟩
        replace H := H.below hb
        clear hb
        try clear C
        try simp only [World.size_alloc, List.nil_append, List.cons_append, List.append_assoc] at H
        try clear w1
        have C := H.cells
        try simp only [cellsOf, cellsM, apartOf, apartM, and_true] at C
        dsimp only
        go_wp2_with fail
        refine (HC.out _).mono ?_
        rintro _ w3 ⟨rfl, hb⟩
        replace H := H.below hb
        clear hb
        try clear C
        try simp only [World.size_alloc, List.nil_append, List.cons_append, List.append_assoc] at H
        try clear w2
        have C := H.cells
        try simp only [cellsOf, cellsM, apartOf, apartM, and_true] at C
        dsimp only
        clear HV HC
        go_upto_region 3 with fail
        refine wp_region_xH (by kernel_rfl) (by kernel_rfl) (by kernel_rfl) (by kernel_rfl) (fun _ => False) (H) ?_
        clear H; intro w4 H hz0 hs0
        try clear C
        try simp only [World.size_alloc, List.nil_append, List.cons_append, List.append_assoc] at H hz0
        clear hz0
        try clear w3
        have C := H.cells
        try simp only [cellsOf, cellsM, apartOf, apartM, and_true] at C
        have Z := H.zs
        try simp only [ltsOf, ltsM, and_true] at Z
        have hz0 := Nat.le_refl w4.heap.size
        repeat (first | (refine wpX_skip rfl ?_; go_simp) | (refine wpX_free rfl rfl rfl (fun K hK => ?_); go_step; refine hK _ _ ?_; clear hK K) | (refine wpX_load rfl rfl rfl (by simp [Stay, OneD, NoD, *]) hs0 (by simp [*]) (fun K hK => ?_); go_step; refine hK _ _ ?_; clear hK K))
        refine wpX_eff rfl rfl (fun _ _ => ?_)
        go_step
        refine (HSZ.out _).mono ?_
        rintro _ w5 ⟨rfl, hb⟩
        replace hs0 := hs0.belowS hz0 hb
        replace hz0 := Nat.le_trans hz0 hb.size
        replace H := H.below hb
        clear hb
        try clear C
        have C := H.cells
        try simp only [cellsOf, cellsM, apartOf, apartM, and_true] at C
        try clear w4
        dsimp only
        go_step
        refine ⟨hs0, ?_⟩
        repeat (first | (refine wpX_skip rfl ?_; go_simp) | (refine wpX_free rfl rfl rfl (fun K hK => ?_); go_step; refine hK _ _ ?_; clear hK K) | (refine wpX_load rfl rfl rfl (by simp [Stay, OneD, NoD, *]) hs0 (by simp [*]) (fun K hK => ?_); go_step; refine hK _ _ ?_; clear hK K))
        refine wpX_eff rfl rfl (fun _ _ => ?_)
        go_step
        refine (HCH.out _).mono ?_
        rintro _ w6 ⟨rfl, hb⟩
        replace hs0 := hs0.belowS hz0 hb
        replace hz0 := Nat.le_trans hz0 hb.size
        replace H := H.below hb
        clear hb
        try clear C
        have C := H.cells
        try simp only [cellsOf, cellsM, apartOf, apartM, and_true] at C
        try clear w5
        dsimp only
        go_step
        refine ⟨hs0, ?_⟩
        repeat (first | (refine wpX_skip rfl ?_; go_simp) | (refine wpX_free rfl rfl rfl (fun K hK => ?_); go_step; refine hK _ _ ?_; clear hK K) | (refine wpX_load rfl rfl rfl (by simp [Stay, OneD, NoD, *]) hs0 (by simp [*]) (fun K hK => ?_); go_step; refine hK _ _ ?_; clear hK K))
        (refine wpX_nil ?_; go_step)
        clear HCH HSZ hfli
        go_wp2_with fail
        go_loopw [5, 35] (fun lw ii wr => ∃ (j : Nat) (lv : Int), lw = .int .i64 lv ∧ ii = .int .i64 j ∧ j ≤ q0.length ∧ Hid (LastI (q0.map Prod.fst) j lv) ∧ Hid (∀ i, i < j → wokB sz9 N (q0.map Prod.fst) i = true) ∧ HS NoD w [.blk b1 #[.int .i64 s0, .int .i64 s1, .int .i64 s2, .int .i64 s3, .int .i64 s4, .int .i64 s5, .int .i64 kd, .int .i64 dt, .int .i64 ck, .int .i64 fx, .slice xa q0.length xc, .slice ya fs.length yc] 34] wr) (fun _ ii _ => q0.length - (intOf ii).toNat)
        case atStart => exact ⟨0, -1, rfl, rfl, Nat.zero_le _, (show Hid _ from ⟨fun _ => rfl, fun h => absurd h (Nat.lt_irrefl _)⟩), (show Hid _ from fun i hi => absurd hi (Nat.not_lt_zero _)), H⟩
        case round =>
          clear H C
          obtain ⟨j, lv, rfl, rfl, hj, HLV, HF, H⟩ := hrel
          skip
          try clear C
          try simp only [World.size_alloc, List.nil_append, List.cons_append, List.append_assoc] at H
          have C := H.cells
          try simp only [cellsOf, cellsM, apartOf, apartM, and_true] at C
          by_cases hlt : j < q0.length
          · skip
            have HLT := Lib.hid hlt
            have hlt9 := hlt
            obtain ⟨b, o, rfl, hb, hc⟩ := (H.liesUp HL.out).at hlt
            have HBJ := Lib.hid (HB.out _ hlt)
            have HSJ := Lib.hid (HSM.out _ hlt)
            have hjj : (j : Int) < q0.length := by omega
            have HWK := Lib.hid (show wokB sz9 N (q0.map Prod.fst) j = (decide (lv < (q0[j]!).1.ix) && (decide ((q0[j]!).1.ix < sz9) && (decide ((q0[j]!).1.bs.length = N) && !blankW (q0[j]!).1))) from by rw [wokB_last HLV.out, map_bang hlt])
            have HWJ := Lib.hid (show ((q0.map Prod.fst)[j]!) = (q0[j]!).1 from map_bang hlt)
            obtain ⟨q, hq⟩ : ∃ q, q = q0[j]! := ⟨_, rfl⟩
            rw [← hq] at hc HBJ HSJ HWK HWJ
            clear hq
            obtain ⟨⟨ix, bs, po⟩, ⟨za, zn, zc⟩⟩ := q
            replace HWK := Lib.hid (by have h9 := HWK.out; dsimp only at h9; exact h9)
            replace HWJ := Lib.hid (show ((q0.map Prod.fst)[j]!).ix = ix by rw [HWJ.out])
            obtain rfl : zn = bs.length := HBJ.out.len
            have c0 : wr.cell? ⟨b, o + j * 3, none⟩ = some (.int .i64 ix) := by simpa using hc 0 _ rfl
            have c1 : wr.cell? ⟨b, o + j * 3 + 1, none⟩ = some (.slice za bs.length zc) := by simpa using hc 1 _ rfl
            have c2 : wr.cell? ⟨b, o + j * 3 + 2, none⟩ = some (.bool po) := by simpa using hc 2 _ rfl
            have n1 : (b = wr.heap.size) = False := eq_false (by omega)
            have n2 : (wr.heap.size = b) = False := eq_false (by omega)
            have HBK := Lib.hid (fun wx h1 => (show Calls Tryd.prog 55 #[.agg #[.int .i64 ix, .slice za bs.length zc, .bool po]] wx (Gives (.bool (blankW ⟨ix, bs, po⟩)) wx) from blank_any ⟨ix, bs, po⟩ ⟨za, bs.length, zc⟩ HSJ.out wx h1))
            clear hc
            go_upto_region 8 with fail
            clear c0 c1 c2 n1 n2 hb
            generalize hwb : wr.alloc _ = w7
            replace H := HS.eqW hwb H.alloc
            try simp only [World.size_alloc, List.nil_append, List.cons_append, List.append_assoc] at H
            clear hwb
            generalize wr.heap.size = b7 at H ⊢
            try clear C
            try clear wr
            have C := H.cells
            try simp only [cellsOf, cellsM, apartOf, apartM, and_true] at C
            skip
            by_cases hix : ix ≤ lv
            · skip
              have HNO := Lib.hid (show wokB sz9 N (q0.map Prod.fst) (j) = false from HWK.out.trans (by rw [decide_eq_false (show ¬ lv < ix by omega)]; rfl))
              go_wp2_with fail
              go_wp2_with fail
              go_ret
              exact ⟨by rw [HR9.out.trans (goodB_w (i := j) (by show _ < (q0.map Prod.fst).length; rw [List.length_map]; exact HLT.out) (by show wokB (sizeN s0 s1 s2 s3 s4 s5) (dt + ck).toNat (q0.map Prod.fst) j = false; rw [← HZZ.out, HNN.out.1]; exact HNO.out))]; first | rfl | go_simp, H.done⟩
            · by_cases hix2 : ix < sz9
              · have HIX := Lib.hid (show 0 ≤ ix by have := HLV.out.ge; omega)
                have HA := Lib.hid (show lv < ix by omega)
                have HB2 := Lib.hid hix2
                have hg : ¬ ix ≥ sz9 := by omega
                by_cases hlen : bs.length = N
                · have HLN := Lib.hid hlen
                  have hlenb : ((bs.length : Int) != N) = false := by rw [hlen]; simp
                  clear hlen
                  skip
                  skip
                  cases hzz : blankW ⟨ix, bs, po⟩ with
                  | true =>
                    replace HBK := Lib.hid (fun wx h1 => by have := HBK.out wx h1; rw [hzz] at this; exact this)
                    have HZT := Lib.hid hzz
                    clear hzz
                    have HNO := Lib.hid (show wokB sz9 N (q0.map Prod.fst) (j) = false from HWK.out.trans (by rw [HZT.out]; simp))
                    go_wp2_with fail
                    refine (HBK.out _ (HBJ.out.up H.done)).mono ?_
                    rintro _ w8 ⟨rfl, hb⟩
                    replace H := H.below hb
                    clear hb
                    try clear C
                    try simp only [World.size_alloc, List.nil_append, List.cons_append, List.append_assoc] at H
                    try clear w7
                    have C := H.cells
                    try simp only [cellsOf, cellsM, apartOf, apartM, and_true] at C
                    dsimp only
                    go_wp2_with fail
                    go_ret
                    exact ⟨by rw [HR9.out.trans (goodB_w (i := j) (by show _ < (q0.map Prod.fst).length; rw [List.length_map]; exact HLT.out) (by show wokB (sizeN s0 s1 s2 s3 s4 s5) (dt + ck).toNat (q0.map Prod.fst) j = false; rw [← HZZ.out, HNN.out.1]; exact HNO.out))]; first | rfl | go_simp, H.done⟩
                  | false =>
                    replace HBK := Lib.hid (fun wx h1 => by have := HBK.out wx h1; rw [hzz] at this; exact this)
                    have HZT := Lib.hid hzz
                    clear hzz
                    skip
                    have HOK := Lib.hid (show wokB sz9 N (q0.map Prod.fst) (j) = true from HWK.out.trans (by rw [decide_eq_true HA.out, decide_eq_true HB2.out, decide_eq_true HLN.out, HZT.out]; rfl))
                    go_wp2_with fail
                    refine (HBK.out _ (HBJ.out.up H.done)).mono ?_
                    rintro _ w9 ⟨rfl, hb⟩
                    replace H := H.below hb
                    clear hb
                    try clear C
                    try simp only [World.size_alloc, List.nil_append, List.cons_append, List.append_assoc] at H
                    try clear w7
                    have C := H.cells
                    try simp only [cellsOf, cellsM, apartOf, apartM, and_true] at C
                    dsimp only
                    go_wp2_with fail
                    go_roundw
                    case rel =>
                      refine ⟨j + 1, ix, rfl, by go_num, HLT.out, (show Hid _ from LastI.next hlt9 HWJ.out HIX.out), (show Hid _ from fun i hi => ?_), HS.less H (by repeat (first | exact .slnil | refine .cons_cons _ ?_ | refine .cons _ ?_))⟩
                      by_cases e : i = j
                      · subst e; exact HOK.out
                      · exact HF.out i (by omega)
                    case measure => simp [intOf]; omega
                · have hleni : ¬ (bs.length : Int) = N := by omega
                  have hlenb : ((bs.length : Int) != N) = true := bne_iff_ne.2 hleni
                  have HNO := Lib.hid (show wokB sz9 N (q0.map Prod.fst) (j) = false from HWK.out.trans (by rw [decide_eq_false hlen]; simp))
                  skip
                  go_wp2_with fail
                  go_wp2_with fail
                  go_ret
                  exact ⟨by rw [HR9.out.trans (goodB_w (i := j) (by show _ < (q0.map Prod.fst).length; rw [List.length_map]; exact HLT.out) (by show wokB (sizeN s0 s1 s2 s3 s4 s5) (dt + ck).toNat (q0.map Prod.fst) j = false; rw [← HZZ.out, HNN.out.1]; exact HNO.out))]; first | rfl | go_simp, H.done⟩
              · have hg : ix ≥ sz9 := by omega
                have HNO := Lib.hid (show wokB sz9 N (q0.map Prod.fst) (j) = false from HWK.out.trans (by rw [decide_eq_false (show ¬ ix < sz9 by omega)]; simp))
                skip
                go_wp2_with fail
                go_wp2_with fail
                go_ret
                exact ⟨by rw [HR9.out.trans (goodB_w (i := j) (by show _ < (q0.map Prod.fst).length; rw [List.length_map]; exact HLT.out) (by show wokB (sizeN s0 s1 s2 s3 s4 s5) (dt + ck).toNat (q0.map Prod.fst) j = false; rw [← HZZ.out, HNN.out.1]; exact HNO.out))]; first | rfl | go_simp, H.done⟩
          · obtain rfl : j = q0.length := by omega
            have HWS := HF
            clear hlt hj HF HLV
            skip
            go_wp2_with fail
            go_loopw [66] (fun ii wr => ∃ (j : Nat), ii = .int .i64 j ∧ j ≤ fs.length ∧ Hid (∀ i, i < j → fokB (⟨s0, s1, s2, s3, s4, s5, kd, dt, ck, fx, q0.map Prod.fst, fs⟩ : Mm) (dt + ck) fs i = true) ∧ HS NoD w [.blk b1 #[.int .i64 s0, .int .i64 s1, .int .i64 s2, .int .i64 s3, .int .i64 s4, .int .i64 s5, .int .i64 kd, .int .i64 dt, .int .i64 ck, .int .i64 fx, .slice xa q0.length xc, .slice ya fs.length yc] 34] wr) (fun ii _ => fs.length - (intOf ii).toNat)
            case atStart => exact ⟨0, rfl, Nat.zero_le _, (show Hid _ from fun i hi => absurd hi (Nat.not_lt_zero _)), H⟩
            case round =>
              clear H C
              obtain ⟨j, rfl, hj, HF, H⟩ := hrel
              skip
              try clear C
              try simp only [World.size_alloc, List.nil_append, List.cons_append, List.append_assoc] at H
              have C := H.cells
              try simp only [cellsOf, cellsM, apartOf, apartM, and_true] at C
              by_cases hlt : j < fs.length
              · skip
                have HJ := Lib.hid hlt
                obtain ⟨b, o, rfl, hb, hc⟩ := (H.liesUp HL2.out).at hlt
                have hji : (j : Int) < fs.length := by omega
                have hjc : j ≤ yc := by have := HCP2.out.1; dsimp only at this; omega
                have hfc : fs.length ≤ yc := HCP2.out.1
                obtain ⟨f, hf⟩ : ∃ f, f = fs[j]! := ⟨_, rfl⟩
                have HFJ := Lib.hid hf.symm
                rw [← hf] at hc
                clear hf
                obtain ⟨k, p0, p1, p2, p3, p4, p5, ch, ms, vl, hd⟩ := f
                have c0 : wr.cell? ⟨b, o + j * 11, none⟩ = some (.int .i64 k) := by simpa using hc 0 _ rfl
                have c1 : wr.cell? ⟨b, o + j * 11 + 1, none⟩ = some (.int .i64 p0) := by simpa using hc 1 _ rfl
                have c2 : wr.cell? ⟨b, o + j * 11 + 2, none⟩ = some (.int .i64 p1) := by simpa using hc 2 _ rfl
                have c3 : wr.cell? ⟨b, o + j * 11 + 3, none⟩ = some (.int .i64 p2) := by simpa using hc 3 _ rfl
                have c4 : wr.cell? ⟨b, o + j * 11 + 4, none⟩ = some (.int .i64 p3) := by simpa using hc 4 _ rfl
                have c5 : wr.cell? ⟨b, o + j * 11 + 5, none⟩ = some (.int .i64 p4) := by simpa using hc 5 _ rfl
                have c6 : wr.cell? ⟨b, o + j * 11 + 6, none⟩ = some (.int .i64 p5) := by simpa using hc 6 _ rfl
                have c7 : wr.cell? ⟨b, o + j * 11 + 7, none⟩ = some (.int .i64 ch) := by simpa using hc 7 _ rfl
                have c8 : wr.cell? ⟨b, o + j * 11 + 8, none⟩ = some (.int .u8 ms) := by simpa using hc 8 _ rfl
                have c9 : wr.cell? ⟨b, o + j * 11 + 9, none⟩ = some (.int .u8 vl) := by simpa using hc 9 _ rfl
                have c10 : wr.cell? ⟨b, o + j * 11 + 10, none⟩ = some (.bool hd) := by simpa using hc 10 _ rfl
                have n1 : (b = wr.heap.size) = False := eq_false (by omega)
                have n2 : (wr.heap.size = b) = False := eq_false (by omega)
                clear hc
                go_upto_region 15 with fail
                clear c0 c1 c2 c3 c4 c5 c6 c7 c8 c9 c10 n1 n2 hb
                generalize hwb : wr.alloc _ = w10
                replace H := HS.eqW hwb H.alloc
                try simp only [World.size_alloc, List.nil_append, List.cons_append, List.append_assoc] at H
                clear hwb
                generalize wr.heap.size = b9 at H ⊢
                try clear C
                try clear wr
                have C := H.cells
                try simp only [cellsOf, cellsM, apartOf, apartM, and_true] at C
                skip
                cases hd with
                | false =>
                  have HNO := Lib.hid (show fokB (⟨s0, s1, s2, s3, s4, s5, kd, dt, ck, fx, q0.map Prod.fst, fs⟩ : Mm) (dt + ck) fs j = false by unfold fokB; rw [HFJ.out]; rfl)
                  refine wp_region_xH (by kernel_rfl) (by kernel_rfl) (by kernel_rfl) (by kernel_rfl) (fun _ => False) (H) ?_
                  clear H; intro w11 H hz0 hs0
                  try clear C
                  try simp only [World.size_alloc, List.nil_append, List.cons_append, List.append_assoc] at H hz0
                  clear hz0
                  try clear w10
                  have C := H.cells
                  try simp only [cellsOf, cellsM, apartOf, apartM, and_true] at C
                  have Z := H.zs
                  try simp only [ltsOf, ltsM, and_true] at Z
                  have hz0 := Nat.le_refl w11.heap.size
                  repeat (first | (refine wpX_skip rfl ?_; go_simp) | (refine wpX_free rfl rfl rfl (fun K hK => ?_); go_step; refine hK _ _ ?_; clear hK K) | (refine wpX_load rfl rfl rfl (by simp [Stay, OneD, NoD, *]) hs0 (by simp [*]) (fun K hK => ?_); go_step; refine hK _ _ ?_; clear hK K))
                  (refine wpX_nil ?_; go_step)
                  go_wp2_with fail
                  go_ret
                  exact ⟨by rw [HR9.out.trans (goodB_f (i := j) HJ.out HNO.out)]; first | rfl | go_simp, H.done⟩
                | true =>
                  have HVF := Lib.hid (fun w hN => show Calls Tryd.prog 42 #[v6 s0 s1 s2 s3 s4 s5, .int .i64 N, .agg #[.int .i64 k, .int .i64 p0, .int .i64 p1, .int .i64 p2, .int .i64 p3, .int .i64 p4, .int .i64 p5, .int .i64 ch, .int .u8 ms, .int .u8 vl, .bool true]] w (Gives (.bool (vfF (⟨s0, s1, s2, s3, s4, s5, kd, dt, ck, fx, q0.map Prod.fst, fs⟩ : Mm) N (⟨k, p0, p1, p2, p3, p4, p5, ch, ms, vl, true⟩ : Fa))) w) from vfault_any s0 s1 s2 s3 s4 s5 N k p0 p1 p2 p3 p4 p5 ch ms vl true w hN)
                  skip
                  skip
                  cases hvf : vfF (⟨s0, s1, s2, s3, s4, s5, kd, dt, ck, fx, q0.map Prod.fst, fs⟩ : Mm) N (⟨k, p0, p1, p2, p3, p4, p5, ch, ms, vl, true⟩ : Fa) with
                  | false =>
                    replace HVF := Lib.hid (fun w hN => by have := HVF.out w hN; rw [hvf] at this; exact this)
                    have HNO := Lib.hid (show fokB (⟨s0, s1, s2, s3, s4, s5, kd, dt, ck, fx, q0.map Prod.fst, fs⟩ : Mm) (dt + ck) fs j = false by unfold fokB; rw [HFJ.out, HNN.out.2, hvf]; simp)
                    clear hvf
                    refine wp_region_xH (by kernel_rfl) (by kernel_rfl) (by kernel_rfl) (by kernel_rfl) (fun _ => False) (H) ?_
                    clear H; intro w12 H hz0 hs0
                    try clear C
                    try simp only [World.size_alloc, List.nil_append, List.cons_append, List.append_assoc] at H hz0
                    clear hz0
                    try clear w10
                    have C := H.cells
                    try simp only [cellsOf, cellsM, apartOf, apartM, and_true] at C
                    have Z := H.zs
                    try simp only [ltsOf, ltsM, and_true] at Z
                    have hz0 := Nat.le_refl w12.heap.size
                    repeat (first | (refine wpX_skip rfl ?_; go_simp) | (refine wpX_free rfl rfl rfl (fun K hK => ?_); go_step; refine hK _ _ ?_; clear hK K) | (refine wpX_load rfl rfl rfl (by simp [Stay, OneD, NoD, *]) hs0 (by simp [*]) (fun K hK => ?_); go_step; refine hK _ _ ?_; clear hK K))
                    refine wpX_eff rfl rfl (fun _ _ => ?_)
                    go_step
                    refine (HVF.out _ (HNm.out.below H.done)).mono ?_
                    rintro _ w13 ⟨rfl, hb⟩
                    replace hs0 := hs0.belowS hz0 hb
                    replace hz0 := Nat.le_trans hz0 hb.size
                    replace H := H.below hb
                    clear hb
                    try clear C
                    have C := H.cells
                    try simp only [cellsOf, cellsM, apartOf, apartM, and_true] at C
                    try clear w12
                    dsimp only
                    go_step
                    refine ⟨hs0, ?_⟩
                    repeat (first | (refine wpX_skip rfl ?_; go_simp) | (refine wpX_free rfl rfl rfl (fun K hK => ?_); go_step; refine hK _ _ ?_; clear hK K) | (refine wpX_load rfl rfl rfl (by simp [Stay, OneD, NoD, *]) hs0 (by simp [*]) (fun K hK => ?_); go_step; refine hK _ _ ?_; clear hK K))
                    (refine wpX_nil ?_; go_step)
                    go_wp2_with fail
                    go_ret
                    exact ⟨by rw [HR9.out.trans (goodB_f (i := j) HJ.out HNO.out)]; first | rfl | go_simp, H.done⟩
                  | true =>
                    replace HVF := Lib.hid (fun w hN => by have := HVF.out w hN; rw [hvf] at this; exact this)
                    have HVT := Lib.hid (show vfF (⟨s0, s1, s2, s3, s4, s5, kd, dt, ck, fx, q0.map Prod.fst, fs⟩ : Mm) (dt + ck) (⟨k, p0, p1, p2, p3, p4, p5, ch, ms, vl, true⟩ : Fa) = true by rw [HNN.out.2]; exact hvf)
                    clear hvf
                    have HCN := Lib.hid (fun (wx : World) (hx : Lies wx wx.heap.size (some ⟨b, o, none⟩) 11 fs.length (fun j => cfC fs[j]!)) => (show Calls Tryd.prog 45 #[.slice (some ⟨b, o, none⟩) j yc, .agg #[.int .i64 k, .int .i64 p0, .int .i64 p1, .int .i64 p2, .int .i64 p3, .int .i64 p4, .int .i64 p5, .int .i64 ch, .int .u8 ms, .int .u8 vl, .bool true]] wx (Gives (.bool (decide ((⟨k, p0, p1, p2, p3, p4, p5, ch, ms, vl, true⟩ : Fa) ∈ fs.take j))) wx) from by
                      have h9 := containsCf (⟨k, p0, p1, p2, p3, p4, p5, ch, ms, vl, true⟩ : Fa) (sa := some ⟨b, o, none⟩) yc (fs := fs.take j) (by rw [List.length_take]; omega) wx (hx.take (Nat.le_of_lt HJ.out))
                      rw [List.length_take, Nat.min_eq_left (Nat.le_of_lt HJ.out)] at h9
                      exact h9))
                    by_cases hm : (⟨k, p0, p1, p2, p3, p4, p5, ch, ms, vl, true⟩ : Fa) ∈ fs.take j
                    · replace HCN := Lib.hid (fun w hN => by have := HCN.out w hN; rw [decide_eq_true hm] at this; exact this)
                      have HNO := Lib.hid (show fokB (⟨s0, s1, s2, s3, s4, s5, kd, dt, ck, fx, q0.map Prod.fst, fs⟩ : Mm) (dt + ck) fs j = false by unfold fokB; rw [HFJ.out, decide_eq_true hm]; simp)
                      clear hm
                      skip
                      refine wp_region_xH (by kernel_rfl) (by kernel_rfl) (by kernel_rfl) (by kernel_rfl) (fun _ => False) (H) ?_
                      clear H; intro w14 H hz0 hs0
                      try clear C
                      try simp only [World.size_alloc, List.nil_append, List.cons_append, List.append_assoc] at H hz0
                      clear hz0
                      try clear w10
                      have C := H.cells
                      try simp only [cellsOf, cellsM, apartOf, apartM, and_true] at C
                      have Z := H.zs
                      try simp only [ltsOf, ltsM, and_true] at Z
                      have hz0 := Nat.le_refl w14.heap.size
                      repeat (first | (refine wpX_skip rfl ?_; go_simp) | (refine wpX_free rfl rfl rfl (fun K hK => ?_); go_step; refine hK _ _ ?_; clear hK K) | (refine wpX_load rfl rfl rfl (by simp [Stay, OneD, NoD, *]) hs0 (by simp [*]) (fun K hK => ?_); go_step; refine hK _ _ ?_; clear hK K))
                      refine wpX_eff rfl rfl (fun _ _ => ?_)
                      go_step
                      refine (HVF.out _ (HNm.out.below H.done)).mono ?_
                      rintro _ w15 ⟨rfl, hb⟩
                      replace hs0 := hs0.belowS hz0 hb
                      replace hz0 := Nat.le_trans hz0 hb.size
                      replace H := H.below hb
                      clear hb
                      try clear C
                      have C := H.cells
                      try simp only [cellsOf, cellsM, apartOf, apartM, and_true] at C
                      try clear w14
                      dsimp only
                      go_step
                      refine ⟨hs0, ?_⟩
                      repeat (first | (refine wpX_skip rfl ?_; go_simp) | (refine wpX_free rfl rfl rfl (fun K hK => ?_); go_step; refine hK _ _ ?_; clear hK K) | (refine wpX_load rfl rfl rfl (by simp [Stay, OneD, NoD, *]) hs0 (by simp [*]) (fun K hK => ?_); go_step; refine hK _ _ ?_; clear hK K))
                      (refine wpX_yield rfl rfl ((.slice (some ⟨b, o, none⟩) j yc)) (fun w hw => by go_simp) ?_; go_simp)
                      repeat (first | (refine wpX_skip rfl ?_; go_simp) | (refine wpX_free rfl rfl rfl (fun K hK => ?_); go_step; refine hK _ _ ?_; clear hK K) | (refine wpX_load rfl rfl rfl (by simp [Stay, OneD, NoD, *]) hs0 (by simp [*]) (fun K hK => ?_); go_step; refine hK _ _ ?_; clear hK K))
                      refine wpX_eff rfl rfl (fun _ _ => ?_)
                      go_step
                      refine (HCN.out _ (H.liesUp HL2.out)).mono ?_
                      rintro _ w16 ⟨rfl, hb⟩
                      replace hs0 := hs0.belowS hz0 hb
                      replace hz0 := Nat.le_trans hz0 hb.size
                      replace H := H.below hb
                      clear hb
                      try clear C
                      have C := H.cells
                      try simp only [cellsOf, cellsM, apartOf, apartM, and_true] at C
                      try clear w15
                      dsimp only
                      go_step
                      refine ⟨hs0, ?_⟩
                      repeat (first | (refine wpX_skip rfl ?_; go_simp) | (refine wpX_free rfl rfl rfl (fun K hK => ?_); go_step; refine hK _ _ ?_; clear hK K) | (refine wpX_load rfl rfl rfl (by simp [Stay, OneD, NoD, *]) hs0 (by simp [*]) (fun K hK => ?_); go_step; refine hK _ _ ?_; clear hK K))
                      (refine wpX_nil ?_; go_step)
                      go_wp2_with fail
                      go_ret
                      exact ⟨by rw [HR9.out.trans (goodB_f (i := j) HJ.out HNO.out)]; first | rfl | go_simp, H.done⟩
                    · replace HCN := Lib.hid (fun w hN => by have := HCN.out w hN; rw [decide_eq_false hm] at this; exact this)
                      have HOK := Lib.hid (show fokB (⟨s0, s1, s2, s3, s4, s5, kd, dt, ck, fx, q0.map Prod.fst, fs⟩ : Mm) (dt + ck) fs j = true by
                        unfold fokB
                        rw [HFJ.out, decide_eq_false hm, HVT.out]; rfl)
                      clear hm
                      skip
                      refine wp_region_xH (by kernel_rfl) (by kernel_rfl) (by kernel_rfl) (by kernel_rfl) (fun _ => False) (H) ?_
                      clear H; intro w17 H hz0 hs0
                      try clear C
                      try simp only [World.size_alloc, List.nil_append, List.cons_append, List.append_assoc] at H hz0
                      clear hz0
                      try clear w10
                      have C := H.cells
                      try simp only [cellsOf, cellsM, apartOf, apartM, and_true] at C
                      have Z := H.zs
                      try simp only [ltsOf, ltsM, and_true] at Z
                      have hz0 := Nat.le_refl w17.heap.size
                      repeat (first | (refine wpX_skip rfl ?_; go_simp) | (refine wpX_free rfl rfl rfl (fun K hK => ?_); go_step; refine hK _ _ ?_; clear hK K) | (refine wpX_load rfl rfl rfl (by simp [Stay, OneD, NoD, *]) hs0 (by simp [*]) (fun K hK => ?_); go_step; refine hK _ _ ?_; clear hK K))
                      refine wpX_eff rfl rfl (fun _ _ => ?_)
                      go_step
                      refine (HVF.out _ (HNm.out.below H.done)).mono ?_
                      rintro _ w18 ⟨rfl, hb⟩
                      replace hs0 := hs0.belowS hz0 hb
                      replace hz0 := Nat.le_trans hz0 hb.size
                      replace H := H.below hb
                      clear hb
                      try clear C
                      have C := H.cells
                      try simp only [cellsOf, cellsM, apartOf, apartM, and_true] at C
                      try clear w17
                      dsimp only
                      go_step
                      refine ⟨hs0, ?_⟩
                      repeat (first | (refine wpX_skip rfl ?_; go_simp) | (refine wpX_free rfl rfl rfl (fun K hK => ?_); go_step; refine hK _ _ ?_; clear hK K) | (refine wpX_load rfl rfl rfl (by simp [Stay, OneD, NoD, *]) hs0 (by simp [*]) (fun K hK => ?_); go_step; refine hK _ _ ?_; clear hK K))
                      (refine wpX_yield rfl rfl ((.slice (some ⟨b, o, none⟩) j yc)) (fun w hw => by go_simp) ?_; go_simp)
                      repeat (first | (refine wpX_skip rfl ?_; go_simp) | (refine wpX_free rfl rfl rfl (fun K hK => ?_); go_step; refine hK _ _ ?_; clear hK K) | (refine wpX_load rfl rfl rfl (by simp [Stay, OneD, NoD, *]) hs0 (by simp [*]) (fun K hK => ?_); go_step; refine hK _ _ ?_; clear hK K))
                      refine wpX_eff rfl rfl (fun _ _ => ?_)
                      go_step
                      refine (HCN.out _ (H.liesUp HL2.out)).mono ?_
                      rintro _ w19 ⟨rfl, hb⟩
                      replace hs0 := hs0.belowS hz0 hb
                      replace hz0 := Nat.le_trans hz0 hb.size
                      replace H := H.below hb
                      clear hb
                      try clear C
                      have C := H.cells
                      try simp only [cellsOf, cellsM, apartOf, apartM, and_true] at C
                      try clear w18
                      dsimp only
                      go_step
                      refine ⟨hs0, ?_⟩
                      repeat (first | (refine wpX_skip rfl ?_; go_simp) | (refine wpX_free rfl rfl rfl (fun K hK => ?_); go_step; refine hK _ _ ?_; clear hK K) | (refine wpX_load rfl rfl rfl (by simp [Stay, OneD, NoD, *]) hs0 (by simp [*]) (fun K hK => ?_); go_step; refine hK _ _ ?_; clear hK K))
                      (refine wpX_nil ?_; go_step)
                      go_wp2_with fail
                      go_roundw
                      case rel =>
                        refine ⟨j + 1, by go_num, HJ.out, (show Hid _ from fun i hi => ?_), HS.less H (by repeat (first | exact .slnil | refine .cons_cons _ ?_ | refine .cons _ ?_))⟩
                        by_cases e : i = j
                        · subst e; exact HOK.out
                        · exact HF.out i (by omega)
                      case measure => simp [intOf]; have := HJ.out; omega
              · obtain rfl : j = fs.length := by omega
                skip
                go_wp2_with fail
                go_ret
                exact ⟨by rw [HR9.out.trans (goodB_yes HSV.out HCO.out HFL.out (fun i hi => by
                  show wokB (sizeN s0 s1 s2 s3 s4 s5) (dt + ck).toNat (q0.map Prod.fst) i = true
                  rw [← HZZ.out, HNN.out.1]
                  have h9 : i < (q0.map Prod.fst).length := hi
                  rw [List.length_map] at h9
                  exact HWS.out i h9) HF.out)]; first | rfl | go_simp, H.done⟩
      · have hfli : ¬ (fs.length : Int) ≤ 64 := by omega
        have hflg : (fs.length : Int) > 64 := by omega
        have HD := Lib.hid (show r9 = false from HR9.out.trans (goodB_no (fun h => hfl h.2.2)))
        clear hsv
        go_enter Tryd.func21, Tryd.ntmps21
        have H := HS.start NoD w
        go_upto_region 1 with fail
        generalize hwb : w.alloc _ = w1
        replace H := HS.eqW hwb H.alloc
        try simp only [World.size_alloc, List.nil_append, List.cons_append, List.append_assoc] at H
        clear hwb
        generalize w.heap.size = b1 at H ⊢
        try clear C
        have C := H.cells
        try simp only [cellsOf, cellsM, apartOf, apartM, and_true] at C
        go_wp2_with fail
        refine (HV.out _).mono ?_
        rintro _ w2 ⟨rfl, hb⟩
        replace H := H.below hb
        clear hb
        try clear C
        try simp only [World.size_alloc, List.nil_append, List.cons_append, List.append_assoc] at H
        try clear w1
        have C := H.cells
        try simp only [cellsOf, cellsM, apartOf, apartM, and_true] at C
        dsimp only
        go_wp2_with fail
        refine (HC.out _).mono ?_
        rintro _ w3 ⟨rfl, hb⟩
        replace H := H.below hb
        clear hb
        try clear C
        try simp only [World.size_alloc, List.nil_append, List.cons_append, List.append_assoc] at H
        try clear w2
        have C := H.cells
        try simp only [cellsOf, cellsM, apartOf, apartM, and_true] at C
        dsimp only
        go_wp2_with fail
        go_ret
        exact ⟨by first | (rw [HD.out]; first | rfl | go_simp; done) | rfl | go_simp, H.done⟩
    | false =>
      replace HC := Lib.hid (fun w => by have := HC.out w; rw [hco] at this; exact this)
      have HD := Lib.hid (show r9 = false from HR9.out.trans (goodB_no (fun h => by have h9 : codeB kd dt ck fx = true := h.2.1; rw [hco] at h9; cases h9)))
      clear hco hsv
      go_enter Tryd.func21, Tryd.ntmps21
      have H := HS.start NoD w
      go_upto_region 1 with fail
      generalize hwb : w.alloc _ = w1
      replace H := HS.eqW hwb H.alloc
      try simp only [World.size_alloc, List.nil_append, List.cons_append, List.append_assoc] at H
      clear hwb
      generalize w.heap.size = b1 at H ⊢
      try clear C
      have C := H.cells
      try simp only [cellsOf, cellsM, apartOf, apartM, and_true] at C
      go_wp2_with fail
      refine (HV.out _).mono ?_
      rintro _ w2 ⟨rfl, hb⟩
      replace H := H.below hb
      clear hb
      try clear C
      try simp only [World.size_alloc, List.nil_append, List.cons_append, List.append_assoc] at H
      try clear w1
      have C := H.cells
      try simp only [cellsOf, cellsM, apartOf, apartM, and_true] at C
      dsimp only
      go_wp2_with fail
      refine (HC.out _).mono ?_
      rintro _ w3 ⟨rfl, hb⟩
      replace H := H.below hb
      clear hb
      try clear C
      try simp only [World.size_alloc, List.nil_append, List.cons_append, List.append_assoc] at H
      try clear w2
      have C := H.cells
      try simp only [cellsOf, cellsM, apartOf, apartM, and_true] at C
      dsimp only
      go_wp2_with fail
      go_ret
      exact ⟨by first | (rw [HD.out]; first | rfl | go_simp; done) | rfl | go_simp, H.done⟩
  · replace HV := Lib.hid (fun w => by have := HV.out w; rw [decide_eq_false hsv] at this; exact this)
    have HD := Lib.hid (show r9 = false from HR9.out.trans (goodB_no (fun h => hsv h.1)))
    clear hsv
    go_enter Tryd.func21, Tryd.ntmps21
    have H := HS.start NoD w
    go_upto_region 1 with fail
    generalize hwb : w.alloc _ = w1
    replace H := HS.eqW hwb H.alloc
    try simp only [World.size_alloc, List.nil_append, List.cons_append, List.append_assoc] at H
    clear hwb
    generalize w.heap.size = b1 at H ⊢
    try clear C
    have C := H.cells
    try simp only [cellsOf, cellsM, apartOf, apartM, and_true] at C
    go_wp2_with fail
    refine (HV.out _).mono ?_
    rintro _ w2 ⟨rfl, hb⟩
    replace H := H.below hb
    clear hb
    try clear C
    try simp only [World.size_alloc, List.nil_append, List.cons_append, List.append_assoc] at H
    try clear w1
    have C := H.cells
    try simp only [cellsOf, cellsM, apartOf, apartM, and_true] at C
    dsimp only
    go_wp2_with fail
    go_ret
    exact ⟨by first | (rw [HD.out]; first | rfl | go_simp; done) | rfl | go_simp, H.done⟩
end Go.Proofs.YtplflpmkomeadaaDoor
