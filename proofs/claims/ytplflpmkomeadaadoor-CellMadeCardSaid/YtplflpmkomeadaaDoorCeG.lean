/- ref13.Valid: which memories are valid, on anything. -/
import Derived.Test.YtplflpmkomeadaaDoorCeF
namespace Go.Proofs.YtplflpmkomeadaaDoor
set_option linter.unusedSimpArgs false
set_option linter.unusedVariables false
open Go.RowKit
set_option maxRecDepth 100000
attribute [local irreducible] wpX wpF Calls

set_option maxHeartbeats 16000000 in
theorem rv13_any (M : Mm) (x y : Sv) (hM : LongM M) (w : World) (h : MeAt w x y M) : Calls Tryd.prog 64 #[meV M x y] w (Gives (.bool (goodB M)) w) := by
  obtain ⟨s0, s1, s2, s3, s4, s5, kd, dt, ck, fx, ws, fs⟩ := M
  obtain ⟨xa, xn, xc⟩ := x
  obtain ⟨ya, yn, yc⟩ := y
  obtain ⟨⟨q0, rfl, hn, -, hl, hb⟩, hn2, hcap2, hl2⟩ := h
  dsimp only at hn hl hn2 hl2 hcap2
  subst hn hn2
  obtain ⟨hq1, hf1, hsm0⟩ := hM
  dsimp only at hq1 hf1 hsm0
  rw [List.length_map] at hq1
  have HB := Lib.hid (fun j (hj : j < q0.length) => hb _ (mem_bang2 hj))
  have HSM := Lib.hid (fun j (hj : j < q0.length) => hsm0 _ (map_mem2 hj))
  have HL := Lib.hid hl
  have HL2 := Lib.hid hl2
  have HCP2 := Lib.hid hcap2
  have HQ1 := Lib.hid hq1
  have HF1 := Lib.hid hf1
  clear hb hsm0 hl hl2 hcap2
  obtain ⟨r9, hr9⟩ : ∃ r, r = goodB (⟨s0, s1, s2, s3, s4, s5, kd, dt, ck, fx, q0.map Prod.fst, fs⟩ : Mm) := ⟨_, rfl⟩
  rw [← hr9]
  have HR9 := Lib.hid hr9
  clear hr9
  show Calls Tryd.prog 64 #[.agg #[.int .i64 s0, .int .i64 s1, .int .i64 s2, .int .i64 s3, .int .i64 s4, .int .i64 s5, .int .i64 kd, .int .i64 dt, .int .i64 ck, .int .i64 fx, .slice xa q0.length xc, .slice ya fs.length yc]] w _
  have HV := Lib.hid (fun w => rvalid_any s0 s1 s2 s3 s4 s5 w)
  have HC := Lib.hid (fun w => r07code_any kd dt ck fx w)
  by_cases hsv : SV s0 s1 s2 s3 s4 s5
  · replace HV := Lib.hid (fun w => by have := HV.out w; rw [decide_eq_true hsv] at this; exact this)
    cases hco : codeB kd dt ck fx with
    | true =>
      replace HC := Lib.hid (fun w => by have := HC.out w; rw [hco] at this; exact this)
      by_cases hfl : fs.length ≤ 64
      · have hfli : (fs.length : Int) ≤ 64 := by omega
        have HSV := Lib.hid hsv
        have HCO := Lib.hid hco
        have HFL := Lib.hid hfl
        have hrg := codeB_rng hco
        obtain ⟨N, hN⟩ : ∃ N : Nat, (N : Int) = dt + ck := ⟨(dt + ck).toNat, by omega⟩
        have hN2 : (dt + ck).toNat = N := by omega
        have HNN := Lib.hid (show (dt + ck).toNat = N ∧ dt + ck = (N : Int) from ⟨hN2, hN.symm⟩)
        obtain ⟨sz9, hZ⟩ : ∃ sz9 : Nat, sz9 = sizeN s0 s1 s2 s3 s4 s5 := ⟨_, rfl⟩
        have HZZ := Lib.hid hZ
        have hZ4 : sz9 ≤ 4096 := by rw [hZ]; exact sizeN_le _ _ _ _ _ _
        have hN41 : N ≤ 40 := by omega
        have HCH := Lib.hid (fun w => show Calls Tryd.prog 14 #[.agg #[.int .i64 kd, .int .i64 dt, .int .i64 ck, .int .i64 fx]] w (Gives (.int .i64 N) w) from by have := r13chips_any kd dt ck fx (by omega) (by omega) w; rwa [← hN] at this)
        have HSZ := Lib.hid (fun w => show Calls Tryd.prog 17 #[v6 s0 s1 s2 s3 s4 s5] w (Gives (.int .i64 sz9) w) from by rw [hZ]; exact rsize_all s0 s1 s2 s3 s4 s5 w)
        clear hsv hco hrg hN hN2 hZ
        go_enter Tryd.func64, Tryd.ntmps64
        have H := HS.start NoD w
        go_upto_region 1 with fail
        generalize hwb : w.alloc _ = w1
        replace H := HS.eqW hwb H.alloc
        try simp only [World.size_alloc, List.nil_append, List.cons_append, List.append_assoc] at H
        clear hwb
        generalize w.heap.size = b1 at H ⊢
        try clear C
        have C := H.cells
        try simp only [cellsOf, cellsM, apartOf, apartM, and_true] at C
        go_wp2_with fail
        refine (HV.out _).mono ?_
        rintro _ w2 ⟨rfl, hb⟩
        replace H := H.below hb
        clear hb
        try clear C
        try simp only [World.size_alloc, List.nil_append, List.cons_append, List.append_assoc] at H
        try clear w1
        have C := H.cells
        try simp only [cellsOf, cellsM, apartOf, apartM, and_true] at C
        dsimp only
        go_wp2_with fail
        refine (HC.out _).mono ?_
        rintro _ w3 ⟨rfl, hb⟩
        replace H := H.below hb
        clear hb
        try clear C
        try simp only [World.size_alloc, List.nil_append, List.cons_append, List.append_assoc] at H
        try clear w2
        have C := H.cells
        try simp only [cellsOf, cellsM, apartOf, apartM, and_true] at C
        dsimp only
        clear HV HC
        go_upto_region 3 with fail
        refine wp_region_xH (by kernel_rfl) (by kernel_rfl) (by kernel_rfl) (by kernel_rfl) (fun _ => False) (H) ?_
        clear H; intro w4 H hz0 hs0
        try clear C
        try simp only [World.size_alloc, List.nil_append, List.cons_append, List.append_assoc] at H hz0
        clear hz0
        try clear w3
        have C := H.cells
        try simp only [cellsOf, cellsM, apartOf, apartM, and_true] at C
        have Z := H.zs
        try simp only [ltsOf, ltsM, and_true] at Z
        have hz0 := Nat.le_refl w4.heap.size
        repeat (first | (refine wpX_skip rfl ?_; go_simp) | (refine wpX_free rfl rfl rfl (fun K hK => ?_); go_step; refine hK _ _ ?_; clear hK K) | (refine wpX_load rfl rfl rfl (by simp [Stay, OneD, NoD, *]) hs0 (by simp [*]) (fun K hK => ?_); go_step; refine hK _ _ ?_; clear hK K))
        refine wpX_eff rfl rfl (fun _ _ => ?_)
        go_step
        refine (HCH.out _).mono ?_
        rintro _ w5 ⟨rfl, hb⟩
        replace hs0 := hs0.belowS hz0 hb
        replace hz0 := Nat.le_trans hz0 hb.size
        replace H := H.below hb
        clear hb
        try clear C
        have C := H.cells
        try simp only [cellsOf, cellsM, apartOf, apartM, and_true] at C
        try clear w4
        dsimp only
        go_step
        refine ⟨hs0, ?_⟩
        repeat (first | (refine wpX_skip rfl ?_; go_simp) | (refine wpX_free rfl rfl rfl (fun K hK => ?_); go_step; refine hK _ _ ?_; clear hK K) | (refine wpX_load rfl rfl rfl (by simp [Stay, OneD, NoD, *]) hs0 (by simp [*]) (fun K hK => ?_); go_step; refine hK _ _ ?_; clear hK K))
        refine wpX_eff rfl rfl (fun _ _ => ?_)
        go_step
        refine (HSZ.out _).mono ?_
        rintro _ w6 ⟨rfl, hb⟩
        replace hs0 := hs0.belowS hz0 hb
        replace hz0 := Nat.le_trans hz0 hb.size
        replace H := H.below hb
        clear hb
        try clear C
        have C := H.cells
        try simp only [cellsOf, cellsM, apartOf, apartM, and_true] at C
        try clear w5
        dsimp only
        go_step
        refine ⟨hs0, ?_⟩
        repeat (first | (refine wpX_skip rfl ?_; go_simp) | (refine wpX_free rfl rfl rfl (fun K hK => ?_); go_step; refine hK _ _ ?_; clear hK K) | (refine wpX_load rfl rfl rfl (by simp [Stay, OneD, NoD, *]) hs0 (by simp [*]) (fun K hK => ?_); go_step; refine hK _ _ ?_; clear hK K))
        (refine wpX_nil ?_; go_step)
        clear HCH HSZ hfli
        go_wp2_with fail
        go_loopw [5] (fun ii wr => ∃ (j : Nat), ii = .int .i64 j ∧ j ≤ q0.length ∧ Hid (∀ i, i < j → wokB sz9 N (q0.map Prod.fst) i = true) ∧ HS NoD w [.blk b1 #[.int .i64 s0, .int .i64 s1, .int .i64 s2, .int .i64 s3, .int .i64 s4, .int .i64 s5, .int .i64 kd, .int .i64 dt, .int .i64 ck, .int .i64 fx, .slice xa q0.length xc, .slice ya fs.length yc] 34] wr) (fun ii _ => q0.length - (intOf ii).toNat)
        case atStart => exact ⟨0, rfl, Nat.zero_le _, (show Hid _ from fun i hi => absurd hi (Nat.not_lt_zero _)), H⟩
        case round =>
          clear H C
          obtain ⟨j, rfl, hj, HF, H⟩ := hrel
          skip
          try clear C
          try simp only [World.size_alloc, List.nil_append, List.cons_append, List.append_assoc] at H
          have C := H.cells
          try simp only [cellsOf, cellsM, apartOf, apartM, and_true] at C
          by_cases hlt : j < q0.length
          · skip
            have HLT := Lib.hid hlt
            obtain ⟨b, o, rfl, hb, hc⟩ := (H.liesUp HL.out).at hlt
            have HBJ := Lib.hid (HB.out _ hlt)
            have HSJ := Lib.hid (HSM.out _ hlt)
            have hjj : (j : Int) < q0.length := by omega
            have HWK := Lib.hid (show wokB sz9 N (q0.map Prod.fst) j = (decide ((0 : Int) ≤ (q0[j]!).1.ix ∧ (q0[j]!).1.ix < sz9) && decide ((q0[j]!).1.bs.length = N) && !blankW (q0[j]!).1 && (decide (j = 0) || decide (((q0.map Prod.fst)[j - 1]!).ix < (q0[j]!).1.ix))) from by unfold wokB; rw [map_bang hlt])
            obtain ⟨q, hq⟩ : ∃ q, q = q0[j]! := ⟨_, rfl⟩
            rw [← hq] at hc HBJ HSJ HWK
            clear hq
            obtain ⟨⟨ix, bs, po⟩, ⟨za, zn, zc⟩⟩ := q
            replace HWK := Lib.hid (by have h9 := HWK.out; dsimp only at h9; exact h9)
            obtain rfl : zn = bs.length := HBJ.out.len
            have c0 : wr.cell? ⟨b, o + j * 3, none⟩ = some (.int .i64 ix) := by simpa using hc 0 _ rfl
            have c1 : wr.cell? ⟨b, o + j * 3 + 1, none⟩ = some (.slice za bs.length zc) := by simpa using hc 1 _ rfl
            have c2 : wr.cell? ⟨b, o + j * 3 + 2, none⟩ = some (.bool po) := by simpa using hc 2 _ rfl
            have n1 : (b = wr.heap.size) = False := eq_false (by omega)
            have n2 : (wr.heap.size = b) = False := eq_false (by omega)
            have HZB := Lib.hid (fun wx h1 => zeros13_any ⟨za, bs.length, zc⟩ bs HSJ.out wx h1)
            clear hc
            go_upto_region 8 with fail
            clear c0 c1 c2 n1 n2 hb
            generalize hwb : wr.alloc _ = w7
            replace H := HS.eqW hwb H.alloc
            try simp only [World.size_alloc, List.nil_append, List.cons_append, List.append_assoc] at H
            clear hwb
            generalize wr.heap.size = b6 at H ⊢
            try clear C
            try clear wr
            have C := H.cells
            try simp only [cellsOf, cellsM, apartOf, apartM, and_true] at C
            skip
            by_cases hix : ix < 0
            · skip
              have HNO := Lib.hid (show wokB sz9 N (q0.map Prod.fst) (j) = false from HWK.out.trans (by rw [decide_eq_false (show ¬ ((0 : Int) ≤ ix ∧ ix < sz9) by omega)]; rfl))
              refine wp_region_xH (by kernel_rfl) (by kernel_rfl) (by kernel_rfl) (by kernel_rfl) (fun _ => False) (H) ?_
              clear H; intro w8 H hz0 hs0
              try clear C
              try simp only [World.size_alloc, List.nil_append, List.cons_append, List.append_assoc] at H hz0
              clear hz0
              try clear w7
              have C := H.cells
              try simp only [cellsOf, cellsM, apartOf, apartM, and_true] at C
              have Z := H.zs
              try simp only [ltsOf, ltsM, and_true] at Z
              have hz0 := Nat.le_refl w8.heap.size
              repeat (first | (refine wpX_skip rfl ?_; go_simp) | (refine wpX_free rfl rfl rfl (fun K hK => ?_); go_step; refine hK _ _ ?_; clear hK K) | (refine wpX_load rfl rfl rfl (by simp [Stay, OneD, NoD, *]) hs0 (by simp [*]) (fun K hK => ?_); go_step; refine hK _ _ ?_; clear hK K))
              (refine wpX_nil ?_; go_step)
              go_wp2_with fail
              go_ret
              exact ⟨by rw [HR9.out.trans (goodB_w (i := j) (by show _ < (q0.map Prod.fst).length; rw [List.length_map]; exact HLT.out) (by show wokB (sizeN s0 s1 s2 s3 s4 s5) (dt + ck).toNat (q0.map Prod.fst) j = false; rw [← HZZ.out, HNN.out.1]; exact HNO.out))]; first | rfl | go_simp, H.done⟩
            · by_cases hix2 : ix < sz9
              · have HA := Lib.hid (show (0 : Int) ≤ ix ∧ ix < sz9 from ⟨by omega, hix2⟩)
                have hg : ¬ ix ≥ sz9 := by omega
                by_cases hlen : bs.length = N
                · have HLN := Lib.hid hlen
                  have hlenb : ((bs.length : Int) != N) = false := by rw [hlen]; simp
                  clear hlen
                  skip
                  skip
                  cases hzz : zeroB bs with
                  | true =>
                    replace HZB := Lib.hid (fun wx h1 => by have := HZB.out wx h1; rw [hzz] at this; exact this)
                    have HZT := Lib.hid hzz
                    clear hzz
                    cases po with
                    | false =>
                      have HNO := Lib.hid (show wokB sz9 N (q0.map Prod.fst) (j) = false from HWK.out.trans (by unfold blankW; dsimp only; rw [HZT.out]; simp))
                      refine wp_region_xH (by kernel_rfl) (by kernel_rfl) (by kernel_rfl) (by kernel_rfl) (fun _ => False) (H) ?_
                      clear H; intro w9 H hz0 hs0
                      try clear C
                      try simp only [World.size_alloc, List.nil_append, List.cons_append, List.append_assoc] at H hz0
                      clear hz0
                      try clear w7
                      have C := H.cells
                      try simp only [cellsOf, cellsM, apartOf, apartM, and_true] at C
                      have Z := H.zs
                      try simp only [ltsOf, ltsM, and_true] at Z
                      have hz0 := Nat.le_refl w9.heap.size
                      repeat (first | (refine wpX_skip rfl ?_; go_simp) | (refine wpX_free rfl rfl rfl (fun K hK => ?_); go_step; refine hK _ _ ?_; clear hK K) | (refine wpX_load rfl rfl rfl (by simp [Stay, OneD, NoD, *]) hs0 (by simp [*]) (fun K hK => ?_); go_step; refine hK _ _ ?_; clear hK K))
                      refine wpX_eff rfl rfl (fun _ _ => ?_)
                      go_step
                      refine (HZB.out _ (HBJ.out.up H.done)).mono ?_
                      rintro _ w10 ⟨rfl, hb⟩
                      replace hs0 := hs0.belowS hz0 hb
                      replace hz0 := Nat.le_trans hz0 hb.size
                      replace H := H.below hb
                      clear hb
                      try clear C
                      have C := H.cells
                      try simp only [cellsOf, cellsM, apartOf, apartM, and_true] at C
                      try clear w9
                      dsimp only
                      go_step
                      refine ⟨hs0, ?_⟩
                      repeat (first | (refine wpX_skip rfl ?_; go_simp) | (refine wpX_free rfl rfl rfl (fun K hK => ?_); go_step; refine hK _ _ ?_; clear hK K) | (refine wpX_load rfl rfl rfl (by simp [Stay, OneD, NoD, *]) hs0 (by simp [*]) (fun K hK => ?_); go_step; refine hK _ _ ?_; clear hK K))
                      (refine wpX_nil ?_; go_step)
                      go_wp2_with fail
                      go_ret
                      exact ⟨by rw [HR9.out.trans (goodB_w (i := j) (by show _ < (q0.map Prod.fst).length; rw [List.length_map]; exact HLT.out) (by show wokB (sizeN s0 s1 s2 s3 s4 s5) (dt + ck).toNat (q0.map Prod.fst) j = false; rw [← HZZ.out, HNN.out.1]; exact HNO.out))]; first | rfl | go_simp, H.done⟩
                    | true =>
                      skip
                      have HBL := Lib.hid (show blankW ⟨ix, bs, true⟩ = false from rfl)
                      cases j with
                      | zero =>
                        have HOK := Lib.hid (show wokB sz9 N (q0.map Prod.fst) (0) = true from HWK.out.trans (by rw [decide_eq_true HA.out, decide_eq_true HLN.out, HBL.out]; rfl))
                        refine wp_region_xH (by kernel_rfl) (by kernel_rfl) (by kernel_rfl) (by kernel_rfl) (fun _ => False) (H) ?_
                        clear H; intro w11 H hz0 hs0
                        try clear C
                        try simp only [World.size_alloc, List.nil_append, List.cons_append, List.append_assoc] at H hz0
                        clear hz0
                        try clear w7
                        have C := H.cells
                        try simp only [cellsOf, cellsM, apartOf, apartM, and_true] at C
                        have Z := H.zs
                        try simp only [ltsOf, ltsM, and_true] at Z
                        have hz0 := Nat.le_refl w11.heap.size
                        repeat (first | (refine wpX_skip rfl ?_; go_simp) | (refine wpX_free rfl rfl rfl (fun K hK => ?_); go_step; refine hK _ _ ?_; clear hK K) | (refine wpX_load rfl rfl rfl (by simp [Stay, OneD, NoD, *]) hs0 (by simp [*]) (fun K hK => ?_); go_step; refine hK _ _ ?_; clear hK K))
                        refine wpX_eff rfl rfl (fun _ _ => ?_)
                        go_step
                        refine (HZB.out _ (HBJ.out.up H.done)).mono ?_
                        rintro _ w12 ⟨rfl, hb⟩
                        replace hs0 := hs0.belowS hz0 hb
                        replace hz0 := Nat.le_trans hz0 hb.size
                        replace H := H.below hb
                        clear hb
                        try clear C
                        have C := H.cells
                        try simp only [cellsOf, cellsM, apartOf, apartM, and_true] at C
                        try clear w11
                        dsimp only
                        go_step
                        refine ⟨hs0, ?_⟩
                        repeat (first | (refine wpX_skip rfl ?_; go_simp) | (refine wpX_free rfl rfl rfl (fun K hK => ?_); go_step; refine hK _ _ ?_; clear hK K) | (refine wpX_load rfl rfl rfl (by simp [Stay, OneD, NoD, *]) hs0 (by simp [*]) (fun K hK => ?_); go_step; refine hK _ _ ?_; clear hK K))
                        (refine wpX_nil ?_; go_step)
                        go_wp2_with fail
                        go_roundw
                        case rel =>
                          refine ⟨0 + 1, by go_num, by omega, (show Hid _ from fun i hi => ?_), HS.less H (by repeat (first | exact .slnil | refine .cons_cons _ ?_ | refine .cons _ ?_))⟩
                          by_cases e : i = 0
                          · subst e; exact HOK.out
                          · exact HF.out i (by omega)
                        case measure => simp [intOf]; omega
                      | succ j =>
                        have hltp : j < q0.length := by have := HLT.out; omega
                        have hjp : (j : Int) < q0.length := by omega
                        have hj1 : ((j + 1 : Nat) : Int) - 1 = (j : Int) := by omega
                        have hj2 : (j : Int) + 1 - 1 = (j : Int) := by omega
                        have hj0 : (0 : Int) ≤ j := by omega
                        have HLP := Lib.hid (fun (wx : World) (hx : Lies wx wx.heap.size (some ⟨b, o, none⟩) 3 q0.length (fun j => cwC q0[j]!)) => show (∀ i v, (cwC q0[j]!)[i]? = some v → wx.cell? ⟨b, o + j * 3 + i, none⟩ = some v) ∧ b < wx.heap.size from by
                          obtain ⟨b9, o9, e9, hb9, h9⟩ := hx.at hltp
                          cases e9
                          exact ⟨h9, hb9⟩)
                        have HWP := Lib.hid (show ((q0.map Prod.fst)[j + 1 - 1]!) = (q0[j]!).1 from map_bang hltp)
                        obtain ⟨p, hp⟩ : ∃ p, p = q0[j]! := ⟨_, rfl⟩
                        rw [← hp] at HLP HWP
                        obtain ⟨⟨pix, pbs, ppo⟩, ⟨pa, pn, pc⟩⟩ := p
                        clear hp hltp
                        skip
                        by_cases hpi : pix < ix
                        · have hpi2 : ¬ ix ≤ pix := by omega
                          have HOK := Lib.hid (show wokB sz9 N (q0.map Prod.fst) (j + 1) = true from HWK.out.trans (by rw [decide_eq_true HA.out, decide_eq_true HLN.out, HBL.out, HWP.out, decide_eq_true hpi]; simp))
                          refine wp_region_xH (by kernel_rfl) (by kernel_rfl) (by kernel_rfl) (by kernel_rfl) (fun _ => False) (H) ?_
                          clear H; intro w13 H hz0 hs0
                          try clear C
                          try simp only [World.size_alloc, List.nil_append, List.cons_append, List.append_assoc] at H hz0
                          clear hz0
                          try clear w12
                          have C := H.cells
                          try simp only [cellsOf, cellsM, apartOf, apartM, and_true] at C
                          have Z := H.zs
                          try simp only [ltsOf, ltsM, and_true] at Z
                          have hz0 := Nat.le_refl w13.heap.size
                          obtain ⟨hcp, hbp⟩ := HLP.out _ (H.liesUp HL.out)
                          have d0 : w13.cell? ⟨b, o + j * 3, none⟩ = some (.int .i64 pix) := hcp 0 _ rfl
                          clear hcp
                          repeat (first | (refine wpX_skip rfl ?_; go_simp) | (refine wpX_free rfl rfl rfl (fun K hK => ?_); go_step; refine hK _ _ ?_; clear hK K) | (refine wpX_load rfl rfl rfl (by simp [Stay, OneD, NoD, *]) hs0 (by simp [*]) (fun K hK => ?_); go_step; refine hK _ _ ?_; clear hK K))
                          refine wpX_eff rfl rfl (fun _ _ => ?_)
                          go_step
                          refine (HZB.out _ (HBJ.out.up H.done)).mono ?_
                          rintro _ w14 ⟨rfl, hb⟩
                          replace hs0 := hs0.belowS hz0 hb
                          replace hz0 := Nat.le_trans hz0 hb.size
                          replace H := H.below hb
                          clear hb
                          try clear C
                          have C := H.cells
                          try simp only [cellsOf, cellsM, apartOf, apartM, and_true] at C
                          try clear w13
                          dsimp only
                          go_step
                          refine ⟨hs0, ?_⟩
                          obtain ⟨hcp, hbq⟩ := HLP.out _ (H.liesUp HL.out)
                          have d1 : w14.cell? ⟨b, o + j * 3, none⟩ = some (.int .i64 pix) := hcp 0 _ rfl
                          clear hcp
                          repeat (first | (refine wpX_skip rfl ?_; go_simp) | (refine wpX_free rfl rfl rfl (fun K hK => ?_); go_step; refine hK _ _ ?_; clear hK K) | (refine wpX_load rfl rfl rfl (by simp [Stay, OneD, NoD, *]) hs0 (by simp [*]) (fun K hK => ?_); go_step; refine hK _ _ ?_; clear hK K))
                          (refine wpX_nil ?_; go_step)
                          go_wp2_with fail
                          go_roundw
                          case rel =>
                            refine ⟨(j + 1) + 1, by go_num, by omega, (show Hid _ from fun i hi => ?_), HS.less H (by repeat (first | exact .slnil | refine .cons_cons _ ?_ | refine .cons _ ?_))⟩
                            by_cases e : i = j + 1
                            · subst e; exact HOK.out
                            · exact HF.out i (by omega)
                          case measure => simp [intOf]; omega
                        · have hpi2 : ix ≤ pix := by omega
                          have HNO := Lib.hid (show wokB sz9 N (q0.map Prod.fst) (j + 1) = false from HWK.out.trans (by rw [HWP.out, decide_eq_false hpi]; simp))
                          skip
                          refine wp_region_xH (by kernel_rfl) (by kernel_rfl) (by kernel_rfl) (by kernel_rfl) (fun _ => False) (H) ?_
                          clear H; intro w15 H hz0 hs0
                          try clear C
                          try simp only [World.size_alloc, List.nil_append, List.cons_append, List.append_assoc] at H hz0
                          clear hz0
                          try clear w12
                          have C := H.cells
                          try simp only [cellsOf, cellsM, apartOf, apartM, and_true] at C
                          have Z := H.zs
                          try simp only [ltsOf, ltsM, and_true] at Z
                          have hz0 := Nat.le_refl w15.heap.size
                          obtain ⟨hcp, hbp⟩ := HLP.out _ (H.liesUp HL.out)
                          have d0 : w15.cell? ⟨b, o + j * 3, none⟩ = some (.int .i64 pix) := hcp 0 _ rfl
                          clear hcp
                          repeat (first | (refine wpX_skip rfl ?_; go_simp) | (refine wpX_free rfl rfl rfl (fun K hK => ?_); go_step; refine hK _ _ ?_; clear hK K) | (refine wpX_load rfl rfl rfl (by simp [Stay, OneD, NoD, *]) hs0 (by simp [*]) (fun K hK => ?_); go_step; refine hK _ _ ?_; clear hK K))
                          refine wpX_eff rfl rfl (fun _ _ => ?_)
                          go_step
                          refine (HZB.out _ (HBJ.out.up H.done)).mono ?_
                          rintro _ w16 ⟨rfl, hb⟩
                          replace hs0 := hs0.belowS hz0 hb
                          replace hz0 := Nat.le_trans hz0 hb.size
                          replace H := H.below hb
                          clear hb
                          try clear C
                          have C := H.cells
                          try simp only [cellsOf, cellsM, apartOf, apartM, and_true] at C
                          try clear w15
                          dsimp only
                          go_step
                          refine ⟨hs0, ?_⟩
                          obtain ⟨hcp, hbq⟩ := HLP.out _ (H.liesUp HL.out)
                          have d1 : w16.cell? ⟨b, o + j * 3, none⟩ = some (.int .i64 pix) := hcp 0 _ rfl
                          clear hcp
                          repeat (first | (refine wpX_skip rfl ?_; go_simp) | (refine wpX_free rfl rfl rfl (fun K hK => ?_); go_step; refine hK _ _ ?_; clear hK K) | (refine wpX_load rfl rfl rfl (by simp [Stay, OneD, NoD, *]) hs0 (by simp [*]) (fun K hK => ?_); go_step; refine hK _ _ ?_; clear hK K))
                          (refine wpX_nil ?_; go_step)
                          go_wp2_with fail
                          go_ret
                          exact ⟨by rw [HR9.out.trans (goodB_w (i := (j + 1)) (by show _ < (q0.map Prod.fst).length; rw [List.length_map]; exact HLT.out) (by show wokB (sizeN s0 s1 s2 s3 s4 s5) (dt + ck).toNat (q0.map Prod.fst) (j + 1) = false; rw [← HZZ.out, HNN.out.1]; exact HNO.out))]; first | rfl | go_simp, H.done⟩
                  | false =>
                    replace HZB := Lib.hid (fun wx h1 => by have := HZB.out wx h1; rw [hzz] at this; exact this)
                    have HZT := Lib.hid hzz
                    clear hzz
                    skip
                    have HBL := Lib.hid (show blankW ⟨ix, bs, po⟩ = false by unfold blankW; dsimp only; rw [HZT.out]; simp)
                    cases j with
                    | zero =>
                      have HOK := Lib.hid (show wokB sz9 N (q0.map Prod.fst) (0) = true from HWK.out.trans (by rw [decide_eq_true HA.out, decide_eq_true HLN.out, HBL.out]; rfl))
                      refine wp_region_xH (by kernel_rfl) (by kernel_rfl) (by kernel_rfl) (by kernel_rfl) (fun _ => False) (H) ?_
                      clear H; intro w17 H hz0 hs0
                      try clear C
                      try simp only [World.size_alloc, List.nil_append, List.cons_append, List.append_assoc] at H hz0
                      clear hz0
                      try clear w7
                      have C := H.cells
                      try simp only [cellsOf, cellsM, apartOf, apartM, and_true] at C
                      have Z := H.zs
                      try simp only [ltsOf, ltsM, and_true] at Z
                      have hz0 := Nat.le_refl w17.heap.size
                      repeat (first | (refine wpX_skip rfl ?_; go_simp) | (refine wpX_free rfl rfl rfl (fun K hK => ?_); go_step; refine hK _ _ ?_; clear hK K) | (refine wpX_load rfl rfl rfl (by simp [Stay, OneD, NoD, *]) hs0 (by simp [*]) (fun K hK => ?_); go_step; refine hK _ _ ?_; clear hK K))
                      refine wpX_eff rfl rfl (fun _ _ => ?_)
                      go_step
                      refine (HZB.out _ (HBJ.out.up H.done)).mono ?_
                      rintro _ w18 ⟨rfl, hb⟩
                      replace hs0 := hs0.belowS hz0 hb
                      replace hz0 := Nat.le_trans hz0 hb.size
                      replace H := H.below hb
                      clear hb
                      try clear C
                      have C := H.cells
                      try simp only [cellsOf, cellsM, apartOf, apartM, and_true] at C
                      try clear w17
                      dsimp only
                      go_step
                      refine ⟨hs0, ?_⟩
                      repeat (first | (refine wpX_skip rfl ?_; go_simp) | (refine wpX_free rfl rfl rfl (fun K hK => ?_); go_step; refine hK _ _ ?_; clear hK K) | (refine wpX_load rfl rfl rfl (by simp [Stay, OneD, NoD, *]) hs0 (by simp [*]) (fun K hK => ?_); go_step; refine hK _ _ ?_; clear hK K))
                      (refine wpX_nil ?_; go_step)
                      go_wp2_with fail
                      go_roundw
                      case rel =>
                        refine ⟨0 + 1, by go_num, by omega, (show Hid _ from fun i hi => ?_), HS.less H (by repeat (first | exact .slnil | refine .cons_cons _ ?_ | refine .cons _ ?_))⟩
                        by_cases e : i = 0
                        · subst e; exact HOK.out
                        · exact HF.out i (by omega)
                      case measure => simp [intOf]; omega
                    | succ j =>
                      have hltp : j < q0.length := by have := HLT.out; omega
                      have hjp : (j : Int) < q0.length := by omega
                      have hj1 : ((j + 1 : Nat) : Int) - 1 = (j : Int) := by omega
                      have hj2 : (j : Int) + 1 - 1 = (j : Int) := by omega
                      have hj0 : (0 : Int) ≤ j := by omega
                      have HLP := Lib.hid (fun (wx : World) (hx : Lies wx wx.heap.size (some ⟨b, o, none⟩) 3 q0.length (fun j => cwC q0[j]!)) => show (∀ i v, (cwC q0[j]!)[i]? = some v → wx.cell? ⟨b, o + j * 3 + i, none⟩ = some v) ∧ b < wx.heap.size from by
                        obtain ⟨b9, o9, e9, hb9, h9⟩ := hx.at hltp
                        cases e9
                        exact ⟨h9, hb9⟩)
                      have HWP := Lib.hid (show ((q0.map Prod.fst)[j + 1 - 1]!) = (q0[j]!).1 from map_bang hltp)
                      obtain ⟨p, hp⟩ : ∃ p, p = q0[j]! := ⟨_, rfl⟩
                      rw [← hp] at HLP HWP
                      obtain ⟨⟨pix, pbs, ppo⟩, ⟨pa, pn, pc⟩⟩ := p
                      clear hp hltp
                      skip
                      by_cases hpi : pix < ix
                      · have hpi2 : ¬ ix ≤ pix := by omega
                        have HOK := Lib.hid (show wokB sz9 N (q0.map Prod.fst) (j + 1) = true from HWK.out.trans (by rw [decide_eq_true HA.out, decide_eq_true HLN.out, HBL.out, HWP.out, decide_eq_true hpi]; simp))
                        refine wp_region_xH (by kernel_rfl) (by kernel_rfl) (by kernel_rfl) (by kernel_rfl) (fun _ => False) (H) ?_
                        clear H; intro w19 H hz0 hs0
                        try clear C
                        try simp only [World.size_alloc, List.nil_append, List.cons_append, List.append_assoc] at H hz0
                        clear hz0
                        try clear w18
                        have C := H.cells
                        try simp only [cellsOf, cellsM, apartOf, apartM, and_true] at C
                        have Z := H.zs
                        try simp only [ltsOf, ltsM, and_true] at Z
                        have hz0 := Nat.le_refl w19.heap.size
                        obtain ⟨hcp, hbp⟩ := HLP.out _ (H.liesUp HL.out)
                        have d0 : w19.cell? ⟨b, o + j * 3, none⟩ = some (.int .i64 pix) := hcp 0 _ rfl
                        clear hcp
                        repeat (first | (refine wpX_skip rfl ?_; go_simp) | (refine wpX_free rfl rfl rfl (fun K hK => ?_); go_step; refine hK _ _ ?_; clear hK K) | (refine wpX_load rfl rfl rfl (by simp [Stay, OneD, NoD, *]) hs0 (by simp [*]) (fun K hK => ?_); go_step; refine hK _ _ ?_; clear hK K))
                        refine wpX_eff rfl rfl (fun _ _ => ?_)
                        go_step
                        refine (HZB.out _ (HBJ.out.up H.done)).mono ?_
                        rintro _ w20 ⟨rfl, hb⟩
                        replace hs0 := hs0.belowS hz0 hb
                        replace hz0 := Nat.le_trans hz0 hb.size
                        replace H := H.below hb
                        clear hb
                        try clear C
                        have C := H.cells
                        try simp only [cellsOf, cellsM, apartOf, apartM, and_true] at C
                        try clear w19
                        dsimp only
                        go_step
                        refine ⟨hs0, ?_⟩
                        obtain ⟨hcp, hbq⟩ := HLP.out _ (H.liesUp HL.out)
                        have d1 : w20.cell? ⟨b, o + j * 3, none⟩ = some (.int .i64 pix) := hcp 0 _ rfl
                        clear hcp
                        repeat (first | (refine wpX_skip rfl ?_; go_simp) | (refine wpX_free rfl rfl rfl (fun K hK => ?_); go_step; refine hK _ _ ?_; clear hK K) | (refine wpX_load rfl rfl rfl (by simp [Stay, OneD, NoD, *]) hs0 (by simp [*]) (fun K hK => ?_); go_step; refine hK _ _ ?_; clear hK K))
                        (refine wpX_nil ?_; go_step)
                        go_wp2_with fail
                        go_roundw
                        case rel =>
                          refine ⟨(j + 1) + 1, by go_num, by omega, (show Hid _ from fun i hi => ?_), HS.less H (by repeat (first | exact .slnil | refine .cons_cons _ ?_ | refine .cons _ ?_))⟩
                          by_cases e : i = j + 1
                          · subst e; exact HOK.out
                          · exact HF.out i (by omega)
                        case measure => simp [intOf]; omega
                      · have hpi2 : ix ≤ pix := by omega
                        have HNO := Lib.hid (show wokB sz9 N (q0.map Prod.fst) (j + 1) = false from HWK.out.trans (by rw [HWP.out, decide_eq_false hpi]; simp))
                        skip
                        refine wp_region_xH (by kernel_rfl) (by kernel_rfl) (by kernel_rfl) (by kernel_rfl) (fun _ => False) (H) ?_
                        clear H; intro w21 H hz0 hs0
                        try clear C
                        try simp only [World.size_alloc, List.nil_append, List.cons_append, List.append_assoc] at H hz0
                        clear hz0
                        try clear w18
                        have C := H.cells
                        try simp only [cellsOf, cellsM, apartOf, apartM, and_true] at C
                        have Z := H.zs
                        try simp only [ltsOf, ltsM, and_true] at Z
                        have hz0 := Nat.le_refl w21.heap.size
                        obtain ⟨hcp, hbp⟩ := HLP.out _ (H.liesUp HL.out)
                        have d0 : w21.cell? ⟨b, o + j * 3, none⟩ = some (.int .i64 pix) := hcp 0 _ rfl
                        clear hcp
                        repeat (first | (refine wpX_skip rfl ?_; go_simp) | (refine wpX_free rfl rfl rfl (fun K hK => ?_); go_step; refine hK _ _ ?_; clear hK K) | (refine wpX_load rfl rfl rfl (by simp [Stay, OneD, NoD, *]) hs0 (by simp [*]) (fun K hK => ?_); go_step; refine hK _ _ ?_; clear hK K))
                        refine wpX_eff rfl rfl (fun _ _ => ?_)
                        go_step
                        refine (HZB.out _ (HBJ.out.up H.done)).mono ?_
                        rintro _ w22 ⟨rfl, hb⟩
                        replace hs0 := hs0.belowS hz0 hb
                        replace hz0 := Nat.le_trans hz0 hb.size
                        replace H := H.below hb
                        clear hb
                        try clear C
                        have C := H.cells
                        try simp only [cellsOf, cellsM, apartOf, apartM, and_true] at C
                        try clear w21
                        dsimp only
                        go_step
                        refine ⟨hs0, ?_⟩
                        obtain ⟨hcp, hbq⟩ := HLP.out _ (H.liesUp HL.out)
                        have d1 : w22.cell? ⟨b, o + j * 3, none⟩ = some (.int .i64 pix) := hcp 0 _ rfl
                        clear hcp
                        repeat (first | (refine wpX_skip rfl ?_; go_simp) | (refine wpX_free rfl rfl rfl (fun K hK => ?_); go_step; refine hK _ _ ?_; clear hK K) | (refine wpX_load rfl rfl rfl (by simp [Stay, OneD, NoD, *]) hs0 (by simp [*]) (fun K hK => ?_); go_step; refine hK _ _ ?_; clear hK K))
                        (refine wpX_nil ?_; go_step)
                        go_wp2_with fail
                        go_ret
                        exact ⟨by rw [HR9.out.trans (goodB_w (i := (j + 1)) (by show _ < (q0.map Prod.fst).length; rw [List.length_map]; exact HLT.out) (by show wokB (sizeN s0 s1 s2 s3 s4 s5) (dt + ck).toNat (q0.map Prod.fst) (j + 1) = false; rw [← HZZ.out, HNN.out.1]; exact HNO.out))]; first | rfl | go_simp, H.done⟩
                · have hleni : ¬ (bs.length : Int) = N := by omega
                  have hlenb : ((bs.length : Int) != N) = true := bne_iff_ne.2 hleni
                  have HNO := Lib.hid (show wokB sz9 N (q0.map Prod.fst) (j) = false from HWK.out.trans (by rw [decide_eq_false hlen]; simp))
                  skip
                  refine wp_region_xH (by kernel_rfl) (by kernel_rfl) (by kernel_rfl) (by kernel_rfl) (fun _ => False) (H) ?_
                  clear H; intro w23 H hz0 hs0
                  try clear C
                  try simp only [World.size_alloc, List.nil_append, List.cons_append, List.append_assoc] at H hz0
                  clear hz0
                  try clear w7
                  have C := H.cells
                  try simp only [cellsOf, cellsM, apartOf, apartM, and_true] at C
                  have Z := H.zs
                  try simp only [ltsOf, ltsM, and_true] at Z
                  have hz0 := Nat.le_refl w23.heap.size
                  repeat (first | (refine wpX_skip rfl ?_; go_simp) | (refine wpX_free rfl rfl rfl (fun K hK => ?_); go_step; refine hK _ _ ?_; clear hK K) | (refine wpX_load rfl rfl rfl (by simp [Stay, OneD, NoD, *]) hs0 (by simp [*]) (fun K hK => ?_); go_step; refine hK _ _ ?_; clear hK K))
                  (refine wpX_nil ?_; go_step)
                  go_wp2_with fail
                  go_ret
                  exact ⟨by rw [HR9.out.trans (goodB_w (i := j) (by show _ < (q0.map Prod.fst).length; rw [List.length_map]; exact HLT.out) (by show wokB (sizeN s0 s1 s2 s3 s4 s5) (dt + ck).toNat (q0.map Prod.fst) j = false; rw [← HZZ.out, HNN.out.1]; exact HNO.out))]; first | rfl | go_simp, H.done⟩
              · have hg : ix ≥ sz9 := by omega
                have HNO := Lib.hid (show wokB sz9 N (q0.map Prod.fst) (j) = false from HWK.out.trans (by rw [decide_eq_false (show ¬ ((0 : Int) ≤ ix ∧ ix < sz9) by omega)]; rfl))
                skip
                refine wp_region_xH (by kernel_rfl) (by kernel_rfl) (by kernel_rfl) (by kernel_rfl) (fun _ => False) (H) ?_
                clear H; intro w24 H hz0 hs0
                try clear C
                try simp only [World.size_alloc, List.nil_append, List.cons_append, List.append_assoc] at H hz0
                clear hz0
                try clear w7
                have C := H.cells
                try simp only [cellsOf, cellsM, apartOf, apartM, and_true] at C
                have Z := H.zs
                try simp only [ltsOf, ltsM, and_true] at Z
                have hz0 := Nat.le_refl w24.heap.size
                repeat (first | (refine wpX_skip rfl ?_; go_simp) | (refine wpX_free rfl rfl rfl (fun K hK => ?_); go_step; refine hK _ _ ?_; clear hK K) | (refine wpX_load rfl rfl rfl (by simp [Stay, OneD, NoD, *]) hs0 (by simp [*]) (fun K hK => ?_); go_step; refine hK _ _ ?_; clear hK K))
                (refine wpX_nil ?_; go_step)
                go_wp2_with fail
                go_ret
                exact ⟨by rw [HR9.out.trans (goodB_w (i := j) (by show _ < (q0.map Prod.fst).length; rw [List.length_map]; exact HLT.out) (by show wokB (sizeN s0 s1 s2 s3 s4 s5) (dt + ck).toNat (q0.map Prod.fst) j = false; rw [← HZZ.out, HNN.out.1]; exact HNO.out))]; first | rfl | go_simp, H.done⟩
          · obtain rfl : j = q0.length := by omega
            have HWS := HF
            clear hlt hj HF
            skip
            go_wp2_with fail
            go_loopw [7] (fun ii wr => ∃ (j : Nat), ii = .int .i64 j ∧ j ≤ fs.length ∧ Hid (∀ i, i < j → fokB (⟨s0, s1, s2, s3, s4, s5, kd, dt, ck, fx, q0.map Prod.fst, fs⟩ : Mm) (dt + ck) fs i = true) ∧ HS NoD w [.blk b1 #[.int .i64 s0, .int .i64 s1, .int .i64 s2, .int .i64 s3, .int .i64 s4, .int .i64 s5, .int .i64 kd, .int .i64 dt, .int .i64 ck, .int .i64 fx, .slice xa q0.length xc, .slice ya fs.length yc] 34] wr) (fun ii _ => fs.length - (intOf ii).toNat)
            case atStart => exact ⟨0, rfl, Nat.zero_le _, (show Hid _ from fun i hi => absurd hi (Nat.not_lt_zero _)), H⟩
            case round =>
              clear H C
              obtain ⟨j, rfl, hj, HF, H⟩ := hrel
              skip
              try clear C
              try simp only [World.size_alloc, List.nil_append, List.cons_append, List.append_assoc] at H
              have C := H.cells
              try simp only [cellsOf, cellsM, apartOf, apartM, and_true] at C
              by_cases hlt : j < fs.length
              · skip
                have HJ := Lib.hid hlt
                obtain ⟨b, o, rfl, hb, -⟩ := (H.liesUp HL2.out).at hlt
                have hji : (j : Int) < fs.length := by omega
                have HLF := Lib.hid (fun (wx : World) (hx : Lies wx wx.heap.size (some ⟨b, o, none⟩) 11 fs.length (fun j => cfC fs[j]!)) => show (∀ i v, (cfC fs[j]!)[i]? = some v → wx.cell? ⟨b, o + j * 11 + i, none⟩ = some v) ∧ b < wx.heap.size from by
                  obtain ⟨b9, o9, e9, hb9, h9⟩ := hx.at hlt
                  cases e9
                  exact ⟨h9, hb9⟩)
                obtain ⟨f, hf⟩ : ∃ f, f = fs[j]! := ⟨_, rfl⟩
                have HFJ := Lib.hid hf.symm
                rw [← hf] at HLF
                clear hf hb
                obtain ⟨k, p0, p1, p2, p3, p4, p5, ch, ms, vl, hd⟩ := f
                cases hd with
                | false =>
                  have HNO := Lib.hid (show fokB (⟨s0, s1, s2, s3, s4, s5, kd, dt, ck, fx, q0.map Prod.fst, fs⟩ : Mm) (dt + ck) fs j = false by unfold fokB; rw [HFJ.out]; rfl)
                  go_upto_region 13 with fail
                  refine wp_region_xH (by kernel_rfl) (by kernel_rfl) (by kernel_rfl) (by kernel_rfl) (fun _ => False) (H) ?_
                  clear H; intro w25 H hz0 hs0
                  try clear C
                  try simp only [World.size_alloc, List.nil_append, List.cons_append, List.append_assoc] at H hz0
                  clear hz0
                  try clear wr
                  have C := H.cells
                  try simp only [cellsOf, cellsM, apartOf, apartM, and_true] at C
                  have Z := H.zs
                  try simp only [ltsOf, ltsM, and_true] at Z
                  have hz0 := Nat.le_refl w25.heap.size
                  obtain ⟨hcq, hbq⟩ := HLF.out _ (H.liesUp HL2.out)
                  have c0 : w25.cell? ⟨b, o + j * 11, none⟩ = some (.int .i64 k) := hcq 0 _ rfl
                  have c1 : w25.cell? ⟨b, o + j * 11 + 1, none⟩ = some (.int .i64 p0) := hcq 1 _ rfl
                  have c2 : w25.cell? ⟨b, o + j * 11 + 2, none⟩ = some (.int .i64 p1) := hcq 2 _ rfl
                  have c3 : w25.cell? ⟨b, o + j * 11 + 3, none⟩ = some (.int .i64 p2) := hcq 3 _ rfl
                  have c4 : w25.cell? ⟨b, o + j * 11 + 4, none⟩ = some (.int .i64 p3) := hcq 4 _ rfl
                  have c5 : w25.cell? ⟨b, o + j * 11 + 5, none⟩ = some (.int .i64 p4) := hcq 5 _ rfl
                  have c6 : w25.cell? ⟨b, o + j * 11 + 6, none⟩ = some (.int .i64 p5) := hcq 6 _ rfl
                  have c7 : w25.cell? ⟨b, o + j * 11 + 7, none⟩ = some (.int .i64 ch) := hcq 7 _ rfl
                  have c8 : w25.cell? ⟨b, o + j * 11 + 8, none⟩ = some (.int .u8 ms) := hcq 8 _ rfl
                  have c9 : w25.cell? ⟨b, o + j * 11 + 9, none⟩ = some (.int .u8 vl) := hcq 9 _ rfl
                  have c10 : w25.cell? ⟨b, o + j * 11 + 10, none⟩ = some (.bool false) := hcq 10 _ rfl
                  clear hcq
                  repeat (first | (refine wpX_skip rfl ?_; go_simp) | (refine wpX_free rfl rfl rfl (fun K hK => ?_); go_step; refine hK _ _ ?_; clear hK K) | (refine wpX_load rfl rfl rfl (by simp [Stay, OneD, NoD, *]) hs0 (by simp [*]) (fun K hK => ?_); go_step; refine hK _ _ ?_; clear hK K))
                  (refine wpX_nil ?_; go_step)
                  go_wp2_with fail
                  go_ret
                  exact ⟨by rw [HR9.out.trans (goodB_f (i := j) HJ.out HNO.out)]; first | rfl | go_simp, H.done⟩
                | true =>
                  skip
                  have HVF := Lib.hid (fun w => show Calls Tryd.prog 72 #[v6 s0 s1 s2 s3 s4 s5, .int .i64 N, .agg #[.int .i64 k, .int .i64 p0, .int .i64 p1, .int .i64 p2, .int .i64 p3, .int .i64 p4, .int .i64 p5, .int .i64 ch, .int .u8 ms, .int .u8 vl, .bool true]] w (Gives (.bool (vfF (⟨s0, s1, s2, s3, s4, s5, kd, dt, ck, fx, q0.map Prod.fst, fs⟩ : Mm) N ⟨k, p0, p1, p2, p3, p4, p5, ch, ms, vl, true⟩)) w) from rvfault_any s0 s1 s2 s3 s4 s5 N k p0 p1 p2 p3 p4 p5 ch ms vl true w)
                  cases hvf : vfF (⟨s0, s1, s2, s3, s4, s5, kd, dt, ck, fx, q0.map Prod.fst, fs⟩ : Mm) N ⟨k, p0, p1, p2, p3, p4, p5, ch, ms, vl, true⟩ with
                  | false =>
                    replace HVF := Lib.hid (fun w => by have := HVF.out w; rw [hvf] at this; exact this)
                    have HNO := Lib.hid (show fokB (⟨s0, s1, s2, s3, s4, s5, kd, dt, ck, fx, q0.map Prod.fst, fs⟩ : Mm) (dt + ck) fs j = false by unfold fokB; rw [HFJ.out, HNN.out.2, hvf]; simp)
                    clear hvf
                    go_upto_region 13 with fail
                    refine wp_region_xH (by kernel_rfl) (by kernel_rfl) (by kernel_rfl) (by kernel_rfl) (fun _ => False) (H) ?_
                    clear H; intro w26 H hz0 hs0
                    try clear C
                    try simp only [World.size_alloc, List.nil_append, List.cons_append, List.append_assoc] at H hz0
                    clear hz0
                    try clear wr
                    have C := H.cells
                    try simp only [cellsOf, cellsM, apartOf, apartM, and_true] at C
                    have Z := H.zs
                    try simp only [ltsOf, ltsM, and_true] at Z
                    have hz0 := Nat.le_refl w26.heap.size
                    obtain ⟨hcq, hbq⟩ := HLF.out _ (H.liesUp HL2.out)
                    have c0 : w26.cell? ⟨b, o + j * 11, none⟩ = some (.int .i64 k) := hcq 0 _ rfl
                    have c1 : w26.cell? ⟨b, o + j * 11 + 1, none⟩ = some (.int .i64 p0) := hcq 1 _ rfl
                    have c2 : w26.cell? ⟨b, o + j * 11 + 2, none⟩ = some (.int .i64 p1) := hcq 2 _ rfl
                    have c3 : w26.cell? ⟨b, o + j * 11 + 3, none⟩ = some (.int .i64 p2) := hcq 3 _ rfl
                    have c4 : w26.cell? ⟨b, o + j * 11 + 4, none⟩ = some (.int .i64 p3) := hcq 4 _ rfl
                    have c5 : w26.cell? ⟨b, o + j * 11 + 5, none⟩ = some (.int .i64 p4) := hcq 5 _ rfl
                    have c6 : w26.cell? ⟨b, o + j * 11 + 6, none⟩ = some (.int .i64 p5) := hcq 6 _ rfl
                    have c7 : w26.cell? ⟨b, o + j * 11 + 7, none⟩ = some (.int .i64 ch) := hcq 7 _ rfl
                    have c8 : w26.cell? ⟨b, o + j * 11 + 8, none⟩ = some (.int .u8 ms) := hcq 8 _ rfl
                    have c9 : w26.cell? ⟨b, o + j * 11 + 9, none⟩ = some (.int .u8 vl) := hcq 9 _ rfl
                    have c10 : w26.cell? ⟨b, o + j * 11 + 10, none⟩ = some (.bool true) := hcq 10 _ rfl
                    clear hcq
                    repeat (first | (refine wpX_skip rfl ?_; go_simp) | (refine wpX_free rfl rfl rfl (fun K hK => ?_); go_step; refine hK _ _ ?_; clear hK K) | (refine wpX_load rfl rfl rfl (by simp [Stay, OneD, NoD, *]) hs0 (by simp [*]) (fun K hK => ?_); go_step; refine hK _ _ ?_; clear hK K))
                    refine wpX_eff rfl rfl (fun _ _ => ?_)
                    go_step
                    refine (HVF.out _).mono ?_
                    rintro _ w27 ⟨rfl, hb⟩
                    replace hs0 := hs0.belowS hz0 hb
                    replace hz0 := Nat.le_trans hz0 hb.size
                    replace H := H.below hb
                    clear hb
                    try clear C
                    have C := H.cells
                    try simp only [cellsOf, cellsM, apartOf, apartM, and_true] at C
                    try clear w26
                    dsimp only
                    go_step
                    refine ⟨hs0, ?_⟩
                    repeat (first | (refine wpX_skip rfl ?_; go_simp) | (refine wpX_free rfl rfl rfl (fun K hK => ?_); go_step; refine hK _ _ ?_; clear hK K) | (refine wpX_load rfl rfl rfl (by simp [Stay, OneD, NoD, *]) hs0 (by simp [*]) (fun K hK => ?_); go_step; refine hK _ _ ?_; clear hK K))
                    (refine wpX_nil ?_; go_step)
                    go_wp2_with fail
                    go_ret
                    exact ⟨by rw [HR9.out.trans (goodB_f (i := j) HJ.out HNO.out)]; first | rfl | go_simp, H.done⟩
                  | true =>
                    skip
                    replace HVF := Lib.hid (fun w => by have := HVF.out w; rw [hvf] at this; exact this)
                    have HVT := Lib.hid (show vfF (⟨s0, s1, s2, s3, s4, s5, kd, dt, ck, fx, q0.map Prod.fst, fs⟩ : Mm) (dt + ck) ⟨k, p0, p1, p2, p3, p4, p5, ch, ms, vl, true⟩ = true by rw [HNN.out.2]; exact hvf)
                    clear hvf
                    go_upto_region 13 with fail
                    refine wp_region_xH (by kernel_rfl) (by kernel_rfl) (by kernel_rfl) (by kernel_rfl) (fun _ => False) (H) ?_
                    clear H; intro w28 H hz0 hs0
                    try clear C
                    try simp only [World.size_alloc, List.nil_append, List.cons_append, List.append_assoc] at H hz0
                    clear hz0
                    try clear wr
                    have C := H.cells
                    try simp only [cellsOf, cellsM, apartOf, apartM, and_true] at C
                    have Z := H.zs
                    try simp only [ltsOf, ltsM, and_true] at Z
                    have hz0 := Nat.le_refl w28.heap.size
                    obtain ⟨hcq, hbq⟩ := HLF.out _ (H.liesUp HL2.out)
                    have c0 : w28.cell? ⟨b, o + j * 11, none⟩ = some (.int .i64 k) := hcq 0 _ rfl
                    have c1 : w28.cell? ⟨b, o + j * 11 + 1, none⟩ = some (.int .i64 p0) := hcq 1 _ rfl
                    have c2 : w28.cell? ⟨b, o + j * 11 + 2, none⟩ = some (.int .i64 p1) := hcq 2 _ rfl
                    have c3 : w28.cell? ⟨b, o + j * 11 + 3, none⟩ = some (.int .i64 p2) := hcq 3 _ rfl
                    have c4 : w28.cell? ⟨b, o + j * 11 + 4, none⟩ = some (.int .i64 p3) := hcq 4 _ rfl
                    have c5 : w28.cell? ⟨b, o + j * 11 + 5, none⟩ = some (.int .i64 p4) := hcq 5 _ rfl
                    have c6 : w28.cell? ⟨b, o + j * 11 + 6, none⟩ = some (.int .i64 p5) := hcq 6 _ rfl
                    have c7 : w28.cell? ⟨b, o + j * 11 + 7, none⟩ = some (.int .i64 ch) := hcq 7 _ rfl
                    have c8 : w28.cell? ⟨b, o + j * 11 + 8, none⟩ = some (.int .u8 ms) := hcq 8 _ rfl
                    have c9 : w28.cell? ⟨b, o + j * 11 + 9, none⟩ = some (.int .u8 vl) := hcq 9 _ rfl
                    have c10 : w28.cell? ⟨b, o + j * 11 + 10, none⟩ = some (.bool true) := hcq 10 _ rfl
                    clear hcq
                    repeat (first | (refine wpX_skip rfl ?_; go_simp) | (refine wpX_free rfl rfl rfl (fun K hK => ?_); go_step; refine hK _ _ ?_; clear hK K) | (refine wpX_load rfl rfl rfl (by simp [Stay, OneD, NoD, *]) hs0 (by simp [*]) (fun K hK => ?_); go_step; refine hK _ _ ?_; clear hK K))
                    refine wpX_eff rfl rfl (fun _ _ => ?_)
                    go_step
                    refine (HVF.out _).mono ?_
                    rintro _ w29 ⟨rfl, hb⟩
                    replace hs0 := hs0.belowS hz0 hb
                    replace hz0 := Nat.le_trans hz0 hb.size
                    replace H := H.below hb
                    clear hb
                    try clear C
                    have C := H.cells
                    try simp only [cellsOf, cellsM, apartOf, apartM, and_true] at C
                    try clear w28
                    dsimp only
                    go_step
                    refine ⟨hs0, ?_⟩
                    repeat (first | (refine wpX_skip rfl ?_; go_simp) | (refine wpX_free rfl rfl rfl (fun K hK => ?_); go_step; refine hK _ _ ?_; clear hK K) | (refine wpX_load rfl rfl rfl (by simp [Stay, OneD, NoD, *]) hs0 (by simp [*]) (fun K hK => ?_); go_step; refine hK _ _ ?_; clear hK K))
                    (refine wpX_nil ?_; go_step)
                    clear c0 c1 c2 c3 c4 c5 c6 c7 c8 c9 c10 HVF
                    go_wp2_with fail
                    go_loopw [8] (fun kk wr => ∃ (k9 : Nat), kk = .int .i64 k9 ∧ k9 ≤ j ∧ Hid (∀ i, i < k9 → fs[i]! ≠ fs[j]!) ∧ HS NoD w [.blk b1 #[.int .i64 s0, .int .i64 s1, .int .i64 s2, .int .i64 s3, .int .i64 s4, .int .i64 s5, .int .i64 kd, .int .i64 dt, .int .i64 ck, .int .i64 fx, .slice xa q0.length xc, .slice (some ⟨b, o, none⟩) fs.length yc] 34] wr) (fun kk _ => j - (intOf kk).toNat)
                    case atStart => exact ⟨0, rfl, Nat.zero_le _, (show Hid _ from fun i hi => absurd hi (Nat.not_lt_zero _)), H⟩
                    case round =>
                      clear H C
                      obtain ⟨k9, rfl, hk, HE, H⟩ := hrel
                      skip
                      try clear C
                      try simp only [World.size_alloc, List.nil_append, List.cons_append, List.append_assoc] at H
                      have C := H.cells
                      try simp only [cellsOf, cellsM, apartOf, apartM, and_true] at C
                      by_cases hkj : k9 < j
                      · have hkf : k9 < fs.length := by have := HJ.out; omega
                        have hkf2 : (k9 : Int) < fs.length := by omega
                        have HK9 := Lib.hid hkj
                        have HLG := Lib.hid (fun (wx : World) (hx : Lies wx wx.heap.size (some ⟨b, o, none⟩) 11 fs.length (fun j => cfC fs[j]!)) => show (∀ i v, (cfC fs[k9]!)[i]? = some v → wx.cell? ⟨b, o + k9 * 11 + i, none⟩ = some v) ∧ b < wx.heap.size from by
                          obtain ⟨b9, o9, e9, hb9, h9⟩ := hx.at hkf
                          cases e9
                          exact ⟨h9, hb9⟩)
                        obtain ⟨g, hg⟩ : ∃ g, g = fs[k9]! := ⟨_, rfl⟩
                        have HG := Lib.hid hg
                        rw [← hg] at HLG
                        clear hg
                        have heq := fun w => eqlF ⟨k, p0, p1, p2, p3, p4, p5, ch, ms, vl, true⟩ g w
                        by_cases hfg : (⟨k, p0, p1, p2, p3, p4, p5, ch, ms, vl, true⟩ : Fa) = g
                        · have HNO := Lib.hid (show fokB (⟨s0, s1, s2, s3, s4, s5, kd, dt, ck, fx, q0.map Prod.fst, fs⟩ : Mm) (dt + ck) fs j = false by
                            have hm : fs[j]! ∈ fs.take j := by
                              rw [HFJ.out, hfg, HG.out]
                              rw [getElem!_pos fs k9 hkf]
                              exact List.mem_iff_getElem.2 ⟨k9, by rw [List.length_take]; omega, List.getElem_take⟩
                            unfold fokB
                            rw [decide_eq_true hm]; simp)
                          rw [decide_eq_true hfg] at heq
                          clear hfg HG
                          obtain ⟨k', p0', p1', p2', p3', p4', p5', ch', ms', vl', hd'⟩ := g
                          simp only [cfC] at heq
                          go_upto_region 18 with fail
                          refine wp_region_xH (by kernel_rfl) (by kernel_rfl) (by kernel_rfl) (by kernel_rfl) (fun _ => False) (H) ?_
                          clear H; intro w30 H hz0 hs0
                          try clear C
                          try simp only [World.size_alloc, List.nil_append, List.cons_append, List.append_assoc] at H hz0
                          clear hz0
                          try clear wr
                          have C := H.cells
                          try simp only [cellsOf, cellsM, apartOf, apartM, and_true] at C
                          have Z := H.zs
                          try simp only [ltsOf, ltsM, and_true] at Z
                          have hz0 := Nat.le_refl w30.heap.size
                          obtain ⟨hcq, hbq⟩ := HLF.out _ (H.liesUp HL2.out)
                          obtain ⟨hcr, hbr⟩ := HLG.out _ (H.liesUp HL2.out)
                          have c0 : w30.cell? ⟨b, o + j * 11, none⟩ = some (.int .i64 k) := hcq 0 _ rfl
                          have c1 : w30.cell? ⟨b, o + j * 11 + 1, none⟩ = some (.int .i64 p0) := hcq 1 _ rfl
                          have c2 : w30.cell? ⟨b, o + j * 11 + 2, none⟩ = some (.int .i64 p1) := hcq 2 _ rfl
                          have c3 : w30.cell? ⟨b, o + j * 11 + 3, none⟩ = some (.int .i64 p2) := hcq 3 _ rfl
                          have c4 : w30.cell? ⟨b, o + j * 11 + 4, none⟩ = some (.int .i64 p3) := hcq 4 _ rfl
                          have c5 : w30.cell? ⟨b, o + j * 11 + 5, none⟩ = some (.int .i64 p4) := hcq 5 _ rfl
                          have c6 : w30.cell? ⟨b, o + j * 11 + 6, none⟩ = some (.int .i64 p5) := hcq 6 _ rfl
                          have c7 : w30.cell? ⟨b, o + j * 11 + 7, none⟩ = some (.int .i64 ch) := hcq 7 _ rfl
                          have c8 : w30.cell? ⟨b, o + j * 11 + 8, none⟩ = some (.int .u8 ms) := hcq 8 _ rfl
                          have c9 : w30.cell? ⟨b, o + j * 11 + 9, none⟩ = some (.int .u8 vl) := hcq 9 _ rfl
                          have c10 : w30.cell? ⟨b, o + j * 11 + 10, none⟩ = some (.bool true) := hcq 10 _ rfl
                          have d0 : w30.cell? ⟨b, o + k9 * 11, none⟩ = some (.int .i64 k') := hcr 0 _ rfl
                          have d1 : w30.cell? ⟨b, o + k9 * 11 + 1, none⟩ = some (.int .i64 p0') := hcr 1 _ rfl
                          have d2 : w30.cell? ⟨b, o + k9 * 11 + 2, none⟩ = some (.int .i64 p1') := hcr 2 _ rfl
                          have d3 : w30.cell? ⟨b, o + k9 * 11 + 3, none⟩ = some (.int .i64 p2') := hcr 3 _ rfl
                          have d4 : w30.cell? ⟨b, o + k9 * 11 + 4, none⟩ = some (.int .i64 p3') := hcr 4 _ rfl
                          have d5 : w30.cell? ⟨b, o + k9 * 11 + 5, none⟩ = some (.int .i64 p4') := hcr 5 _ rfl
                          have d6 : w30.cell? ⟨b, o + k9 * 11 + 6, none⟩ = some (.int .i64 p5') := hcr 6 _ rfl
                          have d7 : w30.cell? ⟨b, o + k9 * 11 + 7, none⟩ = some (.int .i64 ch') := hcr 7 _ rfl
                          have d8 : w30.cell? ⟨b, o + k9 * 11 + 8, none⟩ = some (.int .u8 ms') := hcr 8 _ rfl
                          have d9 : w30.cell? ⟨b, o + k9 * 11 + 9, none⟩ = some (.int .u8 vl') := hcr 9 _ rfl
                          have d10 : w30.cell? ⟨b, o + k9 * 11 + 10, none⟩ = some (.bool hd') := hcr 10 _ rfl
                          clear hcq hcr
                          repeat (first | (refine wpX_skip rfl ?_; go_simp) | (refine wpX_free rfl rfl rfl (fun K hK => ?_); go_step; refine hK _ _ ?_; clear hK K) | (refine wpX_load rfl rfl rfl (by simp [Stay, OneD, NoD, *]) hs0 (by simp [*]) (fun K hK => ?_); go_step; refine hK _ _ ?_; clear hK K))
                          (refine wpX_yield rfl rfl ((.bool true)) (fun w hw => by go_simp) ?_; go_simp)
                          repeat (first | (refine wpX_skip rfl ?_; go_simp) | (refine wpX_free rfl rfl rfl (fun K hK => ?_); go_step; refine hK _ _ ?_; clear hK K) | (refine wpX_load rfl rfl rfl (by simp [Stay, OneD, NoD, *]) hs0 (by simp [*]) (fun K hK => ?_); go_step; refine hK _ _ ?_; clear hK K))
                          (refine wpX_nil ?_; go_step)
                          go_wp2_with fail
                          go_ret
                          exact ⟨by rw [HR9.out.trans (goodB_f (i := j) HJ.out HNO.out)]; first | rfl | go_simp, H.done⟩
                        · rw [decide_eq_false hfg] at heq
                          have HNE := Lib.hid (show fs[k9]! ≠ fs[j]! from fun e => hfg (by rw [HG.out, e, HFJ.out]))
                          clear hfg HG
                          obtain ⟨k', p0', p1', p2', p3', p4', p5', ch', ms', vl', hd'⟩ := g
                          simp only [cfC] at heq
                          skip
                          go_upto_region 18 with fail
                          refine wp_region_xH (by kernel_rfl) (by kernel_rfl) (by kernel_rfl) (by kernel_rfl) (fun _ => False) (H) ?_
                          clear H; intro w31 H hz0 hs0
                          try clear C
                          try simp only [World.size_alloc, List.nil_append, List.cons_append, List.append_assoc] at H hz0
                          clear hz0
                          try clear wr
                          have C := H.cells
                          try simp only [cellsOf, cellsM, apartOf, apartM, and_true] at C
                          have Z := H.zs
                          try simp only [ltsOf, ltsM, and_true] at Z
                          have hz0 := Nat.le_refl w31.heap.size
                          obtain ⟨hcq, hbq⟩ := HLF.out _ (H.liesUp HL2.out)
                          obtain ⟨hcr, hbr⟩ := HLG.out _ (H.liesUp HL2.out)
                          have c0 : w31.cell? ⟨b, o + j * 11, none⟩ = some (.int .i64 k) := hcq 0 _ rfl
                          have c1 : w31.cell? ⟨b, o + j * 11 + 1, none⟩ = some (.int .i64 p0) := hcq 1 _ rfl
                          have c2 : w31.cell? ⟨b, o + j * 11 + 2, none⟩ = some (.int .i64 p1) := hcq 2 _ rfl
                          have c3 : w31.cell? ⟨b, o + j * 11 + 3, none⟩ = some (.int .i64 p2) := hcq 3 _ rfl
                          have c4 : w31.cell? ⟨b, o + j * 11 + 4, none⟩ = some (.int .i64 p3) := hcq 4 _ rfl
                          have c5 : w31.cell? ⟨b, o + j * 11 + 5, none⟩ = some (.int .i64 p4) := hcq 5 _ rfl
                          have c6 : w31.cell? ⟨b, o + j * 11 + 6, none⟩ = some (.int .i64 p5) := hcq 6 _ rfl
                          have c7 : w31.cell? ⟨b, o + j * 11 + 7, none⟩ = some (.int .i64 ch) := hcq 7 _ rfl
                          have c8 : w31.cell? ⟨b, o + j * 11 + 8, none⟩ = some (.int .u8 ms) := hcq 8 _ rfl
                          have c9 : w31.cell? ⟨b, o + j * 11 + 9, none⟩ = some (.int .u8 vl) := hcq 9 _ rfl
                          have c10 : w31.cell? ⟨b, o + j * 11 + 10, none⟩ = some (.bool true) := hcq 10 _ rfl
                          have d0 : w31.cell? ⟨b, o + k9 * 11, none⟩ = some (.int .i64 k') := hcr 0 _ rfl
                          have d1 : w31.cell? ⟨b, o + k9 * 11 + 1, none⟩ = some (.int .i64 p0') := hcr 1 _ rfl
                          have d2 : w31.cell? ⟨b, o + k9 * 11 + 2, none⟩ = some (.int .i64 p1') := hcr 2 _ rfl
                          have d3 : w31.cell? ⟨b, o + k9 * 11 + 3, none⟩ = some (.int .i64 p2') := hcr 3 _ rfl
                          have d4 : w31.cell? ⟨b, o + k9 * 11 + 4, none⟩ = some (.int .i64 p3') := hcr 4 _ rfl
                          have d5 : w31.cell? ⟨b, o + k9 * 11 + 5, none⟩ = some (.int .i64 p4') := hcr 5 _ rfl
                          have d6 : w31.cell? ⟨b, o + k9 * 11 + 6, none⟩ = some (.int .i64 p5') := hcr 6 _ rfl
                          have d7 : w31.cell? ⟨b, o + k9 * 11 + 7, none⟩ = some (.int .i64 ch') := hcr 7 _ rfl
                          have d8 : w31.cell? ⟨b, o + k9 * 11 + 8, none⟩ = some (.int .u8 ms') := hcr 8 _ rfl
                          have d9 : w31.cell? ⟨b, o + k9 * 11 + 9, none⟩ = some (.int .u8 vl') := hcr 9 _ rfl
                          have d10 : w31.cell? ⟨b, o + k9 * 11 + 10, none⟩ = some (.bool hd') := hcr 10 _ rfl
                          clear hcq hcr
                          repeat (first | (refine wpX_skip rfl ?_; go_simp) | (refine wpX_free rfl rfl rfl (fun K hK => ?_); go_step; refine hK _ _ ?_; clear hK K) | (refine wpX_load rfl rfl rfl (by simp [Stay, OneD, NoD, *]) hs0 (by simp [*]) (fun K hK => ?_); go_step; refine hK _ _ ?_; clear hK K))
                          (refine wpX_yield rfl rfl ((.bool false)) (fun w hw => by go_simp) ?_; go_simp)
                          repeat (first | (refine wpX_skip rfl ?_; go_simp) | (refine wpX_free rfl rfl rfl (fun K hK => ?_); go_step; refine hK _ _ ?_; clear hK K) | (refine wpX_load rfl rfl rfl (by simp [Stay, OneD, NoD, *]) hs0 (by simp [*]) (fun K hK => ?_); go_step; refine hK _ _ ?_; clear hK K))
                          (refine wpX_nil ?_; go_step)
                          go_wp2_with fail
                          go_roundw
                          case rel =>
                            refine ⟨k9 + 1, by go_num, by omega, (show Hid _ from fun i hi => ?_), H⟩
                            by_cases e : i = k9
                            · subst e; exact HNE.out
                            · exact HE.out i (by omega)
                          case measure => simp [intOf]; omega
                      · obtain rfl : k9 = j := by omega
                        have HOK := Lib.hid (show fokB (⟨s0, s1, s2, s3, s4, s5, kd, dt, ck, fx, q0.map Prod.fst, fs⟩ : Mm) (dt + ck) fs k9 = true by
                          unfold fokB
                          rw [HFJ.out]
                          have hm : ¬ (⟨k, p0, p1, p2, p3, p4, p5, ch, ms, vl, true⟩ : Fa) ∈ fs.take k9 := fun hm => by
                            obtain ⟨i, hi, e⟩ := List.mem_iff_getElem.1 hm
                            rw [List.length_take] at hi
                            rw [List.getElem_take] at e
                            refine HE.out i (by omega) ?_
                            rw [getElem!_pos fs i (by omega), e, HFJ.out]
                          rw [decide_eq_false hm, HVT.out]
                          rfl)
                        skip
                        go_wp2_with fail
                        go_roundw
                        case rel =>
                          refine ⟨k9 + 1, by go_num, HJ.out, (show Hid _ from fun i hi => ?_), H⟩
                          by_cases e : i = k9
                          · subst e; exact HOK.out
                          · exact HF.out i (by omega)
                        case measure => simp [intOf]; have := HJ.out; omega
              · obtain rfl : j = fs.length := by omega
                skip
                go_wp2_with fail
                go_ret
                exact ⟨by rw [HR9.out.trans (goodB_yes HSV.out HCO.out HFL.out (fun i hi => by
                  show wokB (sizeN s0 s1 s2 s3 s4 s5) (dt + ck).toNat (q0.map Prod.fst) i = true
                  rw [← HZZ.out, HNN.out.1]
                  have h9 : i < (q0.map Prod.fst).length := hi
                  rw [List.length_map] at h9
                  exact HWS.out i h9) HF.out)]; first | rfl | go_simp, H.done⟩
      · have hfli : ¬ (fs.length : Int) ≤ 64 := by omega
        have hflg : (fs.length : Int) > 64 := by omega
        have HD := Lib.hid (show r9 = false from HR9.out.trans (goodB_no (fun h => hfl h.2.2)))
        clear hsv
        go_enter Tryd.func64, Tryd.ntmps64
        have H := HS.start NoD w
        go_upto_region 1 with fail
        generalize hwb : w.alloc _ = w1
        replace H := HS.eqW hwb H.alloc
        try simp only [World.size_alloc, List.nil_append, List.cons_append, List.append_assoc] at H
        clear hwb
        generalize w.heap.size = b1 at H ⊢
        try clear C
        have C := H.cells
        try simp only [cellsOf, cellsM, apartOf, apartM, and_true] at C
        go_wp2_with fail
        refine (HV.out _).mono ?_
        rintro _ w2 ⟨rfl, hb⟩
        replace H := H.below hb
        clear hb
        try clear C
        try simp only [World.size_alloc, List.nil_append, List.cons_append, List.append_assoc] at H
        try clear w1
        have C := H.cells
        try simp only [cellsOf, cellsM, apartOf, apartM, and_true] at C
        dsimp only
        go_wp2_with fail
        refine (HC.out _).mono ?_
        rintro _ w3 ⟨rfl, hb⟩
        replace H := H.below hb
        clear hb
        try clear C
        try simp only [World.size_alloc, List.nil_append, List.cons_append, List.append_assoc] at H
        try clear w2
        have C := H.cells
        try simp only [cellsOf, cellsM, apartOf, apartM, and_true] at C
        dsimp only
        go_wp2_with fail
        go_ret
        exact ⟨by first | (rw [HD.out]; first | rfl | go_simp; done) | rfl | go_simp, H.done⟩
    | false =>
      replace HC := Lib.hid (fun w => by have := HC.out w; rw [hco] at this; exact this)
      have HD := Lib.hid (show r9 = false from HR9.out.trans (goodB_no (fun h => by have h9 : codeB kd dt ck fx = true := h.2.1; rw [hco] at h9; cases h9)))
      clear hco hsv
      go_enter Tryd.func64, Tryd.ntmps64
      have H := HS.start NoD w
      go_upto_region 1 with fail
      generalize hwb : w.alloc _ = w1
      replace H := HS.eqW hwb H.alloc
      try simp only [World.size_alloc, List.nil_append, List.cons_append, List.append_assoc] at H
      clear hwb
      generalize w.heap.size = b1 at H ⊢
      try clear C
      have C := H.cells
      try simp only [cellsOf, cellsM, apartOf, apartM, and_true] at C
      go_wp2_with fail
      refine (HV.out _).mono ?_
      rintro _ w2 ⟨rfl, hb⟩
      replace H := H.below hb
      clear hb
      try clear C
      try simp only [World.size_alloc, List.nil_append, List.cons_append, List.append_assoc] at H
      try clear w1
      have C := H.cells
      try simp only [cellsOf, cellsM, apartOf, apartM, and_true] at C
      dsimp only
      go_wp2_with fail
      refine (HC.out _).mono ?_
      rintro _ w3 ⟨rfl, hb⟩
      replace H := H.below hb
      clear hb
      try clear C
      try simp only [World.size_alloc, List.nil_append, List.cons_append, List.append_assoc] at H
      try clear w2
      have C := H.cells
      try simp only [cellsOf, cellsM, apartOf, apartM, and_true] at C
      dsimp only
      go_wp2_with fail
      go_ret
      exact ⟨by first | (rw [HD.out]; first | rfl | go_simp; done) | rfl | go_simp, H.done⟩
  · replace HV := Lib.hid (fun w => by have := HV.out w; rw [decide_eq_false hsv] at this; exact this)
    have HD := Lib.hid (show r9 = false from HR9.out.trans (goodB_no (fun h => hsv h.1)))
    clear hsv
    go_enter Tryd.func64, Tryd.ntmps64
    have H := HS.start NoD w
    go_upto_region 1 with fail
    generalize hwb : w.alloc _ = w1
    replace H := HS.eqW hwb H.alloc
    try simp only [World.size_alloc, List.nil_append, List.cons_append, List.append_assoc] at H
    clear hwb
    generalize w.heap.size = b1 at H ⊢
    try clear C
    have C := H.cells
    try simp only [cellsOf, cellsM, apartOf, apartM, and_true] at C
    go_wp2_with fail
    refine (HV.out _).mono ?_
    rintro _ w2 ⟨rfl, hb⟩
    replace H := H.below hb
    clear hb
    try clear C
    try simp only [World.size_alloc, List.nil_append, List.cons_append, List.append_assoc] at H
    try clear w1
    have C := H.cells
    try simp only [cellsOf, cellsM, apartOf, apartM, and_true] at C
    dsimp only
    go_wp2_with fail
    go_ret
    exact ⟨by first | (rw [HD.out]; first | rfl | go_simp; done) | rfl | go_simp, H.done⟩
end Go.Proofs.YtplflpmkomeadaaDoor
