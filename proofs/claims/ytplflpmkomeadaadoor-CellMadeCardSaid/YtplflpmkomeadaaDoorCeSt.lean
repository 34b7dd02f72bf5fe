/- cell.Store. -/
import Derived.Test.YtplflpmkomeadaaDoorCeSe
import Derived.Test.YtplflpmkomeadaaDoorCeS
import Derived.Test.YtplflpmkomeadaaDoorCeK
import Derived.Test.YtplflpmkomeadaaDoorXst
namespace Go.Proofs.YtplflpmkomeadaaDoor
set_option linter.unusedSimpArgs false
set_option linter.unusedVariables false
open Go.RowKit
set_option maxRecDepth 100000
attribute [local irreducible] wpX wpF Calls

set_option maxHeartbeats 16000000 in
theorem cstore_any (M : Mm) (x y : Sv) (hs : SmallM M) (m : Wm) (z : Sv) (hz : m.bs.length ≤ 140737488355328) (w : World) (hNm : Nm w) (h : MeAt w x y M) (hb : BytesAt w z m.bs) : Calls Tryd.prog 30 #[meV M x y, cwV m z] w (GivesMeE (storeF M m).1 (storeF M m).2 w) := by
  have HW := Lib.hid (fun wx hn hx => cwrong_any M x y hs.long m.ix wx hn hx)
  have HCPY := Lib.hid (fun wx hx => cecopy_any M x y hs wx hx)
  have HCPR := Lib.hid (fun wx hx => cecopyR_any M x y hs wx hx)
  have HME := Lib.hid h
  have HSS := Lib.hid hs
  have HNm := Lib.hid hNm
  have HBZ := Lib.hid hb
  have HB9 := Lib.hid hz
  clear h hs hNm hb hz
  by_cases hw : wrongF M m.ix = 0
  · rw [hw] at HW
    obtain ⟨hg, hi0, hi1⟩ := wrongF_ok hw
    have HGM := Lib.hid (goodB_iff.1 hg)
    have hrg := codeB_rng HGM.out.co
    have hN : M.dt + M.ck = ((M.dt + M.ck).toNat : Int) := by omega
    have HCH := Lib.hid (fun w => cchips_any M.kd M.dt M.ck M.fx (by omega) (by omega) w)
    rw [hN] at HCH
    clear hrg hN hw
    by_cases hl : m.bs.length = (M.dt + M.ck).toNat
    · have HSO := Lib.hid HGM.out.ws.up
      have HBT := Lib.hid (show m.bs.length ≤ 1000 by rw [hl]; have := codeB_rng HGM.out.co; omega)
      clear HCPY
      have HCPY := HCPR
      clear HCPR
      have HE := Lib.hid (show storeF M m = (setWs M (putW M.ws m), 0) from by unfold storeF; rw [hg, if_pos rfl, if_pos ⟨hi0, hi1⟩, if_pos hl])
      rw [HE.out]
      clear HE
      obtain ⟨vs, hvs⟩ : ∃ vs, vs = putW M.ws m := ⟨_, rfl⟩
      rw [← hvs]
      have HVS := Lib.hid hvs
      clear hvs
      have HWL := Lib.hid HSS.out.ws
      generalize (M.dt + M.ck).toNat = N at HCH hl
      have HL := Lib.hid hl
      clear hg hi0 hi1 hl HGM
      obtain ⟨s0, s1, s2, s3, s4, s5, kd, dt, ck, fx, ws, fs⟩ := M
      obtain ⟨xa0, xn0, xc0⟩ := x
      obtain ⟨ya0, yn0, yc0⟩ := y
      obtain ⟨wi, bs, po⟩ := m
      obtain ⟨za, zn, zc⟩ := z
      obtain rfl : zn = bs.length := HBZ.out.len
      dsimp only at HBZ
      dsimp only at HSO HVS HL HB9 HWL HBT
      replace HW := Lib.hid (fun wx hn hx => (show Calls Tryd.prog 52 #[.agg #[.int .i64 s0, .int .i64 s1, .int .i64 s2, .int .i64 s3, .int .i64 s4, .int .i64 s5, .int .i64 kd, .int .i64 dt, .int .i64 ck, .int .i64 fx, .slice xa0 xn0 xc0, .slice ya0 yn0 yc0], .int .i64 wi] wx _ from HW.out wx hn hx))
      replace HCPY := Lib.hid (fun wx hx => (show Calls Tryd.prog 41 #[.agg #[.int .i64 s0, .int .i64 s1, .int .i64 s2, .int .i64 s3, .int .i64 s4, .int .i64 s5, .int .i64 kd, .int .i64 dt, .int .i64 ck, .int .i64 fx, .slice xa0 xn0 xc0, .slice ya0 yn0 yc0]] wx _ from HCPY.out wx hx))
      show Calls Tryd.prog 30 #[.agg #[.int .i64 s0, .int .i64 s1, .int .i64 s2, .int .i64 s3, .int .i64 s4, .int .i64 s5, .int .i64 kd, .int .i64 dt, .int .i64 ck, .int .i64 fx, .slice xa0 xn0 xc0, .slice ya0 yn0 yc0], .agg #[.int .i64 wi, .slice za bs.length zc, .bool po]] w _
      go_enter Tryd.func30, Tryd.ntmps30
      have H := HS.start NoD w
      go_upto_region 1 with fail
      generalize hwb : ((w.alloc _).alloc _).alloc _ = w1
      replace H := HS.eqW hwb H.alloc.alloc.alloc
      try simp only [World.size_alloc, List.nil_append, List.cons_append, List.append_assoc] at H
      clear hwb
      generalize w.heap.size + 2 = b4 at H ⊢
      generalize w.heap.size + 1 = b3 at H ⊢
      generalize w.heap.size = b2 at H ⊢
      try clear C
      have C := H.cells
      try simp only [cellsOf, cellsM, apartOf, apartM, and_true] at C
      go_wp2_with fail
      refine (HCPY.out _ (HME.out.up H.done)).mono ?_
      rintro _ w71 ⟨sW, cW, sF, cF, qs, Fm, hqm, rfl, K0⟩
      replace H := H.join K0 (fun X hX => by
        rcases List.mem_cons.1 hX with rfl | hX
        · rfl
        · exact two_low rfl rfl X hX)
      clear K0 HCPY
      try simp only [List.nil_append, List.cons_append] at H
      skip
      try clear C
      try simp only [World.size_alloc, List.nil_append, List.cons_append, List.append_assoc] at H
      have C := H.cells
      try simp only [cellsOf, cellsM, apartOf, apartM, and_true] at C
      try dsimp only at hqm
      try dsimp only [meV] at H ⊢
      try dsimp only [meV]
      go_upto_region 2 with fail
      generalize hwb : w71.alloc _ = w2
      replace H := HS.eqW hwb H.alloc
      try simp only [World.size_alloc, List.nil_append, List.cons_append, List.append_assoc] at H
      clear hwb
      generalize w71.heap.size = b6 at H ⊢
      try clear C
      try clear w71
      have C := H.cells
      try simp only [cellsOf, cellsM, apartOf, apartM, and_true] at C
      go_wp2_with fail
      refine (HW.out _ (HNm.out.below H.done) (HME.out.up H.done)).mono ?_
      rintro _ w3 ⟨rfl, hb⟩
      replace H := H.below hb
      clear hb
      try clear C
      try simp only [World.size_alloc, List.nil_append, List.cons_append, List.append_assoc] at H
      try clear w2
      have C := H.cells
      try simp only [cellsOf, cellsM, apartOf, apartM, and_true] at C
      dsimp only
      clear HW
      have hlN : ¬ (bs.length : Int) ≠ (N : Int) := by have := HL.out; omega
      have hlE : ((bs.length : Int) == (N : Int)) = true := beq_iff_eq.2 (by have := HL.out; omega)
      have hlD : (bs.length : Int) = (N : Int) := by have := HL.out; omega
      go_upto_region 5 with fail
      refine wp_region_xH (by kernel_rfl) (by kernel_rfl) (by kernel_rfl) (by kernel_rfl) (fun _ => False) (H) ?_
      clear H; intro w4 H hz0 hs0
      try clear C
      try simp only [World.size_alloc, List.nil_append, List.cons_append, List.append_assoc] at H hz0
      clear hz0
      try clear w3
      have C := H.cells
      try simp only [cellsOf, cellsM, apartOf, apartM, and_true] at C
      have Z := H.zs
      try simp only [ltsOf, ltsM, and_true] at Z
      have hz0 := Nat.le_refl w4.heap.size
      repeat (first | (refine wpX_skip rfl ?_; go_simp) | (refine wpX_free rfl rfl rfl (fun K hK => ?_); go_step; refine hK _ _ ?_; clear hK K) | (refine wpX_load rfl rfl rfl (by simp [Stay, OneD, NoD, *]) hs0 (by simp [*]) (fun K hK => ?_); go_step; refine hK _ _ ?_; clear hK K))
      refine wpX_eff rfl rfl (fun _ _ => ?_)
      go_step
      refine (HCH.out _).mono ?_
      rintro _ w5 ⟨rfl, hb⟩
      replace hs0 := hs0.belowS hz0 hb
      replace hz0 := Nat.le_trans hz0 hb.size
      replace H := H.below hb
      clear hb
      try clear C
      have C := H.cells
      try simp only [cellsOf, cellsM, apartOf, apartM, and_true] at C
      try clear w4
      dsimp only
      go_step
      refine ⟨hs0, ?_⟩
      repeat (first | (refine wpX_skip rfl ?_; go_simp) | (refine wpX_free rfl rfl rfl (fun K hK => ?_); go_step; refine hK _ _ ?_; clear hK K) | (refine wpX_load rfl rfl rfl (by simp [Stay, OneD, NoD, *]) hs0 (by simp [*]) (fun K hK => ?_); go_step; refine hK _ _ ?_; clear hK K))
      (refine wpX_nil ?_; go_step)
      clear HCH
      go_wp2_with fail
      refine (cloneBy_f ⟨za, bs.length, zc⟩ bs HB9.out _ (HBZ.out.up H.done)).mono ?_
      rintro _ w72 ⟨⟨u1, un, u3⟩, G, rfl, K0⟩
      replace H := H.join K0 (one_low rfl)
      clear K0 hlN hlE hlD
      try simp only [List.nil_append, List.cons_append] at H
      skip
      try clear C
      try simp only [World.size_alloc, List.nil_append, List.cons_append, List.append_assoc] at H
      have C := H.cells
      try simp only [cellsOf, cellsM, apartOf, apartM, and_true] at C
      dsimp only
      go_upto_region 8 with fail
      generalize hwb : World.setCell _ _ _ = w73
      have H9 := HS.eqW hwb (H.setTo (o := 1) (v := .slice u1 un u3) 1 rfl rfl)
      clear hwb H C
      simp only [List.set_cons_succ, List.set_cons_zero] at H9
      have H2 := HS.less (L' := [_, _, _, _] ++ [_, _, _, _]) ((((H9.last 6 rfl).last 3 rfl).last 3 rfl).last 4 rfl) (List.Sublist.refl _)
      clear H9
      simp only [List.eraseIdx, List.nil_append, List.cons_append] at H2
      have H := H2
      skip
      try clear C
      try simp only [World.size_alloc, List.nil_append, List.cons_append, List.append_assoc] at H
      have C := H.cells
      try simp only [cellsOf, cellsM, apartOf, apartM, and_true] at C
      go_wp2_with fail
      have hql : qs.length ≤ 1000 := by have h9 := HWL.out; rw [← hqm, List.length_map] at h9; exact h9
      clear H
      refine (cset_any (⟨s0, s1, s2, s3, s4, s5, kd, dt, ck, fx, ws, fs⟩ : Mm) b6 sW cW ⟨sF, fs.length, cF⟩ qs Fm ⟨wi, bs, po⟩ ⟨u1, un, u3⟩ G hqm hql HSO.out HBT.out _ (HS.startEnd (L := [_, _, _, _]) H2 (set_low rfl rfl rfl rfl))).mono ?_
      rintro _ w74 ⟨s9, c9, zs, rfl, hzs, hmem, K⟩
      have H := HS.turnEnd (L := [_, _, _, _]) H2 K (set_low rfl rfl rfl rfl)
      clear K H2 C hql
      dsimp only [meI] at H
      try simp only [List.nil_append, List.cons_append] at H
      have HZS := Lib.hid (show zs.map Prod.fst = vs from hzs.trans HVS.out.symm)
      have HMM := Lib.hid hmem
      clear hzs hmem
      skip
      try clear C
      try simp only [World.size_alloc, List.nil_append, List.cons_append, List.append_assoc] at H
      have C := H.cells
      try simp only [cellsOf, cellsM, apartOf, apartM, and_true] at C
      go_wp2_with fail
      generalize hwb : (((((((((((w74.setCell _ _).setCell _ _).setCell _ _).setCell _ _).setCell _ _).setCell _ _).setCell _ _).setCell _ _).setCell _ _).setCell _ _).setCell _ _).setCell _ _ = w6
      replace H := HS.eqW hwb (H.putAll (i := 2) rfl (vs := [.int .i64 s0, .int .i64 s1, .int .i64 s2, .int .i64 s3, .int .i64 s4, .int .i64 s5, .int .i64 kd, .int .i64 dt, .int .i64 ck, .int .i64 fx, .slice s9 zs.length c9, .slice sF fs.length cF]) rfl rfl)
      simp only [List.nil_append, List.cons_append, List.append_assoc, List.set_cons_succ, List.set_cons_zero] at H
      clear hwb
      try clear C
      try clear w74
      have C := H.cells
      try simp only [cellsOf, cellsM, apartOf, apartM, and_true] at C
      refine bodyPost_ret (by simp [results, Tryd.results30, go_sem, C]; try rfl) rfl ?_
      have H9 := HS.less (L' := [rowCf sF fs.length cF fs, rowCw s9 zs.length c9 zs, anyCw Fm qs, .any G (fun w => BytesAt w ⟨u1, un, u3⟩ bs)]) H (by repeat (first | exact .slnil | refine .cons_cons _ ?_ | refine .cons _ ?_))
      have H8 := HS.merge (L := [_, _]) H9
      have H7 := HS.weak (L := [_, _]) H8 (K' := fun w => CwOk w zs) (fun w' h q hq => by
        rcases HMM.out q hq with h9 | h9
        · exact h.1 q h9
        · rw [h9]; exact h.2)
      have H6 := HS.less (L' := [_, _, _]) (H7.last 0 rfl) (List.Sublist.refl _)
      obtain ⟨G9, H5⟩ := HS.memOf (L := []) H6 rfl rfl
      exact ⟨⟨s9, zs.length, c9⟩, ⟨sF, fs.length, cF⟩, zs, G9, HZS.out, rfl, H5⟩
    · clear HCPR
      have HE := Lib.hid (show storeF M m = (M, 7) from by unfold storeF; rw [hg, if_pos rfl, if_pos ⟨hi0, hi1⟩, if_neg hl])
      rw [HE.out]
      clear HE
      generalize (M.dt + M.ck).toNat = N at HCH hl
      have HL := Lib.hid hl
      clear hg hi0 hi1 hl HGM
      obtain ⟨s0, s1, s2, s3, s4, s5, kd, dt, ck, fx, ws, fs⟩ := M
      obtain ⟨xa0, xn0, xc0⟩ := x
      obtain ⟨ya0, yn0, yc0⟩ := y
      obtain ⟨wi, bs, po⟩ := m
      obtain ⟨za, zn, zc⟩ := z
      obtain rfl : zn = bs.length := HBZ.out.len
      dsimp only at HBZ
      dsimp only at HL HB9
      replace HW := Lib.hid (fun wx hn hx => (show Calls Tryd.prog 52 #[.agg #[.int .i64 s0, .int .i64 s1, .int .i64 s2, .int .i64 s3, .int .i64 s4, .int .i64 s5, .int .i64 kd, .int .i64 dt, .int .i64 ck, .int .i64 fx, .slice xa0 xn0 xc0, .slice ya0 yn0 yc0], .int .i64 wi] wx _ from HW.out wx hn hx))
      replace HCPY := Lib.hid (fun wx hx => (show Calls Tryd.prog 41 #[.agg #[.int .i64 s0, .int .i64 s1, .int .i64 s2, .int .i64 s3, .int .i64 s4, .int .i64 s5, .int .i64 kd, .int .i64 dt, .int .i64 ck, .int .i64 fx, .slice xa0 xn0 xc0, .slice ya0 yn0 yc0]] wx _ from HCPY.out wx hx))
      show Calls Tryd.prog 30 #[.agg #[.int .i64 s0, .int .i64 s1, .int .i64 s2, .int .i64 s3, .int .i64 s4, .int .i64 s5, .int .i64 kd, .int .i64 dt, .int .i64 ck, .int .i64 fx, .slice xa0 xn0 xc0, .slice ya0 yn0 yc0], .agg #[.int .i64 wi, .slice za bs.length zc, .bool po]] w _
      go_enter Tryd.func30, Tryd.ntmps30
      have H := HS.start NoD w
      go_upto_region 1 with fail
      generalize hwb : ((w.alloc _).alloc _).alloc _ = w1
      replace H := HS.eqW hwb H.alloc.alloc.alloc
      try simp only [World.size_alloc, List.nil_append, List.cons_append, List.append_assoc] at H
      clear hwb
      generalize w.heap.size + 2 = b4 at H ⊢
      generalize w.heap.size + 1 = b3 at H ⊢
      generalize w.heap.size = b2 at H ⊢
      try clear C
      have C := H.cells
      try simp only [cellsOf, cellsM, apartOf, apartM, and_true] at C
      go_wp2_with fail
      refine (HCPY.out _ (HME.out.up H.done)).mono ?_
      rintro _ w71 ⟨⟨pa, pn, pc⟩, ⟨ra, rn, rc⟩, qs, Fm, hqm, rfl, K0⟩
      replace H := H.join K0 (one_low rfl)
      clear K0 HCPY
      try simp only [List.nil_append, List.cons_append] at H
      skip
      try clear C
      try simp only [World.size_alloc, List.nil_append, List.cons_append, List.append_assoc] at H
      have C := H.cells
      try simp only [cellsOf, cellsM, apartOf, apartM, and_true] at C
      try dsimp only at hqm
      try dsimp only [meV] at H ⊢
      try dsimp only [meV]
      go_upto_region 2 with fail
      generalize hwb : w71.alloc _ = w2
      replace H := HS.eqW hwb H.alloc
      try simp only [World.size_alloc, List.nil_append, List.cons_append, List.append_assoc] at H
      clear hwb
      generalize w71.heap.size = b6 at H ⊢
      try clear C
      try clear w71
      have C := H.cells
      try simp only [cellsOf, cellsM, apartOf, apartM, and_true] at C
      go_wp2_with fail
      refine (HW.out _ (HNm.out.below H.done) (HME.out.up H.done)).mono ?_
      rintro _ w3 ⟨rfl, hb⟩
      replace H := H.below hb
      clear hb
      try clear C
      try simp only [World.size_alloc, List.nil_append, List.cons_append, List.append_assoc] at H
      try clear w2
      have C := H.cells
      try simp only [cellsOf, cellsM, apartOf, apartM, and_true] at C
      dsimp only
      clear HW
      have hlN : (bs.length : Int) ≠ (N : Int) := by have := HL.out; omega
      have hlE : ((bs.length : Int) == (N : Int)) = false := beq_eq_false_iff_ne.2 hlN
      go_upto_region 5 with fail
      refine wp_region_xH (by kernel_rfl) (by kernel_rfl) (by kernel_rfl) (by kernel_rfl) (fun _ => False) (H) ?_
      clear H; intro w4 H hz0 hs0
      try clear C
      try simp only [World.size_alloc, List.nil_append, List.cons_append, List.append_assoc] at H hz0
      clear hz0
      try clear w3
      have C := H.cells
      try simp only [cellsOf, cellsM, apartOf, apartM, and_true] at C
      have Z := H.zs
      try simp only [ltsOf, ltsM, and_true] at Z
      have hz0 := Nat.le_refl w4.heap.size
      repeat (first | (refine wpX_skip rfl ?_; go_simp) | (refine wpX_free rfl rfl rfl (fun K hK => ?_); go_step; refine hK _ _ ?_; clear hK K) | (refine wpX_load rfl rfl rfl (by simp [Stay, OneD, NoD, *]) hs0 (by simp [*]) (fun K hK => ?_); go_step; refine hK _ _ ?_; clear hK K))
      refine wpX_eff rfl rfl (fun _ _ => ?_)
      go_step
      refine (HCH.out _).mono ?_
      rintro _ w5 ⟨rfl, hb⟩
      replace hs0 := hs0.belowS hz0 hb
      replace hz0 := Nat.le_trans hz0 hb.size
      replace H := H.below hb
      clear hb
      try clear C
      have C := H.cells
      try simp only [cellsOf, cellsM, apartOf, apartM, and_true] at C
      try clear w4
      dsimp only
      go_step
      refine ⟨hs0, ?_⟩
      repeat (first | (refine wpX_skip rfl ?_; go_simp) | (refine wpX_free rfl rfl rfl (fun K hK => ?_); go_step; refine hK _ _ ?_; clear hK K) | (refine wpX_load rfl rfl rfl (by simp [Stay, OneD, NoD, *]) hs0 (by simp [*]) (fun K hK => ?_); go_step; refine hK _ _ ?_; clear hK K))
      (refine wpX_nil ?_; go_step)
      clear HCH
      go_upto_region 30 with fail
      generalize hwb : (((((((((((w5.setCell _ _).setCell _ _).setCell _ _).setCell _ _).setCell _ _).setCell _ _).setCell _ _).setCell _ _).setCell _ _).setCell _ _).setCell _ _).setCell _ _ = w6
      replace H := HS.eqW hwb (H.putAll (i := 2) rfl (vs := [.int .i64 s0, .int .i64 s1, .int .i64 s2, .int .i64 s3, .int .i64 s4, .int .i64 s5, .int .i64 kd, .int .i64 dt, .int .i64 ck, .int .i64 fx, .slice pa pn pc, .slice ra rn rc]) rfl rfl)
      simp only [List.nil_append, List.cons_append, List.append_assoc, List.set_cons_succ, List.set_cons_zero] at H
      clear hwb
      try clear C
      try clear w5
      have C := H.cells
      try simp only [cellsOf, cellsM, apartOf, apartM, and_true] at C
      refine bodyPost_ret (by simp [results, Tryd.results30, go_sem, C]; try rfl) rfl ?_
      exact ⟨⟨pa, pn, pc⟩, ⟨ra, rn, rc⟩, qs, Fm, hqm, rfl, HS.less H (by repeat (first | exact .slnil | refine .cons_cons _ ?_ | refine .cons _ ?_))⟩
  · clear HCPR
    have HE := Lib.hid (show storeF M m = (M, wrongF M m.ix) from by 
        have := hw
        unfold storeF wrongF at *
        by_cases h1 : goodB M = true
        · rw [if_pos h1] at this ⊢
          rw [if_pos h1]
          by_cases h2 : 0 ≤ m.ix ∧ m.ix < szM M
          · rw [if_pos h2] at this; exact absurd rfl this
          · rw [if_neg h2, if_neg h2]
        · rw [if_neg h1, if_neg h1])
    rw [HE.out]
    clear HE
    generalize wrongF M m.ix = er at HW hw ⊢
    have herb : (er == 0) = false := beq_eq_false_iff_ne.2 hw
    obtain ⟨s0, s1, s2, s3, s4, s5, kd, dt, ck, fx, ws, fs⟩ := M
    obtain ⟨xa0, xn0, xc0⟩ := x
    obtain ⟨ya0, yn0, yc0⟩ := y
    obtain ⟨wi, bs, po⟩ := m
    obtain ⟨za, zn, zc⟩ := z
    obtain rfl : zn = bs.length := HBZ.out.len
    dsimp only at HBZ
    dsimp only at HB9
    replace HW := Lib.hid (fun wx hn hx => (show Calls Tryd.prog 52 #[.agg #[.int .i64 s0, .int .i64 s1, .int .i64 s2, .int .i64 s3, .int .i64 s4, .int .i64 s5, .int .i64 kd, .int .i64 dt, .int .i64 ck, .int .i64 fx, .slice xa0 xn0 xc0, .slice ya0 yn0 yc0], .int .i64 wi] wx _ from HW.out wx hn hx))
    replace HCPY := Lib.hid (fun wx hx => (show Calls Tryd.prog 41 #[.agg #[.int .i64 s0, .int .i64 s1, .int .i64 s2, .int .i64 s3, .int .i64 s4, .int .i64 s5, .int .i64 kd, .int .i64 dt, .int .i64 ck, .int .i64 fx, .slice xa0 xn0 xc0, .slice ya0 yn0 yc0]] wx _ from HCPY.out wx hx))
    show Calls Tryd.prog 30 #[.agg #[.int .i64 s0, .int .i64 s1, .int .i64 s2, .int .i64 s3, .int .i64 s4, .int .i64 s5, .int .i64 kd, .int .i64 dt, .int .i64 ck, .int .i64 fx, .slice xa0 xn0 xc0, .slice ya0 yn0 yc0], .agg #[.int .i64 wi, .slice za bs.length zc, .bool po]] w _
    go_enter Tryd.func30, Tryd.ntmps30
    have H := HS.start NoD w
    go_upto_region 1 with fail
    generalize hwb : ((w.alloc _).alloc _).alloc _ = w1
    replace H := HS.eqW hwb H.alloc.alloc.alloc
    try simp only [World.size_alloc, List.nil_append, List.cons_append, List.append_assoc] at H
    clear hwb
    generalize w.heap.size + 2 = b4 at H ⊢
    generalize w.heap.size + 1 = b3 at H ⊢
    generalize w.heap.size = b2 at H ⊢
    try clear C
    have C := H.cells
    try simp only [cellsOf, cellsM, apartOf, apartM, and_true] at C
    go_wp2_with fail
    refine (HCPY.out _ (HME.out.up H.done)).mono ?_
    rintro _ w71 ⟨⟨pa, pn, pc⟩, ⟨ra, rn, rc⟩, qs, Fm, hqm, rfl, K0⟩
    replace H := H.join K0 (one_low rfl)
    clear K0 HCPY
    try simp only [List.nil_append, List.cons_append] at H
    skip
    try clear C
    try simp only [World.size_alloc, List.nil_append, List.cons_append, List.append_assoc] at H
    have C := H.cells
    try simp only [cellsOf, cellsM, apartOf, apartM, and_true] at C
    try dsimp only at hqm
    try dsimp only [meV] at H ⊢
    try dsimp only [meV]
    go_upto_region 2 with fail
    generalize hwb : w71.alloc _ = w2
    replace H := HS.eqW hwb H.alloc
    try simp only [World.size_alloc, List.nil_append, List.cons_append, List.append_assoc] at H
    clear hwb
    generalize w71.heap.size = b6 at H ⊢
    try clear C
    try clear w71
    have C := H.cells
    try simp only [cellsOf, cellsM, apartOf, apartM, and_true] at C
    go_wp2_with fail
    refine (HW.out _ (HNm.out.below H.done) (HME.out.up H.done)).mono ?_
    rintro _ w3 ⟨rfl, hb⟩
    replace H := H.below hb
    clear hb
    try clear C
    try simp only [World.size_alloc, List.nil_append, List.cons_append, List.append_assoc] at H
    try clear w2
    have C := H.cells
    try simp only [cellsOf, cellsM, apartOf, apartM, and_true] at C
    dsimp only
    clear HW
    go_upto_region 30 with fail
    generalize hwb : (((((((((((w3.setCell _ _).setCell _ _).setCell _ _).setCell _ _).setCell _ _).setCell _ _).setCell _ _).setCell _ _).setCell _ _).setCell _ _).setCell _ _).setCell _ _ = w4
    replace H := HS.eqW hwb (H.putAll (i := 2) rfl (vs := [.int .i64 s0, .int .i64 s1, .int .i64 s2, .int .i64 s3, .int .i64 s4, .int .i64 s5, .int .i64 kd, .int .i64 dt, .int .i64 ck, .int .i64 fx, .slice pa pn pc, .slice ra rn rc]) rfl rfl)
    simp only [List.nil_append, List.cons_append, List.append_assoc, List.set_cons_succ, List.set_cons_zero] at H
    clear hwb
    try clear C
    try clear w3
    have C := H.cells
    try simp only [cellsOf, cellsM, apartOf, apartM, and_true] at C
    refine bodyPost_ret (by simp [results, Tryd.results30, go_sem, C]; try rfl) rfl ?_
    exact ⟨⟨pa, pn, pc⟩, ⟨ra, rn, rc⟩, qs, Fm, hqm, rfl, HS.less H (by repeat (first | exact .slnil | refine .cons_cons _ ?_ | refine .cons _ ?_))⟩
end Go.Proofs.YtplflpmkomeadaaDoor
