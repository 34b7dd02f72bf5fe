/- cell.Inject. -/
import Derived.Test.YtplflpmkomeadaaDoorCeU
namespace Go.Proofs.YtplflpmkomeadaaDoor
set_option linter.unusedSimpArgs false
set_option linter.unusedVariables false
open Go.RowKit
set_option maxRecDepth 100000
attribute [local irreducible] wpX wpF Calls

set_option maxHeartbeats 16000000 in
theorem cinject_any (M : Mm) (x y : Sv) (hs : SmallM M) (f : Fa) (w : World) (hNm : Nm w) (h : MeAt w x y M) : Calls Tryd.prog 15 #[meV M x y, cfV f] w (GivesMeE (injF M f).1 (injF M f).2 w) := by
  have HV := Lib.hid (fun wx hn hx => cvalid13_any M x y hs.long wx hn hx)
  have HCPY := Lib.hid (fun wx hx => cecopy_any M x y hs wx hx)
  have HCPR := Lib.hid (fun wx hx => cecopyR_any M x y hs wx hx)
  have HME := Lib.hid h
  have HSS := Lib.hid hs
  have HNm := Lib.hid hNm
  clear h hs hNm
  cases hg : goodB M with
  | false =>
    rw [hg] at HV
    have HE := Lib.hid (show injF M f = (M, 1) from by unfold injF; rw [hg]; rfl)
    rw [HE.out]
    clear HE
    clear hg HCPR
    obtain ⟨s0, s1, s2, s3, s4, s5, kd, dt, ck, fx, ws, fs⟩ := M
    obtain ⟨xa0, xn0, xc0⟩ := x
    obtain ⟨ya0, yn0, yc0⟩ := y
    obtain ⟨k, p0, p1, p2, p3, p4, p5, ch, ms, vl, hd⟩ := f
    replace HV := Lib.hid (fun wx hn hx => (show Calls Tryd.prog 21 #[.agg #[.int .i64 s0, .int .i64 s1, .int .i64 s2, .int .i64 s3, .int .i64 s4, .int .i64 s5, .int .i64 kd, .int .i64 dt, .int .i64 ck, .int .i64 fx, .slice xa0 xn0 xc0, .slice ya0 yn0 yc0]] wx _ from HV.out wx hn hx))
    replace HCPY := Lib.hid (fun wx hx => (show Calls Tryd.prog 41 #[.agg #[.int .i64 s0, .int .i64 s1, .int .i64 s2, .int .i64 s3, .int .i64 s4, .int .i64 s5, .int .i64 kd, .int .i64 dt, .int .i64 ck, .int .i64 fx, .slice xa0 xn0 xc0, .slice ya0 yn0 yc0]] wx _ from HCPY.out wx hx))
    show Calls Tryd.prog 15 #[.agg #[.int .i64 s0, .int .i64 s1, .int .i64 s2, .int .i64 s3, .int .i64 s4, .int .i64 s5, .int .i64 kd, .int .i64 dt, .int .i64 ck, .int .i64 fx, .slice xa0 xn0 xc0, .slice ya0 yn0 yc0], .agg #[.int .i64 k, .int .i64 p0, .int .i64 p1, .int .i64 p2, .int .i64 p3, .int .i64 p4, .int .i64 p5, .int .i64 ch, .int .u8 ms, .int .u8 vl, .bool hd]] w _
    go_enter Tryd.func15, Tryd.ntmps15
    have H := HS.start NoD w
    go_upto_region 1 with fail
    generalize hwb : ((w.alloc _).alloc _).alloc _ = w1
    replace H := HS.eqW hwb H.alloc.alloc.alloc
    try simp only [World.size_alloc, List.nil_append, List.cons_append, List.append_assoc] at H
    clear hwb
    generalize w.heap.size + 2 = b4 at H ⊢
    generalize w.heap.size + 1 = b3 at H ⊢
    generalize w.heap.size = b2 at H ⊢
    try clear C
    have C := H.cells
    try simp only [cellsOf, cellsM, apartOf, apartM, and_true] at C
    go_wp2_with fail
    refine (HCPY.out _ (HME.out.up H.done)).mono ?_
    rintro _ w71 ⟨⟨pa, pn, pc⟩, ⟨ra, rn, rc⟩, qs, Fm, hqm, rfl, K0⟩
    replace H := H.join K0 (one_low rfl)
    clear K0 HCPY
    try simp only [List.nil_append, List.cons_append] at H
    skip
    try clear C
    try simp only [World.size_alloc, List.nil_append, List.cons_append, List.append_assoc] at H
    have C := H.cells
    try simp only [cellsOf, cellsM, apartOf, apartM, and_true] at C
    try dsimp only at hqm
    try dsimp only [meV] at H ⊢
    try dsimp only [meV]
    go_upto_region 2 with fail
    generalize hwb : w71.alloc _ = w2
    replace H := HS.eqW hwb H.alloc
    try simp only [World.size_alloc, List.nil_append, List.cons_append, List.append_assoc] at H
    clear hwb
    generalize w71.heap.size = b6 at H ⊢
    try clear C
    try clear w71
    have C := H.cells
    try simp only [cellsOf, cellsM, apartOf, apartM, and_true] at C
    go_wp2_with fail
    refine (HV.out _ (HNm.out.below H.done) (HME.out.up H.done)).mono ?_
    rintro _ w3 ⟨rfl, hb⟩
    replace H := H.below hb
    clear hb
    try clear C
    try simp only [World.size_alloc, List.nil_append, List.cons_append, List.append_assoc] at H
    try clear w2
    have C := H.cells
    try simp only [cellsOf, cellsM, apartOf, apartM, and_true] at C
    dsimp only
    clear HV
    go_upto_region 30 with fail
    generalize hwb : (((((((((((w3.setCell _ _).setCell _ _).setCell _ _).setCell _ _).setCell _ _).setCell _ _).setCell _ _).setCell _ _).setCell _ _).setCell _ _).setCell _ _).setCell _ _ = w4
    replace H := HS.eqW hwb (H.putAll (i := 2) rfl (vs := [.int .i64 s0, .int .i64 s1, .int .i64 s2, .int .i64 s3, .int .i64 s4, .int .i64 s5, .int .i64 kd, .int .i64 dt, .int .i64 ck, .int .i64 fx, .slice pa pn pc, .slice ra rn rc]) rfl rfl)
    simp only [List.nil_append, List.cons_append, List.append_assoc, List.set_cons_succ, List.set_cons_zero] at H
    clear hwb
    try clear C
    try clear w3
    have C := H.cells
    try simp only [cellsOf, cellsM, apartOf, apartM, and_true] at C
    refine bodyPost_ret (by simp [results, Tryd.results15, go_sem, C]; try rfl) rfl ?_
    exact ⟨⟨pa, pn, pc⟩, ⟨ra, rn, rc⟩, qs, Fm, hqm, rfl, HS.less H (by repeat (first | exact .slnil | refine .cons_cons _ ?_ | refine .cons _ ?_))⟩
  | true =>
    rw [hg] at HV
    have HGM := Lib.hid (goodB_iff.1 hg)
    have hrg := codeB_rng HGM.out.co
    have hN : M.dt + M.ck = ((M.dt + M.ck).toNat : Int) := by omega
    have HCH := Lib.hid (fun w => cchips_any M.kd M.dt M.ck M.fx (by omega) (by omega) w)
    rw [hN] at HCH
    have HVF := Lib.hid (fun w hn => show Calls Tryd.prog 42 #[shV M, .int .i64 ((M.dt + M.ck).toNat : Int), cfV f] w (Gives (.bool (vfF M (M.dt + M.ck) f)) w) from by rw [← hN]; exact vfault_any M.s0 M.s1 M.s2 M.s3 M.s4 M.s5 (M.dt + M.ck) f.k f.p0 f.p1 f.p2 f.p3 f.p4 f.p5 f.ch f.ms f.vl f.hd w hn)
    have HFL := Lib.hid HGM.out.fl
    clear hrg hN
    cases hvf : vfF M (M.dt + M.ck) f with
    | false =>
      rw [hvf] at HVF
      have HE := Lib.hid (show injF M f = (M, 2) from by unfold injF; rw [hg, if_pos rfl, hvf]; rfl)
      rw [HE.out]
      clear HE
      clear hg hvf HGM HCPR
      generalize (M.dt + M.ck).toNat = N at HCH HVF
      obtain ⟨s0, s1, s2, s3, s4, s5, kd, dt, ck, fx, ws, fs⟩ := M
      obtain ⟨xa0, xn0, xc0⟩ := x
      obtain ⟨ya0, yn0, yc0⟩ := y
      obtain ⟨k, p0, p1, p2, p3, p4, p5, ch, ms, vl, hd⟩ := f
      replace HV := Lib.hid (fun wx hn hx => (show Calls Tryd.prog 21 #[.agg #[.int .i64 s0, .int .i64 s1, .int .i64 s2, .int .i64 s3, .int .i64 s4, .int .i64 s5, .int .i64 kd, .int .i64 dt, .int .i64 ck, .int .i64 fx, .slice xa0 xn0 xc0, .slice ya0 yn0 yc0]] wx _ from HV.out wx hn hx))
      replace HCPY := Lib.hid (fun wx hx => (show Calls Tryd.prog 41 #[.agg #[.int .i64 s0, .int .i64 s1, .int .i64 s2, .int .i64 s3, .int .i64 s4, .int .i64 s5, .int .i64 kd, .int .i64 dt, .int .i64 ck, .int .i64 fx, .slice xa0 xn0 xc0, .slice ya0 yn0 yc0]] wx _ from HCPY.out wx hx))
      show Calls Tryd.prog 15 #[.agg #[.int .i64 s0, .int .i64 s1, .int .i64 s2, .int .i64 s3, .int .i64 s4, .int .i64 s5, .int .i64 kd, .int .i64 dt, .int .i64 ck, .int .i64 fx, .slice xa0 xn0 xc0, .slice ya0 yn0 yc0], .agg #[.int .i64 k, .int .i64 p0, .int .i64 p1, .int .i64 p2, .int .i64 p3, .int .i64 p4, .int .i64 p5, .int .i64 ch, .int .u8 ms, .int .u8 vl, .bool hd]] w _
      go_enter Tryd.func15, Tryd.ntmps15
      have H := HS.start NoD w
      go_upto_region 1 with fail
      generalize hwb : ((w.alloc _).alloc _).alloc _ = w1
      replace H := HS.eqW hwb H.alloc.alloc.alloc
      try simp only [World.size_alloc, List.nil_append, List.cons_append, List.append_assoc] at H
      clear hwb
      generalize w.heap.size + 2 = b4 at H ⊢
      generalize w.heap.size + 1 = b3 at H ⊢
      generalize w.heap.size = b2 at H ⊢
      try clear C
      have C := H.cells
      try simp only [cellsOf, cellsM, apartOf, apartM, and_true] at C
      go_wp2_with fail
      refine (HCPY.out _ (HME.out.up H.done)).mono ?_
      rintro _ w71 ⟨⟨pa, pn, pc⟩, ⟨ra, rn, rc⟩, qs, Fm, hqm, rfl, K0⟩
      replace H := H.join K0 (one_low rfl)
      clear K0 HCPY
      try simp only [List.nil_append, List.cons_append] at H
      skip
      try clear C
      try simp only [World.size_alloc, List.nil_append, List.cons_append, List.append_assoc] at H
      have C := H.cells
      try simp only [cellsOf, cellsM, apartOf, apartM, and_true] at C
      try dsimp only at hqm
      try dsimp only [meV] at H ⊢
      try dsimp only [meV]
      go_upto_region 2 with fail
      generalize hwb : w71.alloc _ = w2
      replace H := HS.eqW hwb H.alloc
      try simp only [World.size_alloc, List.nil_append, List.cons_append, List.append_assoc] at H
      clear hwb
      generalize w71.heap.size = b6 at H ⊢
      try clear C
      try clear w71
      have C := H.cells
      try simp only [cellsOf, cellsM, apartOf, apartM, and_true] at C
      go_wp2_with fail
      refine (HV.out _ (HNm.out.below H.done) (HME.out.up H.done)).mono ?_
      rintro _ w3 ⟨rfl, hb⟩
      replace H := H.below hb
      clear hb
      try clear C
      try simp only [World.size_alloc, List.nil_append, List.cons_append, List.append_assoc] at H
      try clear w2
      have C := H.cells
      try simp only [cellsOf, cellsM, apartOf, apartM, and_true] at C
      dsimp only
      clear HV
      go_upto_region 4 with fail
      refine wp_region_xH (by kernel_rfl) (by kernel_rfl) (by kernel_rfl) (by kernel_rfl) (fun _ => False) (H) ?_
      clear H; intro w4 H hz0 hs0
      try clear C
      try simp only [World.size_alloc, List.nil_append, List.cons_append, List.append_assoc] at H hz0
      clear hz0
      try clear w3
      have C := H.cells
      try simp only [cellsOf, cellsM, apartOf, apartM, and_true] at C
      have Z := H.zs
      try simp only [ltsOf, ltsM, and_true] at Z
      have hz0 := Nat.le_refl w4.heap.size
      repeat (first | (refine wpX_skip rfl ?_; go_simp) | (refine wpX_free rfl rfl rfl (fun K hK => ?_); go_step; refine hK _ _ ?_; clear hK K) | (refine wpX_load rfl rfl rfl (by simp [Stay, OneD, NoD, *]) hs0 (by simp [*]) (fun K hK => ?_); go_step; refine hK _ _ ?_; clear hK K))
      refine wpX_eff rfl rfl (fun _ _ => ?_)
      go_step
      refine (HCH.out _).mono ?_
      rintro _ w5 ⟨rfl, hb⟩
      replace hs0 := hs0.belowS hz0 hb
      replace hz0 := Nat.le_trans hz0 hb.size
      replace H := H.below hb
      clear hb
      try clear C
      have C := H.cells
      try simp only [cellsOf, cellsM, apartOf, apartM, and_true] at C
      try clear w4
      dsimp only
      go_step
      refine ⟨hs0, ?_⟩
      repeat (first | (refine wpX_skip rfl ?_; go_simp) | (refine wpX_free rfl rfl rfl (fun K hK => ?_); go_step; refine hK _ _ ?_; clear hK K) | (refine wpX_load rfl rfl rfl (by simp [Stay, OneD, NoD, *]) hs0 (by simp [*]) (fun K hK => ?_); go_step; refine hK _ _ ?_; clear hK K))
      refine wpX_eff rfl rfl (fun _ _ => ?_)
      go_step
      refine (HVF.out _ (HNm.out.below H.done)).mono ?_
      rintro _ w6 ⟨rfl, hb⟩
      replace hs0 := hs0.belowS hz0 hb
      replace hz0 := Nat.le_trans hz0 hb.size
      replace H := H.below hb
      clear hb
      try clear C
      have C := H.cells
      try simp only [cellsOf, cellsM, apartOf, apartM, and_true] at C
      try clear w5
      dsimp only
      go_step
      refine ⟨hs0, ?_⟩
      repeat (first | (refine wpX_skip rfl ?_; go_simp) | (refine wpX_free rfl rfl rfl (fun K hK => ?_); go_step; refine hK _ _ ?_; clear hK K) | (refine wpX_load rfl rfl rfl (by simp [Stay, OneD, NoD, *]) hs0 (by simp [*]) (fun K hK => ?_); go_step; refine hK _ _ ?_; clear hK K))
      (refine wpX_nil ?_; go_step)
      clear HCH HVF
      go_upto_region 30 with fail
      generalize hwb : (((((((((((w6.setCell _ _).setCell _ _).setCell _ _).setCell _ _).setCell _ _).setCell _ _).setCell _ _).setCell _ _).setCell _ _).setCell _ _).setCell _ _).setCell _ _ = w7
      replace H := HS.eqW hwb (H.putAll (i := 2) rfl (vs := [.int .i64 s0, .int .i64 s1, .int .i64 s2, .int .i64 s3, .int .i64 s4, .int .i64 s5, .int .i64 kd, .int .i64 dt, .int .i64 ck, .int .i64 fx, .slice pa pn pc, .slice ra rn rc]) rfl rfl)
      simp only [List.nil_append, List.cons_append, List.append_assoc, List.set_cons_succ, List.set_cons_zero] at H
      clear hwb
      try clear C
      try clear w6
      have C := H.cells
      try simp only [cellsOf, cellsM, apartOf, apartM, and_true] at C
      refine bodyPost_ret (by simp [results, Tryd.results15, go_sem, C]; try rfl) rfl ?_
      exact ⟨⟨pa, pn, pc⟩, ⟨ra, rn, rc⟩, qs, Fm, hqm, rfl, HS.less H (by repeat (first | exact .slnil | refine .cons_cons _ ?_ | refine .cons _ ?_))⟩
    | true =>
      rw [hvf] at HVF
      cases hhd : f.hd with
      | false =>
        clear HCPR
        generalize hNN : ((M.dt + M.ck).toNat : Int) = N at HCH HVF
        clear hNN
        have HE := Lib.hid (show injF M f = (setWs M (flipL (M.dt + M.ck).toNat f.ch f.ms (covM M f) M.ws), 0) from by unfold injF; rw [hg, if_pos rfl, hvf, if_pos rfl, hhd]; rfl)
        rw [HE.out]
        clear HE
        have HFP := Lib.hid (fun (b0 : Nat) (x y : Sv) (q0 : List (Wm × Sv)) (hq0 : q0.map Prod.fst = M.ws) wx hn hp hx => cflip_any M b0 x y q0 hq0 HSS.out HGM.out f (vf_ch hvf) wx hn hp hx)
        generalize flipL (M.dt + M.ck).toNat f.ch f.ms (covM M f) M.ws = vs at HFP ⊢
        clear hg hvf
        obtain ⟨s0, s1, s2, s3, s4, s5, kd, dt, ck, fx, ws, fs⟩ := M
        obtain ⟨xa0, xn0, xc0⟩ := x
        obtain ⟨ya0, yn0, yc0⟩ := y
        obtain ⟨k, p0, p1, p2, p3, p4, p5, ch, ms, vl, hd⟩ := f
        replace hhd : hd = false := hhd
        subst hhd
        replace HFP := Lib.hid (fun b0 x y q0 hq0 wx hn hp hx => (show Calls Tryd.prog 44 #[.pointer (some ⟨b0, 0, none⟩), .agg #[.int .i64 k, .int .i64 p0, .int .i64 p1, .int .i64 p2, .int .i64 p3, .int .i64 p4, .int .i64 p5, .int .i64 ch, .int .u8 ms, .int .u8 vl, .bool false]] wx (GivesFl q0 x vs wx) from HFP.out b0 x y q0 hq0 wx hn hp hx))
        replace HV := Lib.hid (fun wx hn hx => (show Calls Tryd.prog 21 #[.agg #[.int .i64 s0, .int .i64 s1, .int .i64 s2, .int .i64 s3, .int .i64 s4, .int .i64 s5, .int .i64 kd, .int .i64 dt, .int .i64 ck, .int .i64 fx, .slice xa0 xn0 xc0, .slice ya0 yn0 yc0]] wx _ from HV.out wx hn hx))
        replace HCPY := Lib.hid (fun wx hx => (show Calls Tryd.prog 41 #[.agg #[.int .i64 s0, .int .i64 s1, .int .i64 s2, .int .i64 s3, .int .i64 s4, .int .i64 s5, .int .i64 kd, .int .i64 dt, .int .i64 ck, .int .i64 fx, .slice xa0 xn0 xc0, .slice ya0 yn0 yc0]] wx _ from HCPY.out wx hx))
        show Calls Tryd.prog 15 #[.agg #[.int .i64 s0, .int .i64 s1, .int .i64 s2, .int .i64 s3, .int .i64 s4, .int .i64 s5, .int .i64 kd, .int .i64 dt, .int .i64 ck, .int .i64 fx, .slice xa0 xn0 xc0, .slice ya0 yn0 yc0], .agg #[.int .i64 k, .int .i64 p0, .int .i64 p1, .int .i64 p2, .int .i64 p3, .int .i64 p4, .int .i64 p5, .int .i64 ch, .int .u8 ms, .int .u8 vl, .bool false]] w _
        go_enter Tryd.func15, Tryd.ntmps15
        have H := HS.start NoD w
        go_upto_region 1 with fail
        generalize hwb : ((w.alloc _).alloc _).alloc _ = w1
        replace H := HS.eqW hwb H.alloc.alloc.alloc
        try simp only [World.size_alloc, List.nil_append, List.cons_append, List.append_assoc] at H
        clear hwb
        generalize w.heap.size + 2 = b4 at H ⊢
        generalize w.heap.size + 1 = b3 at H ⊢
        generalize w.heap.size = b2 at H ⊢
        try clear C
        have C := H.cells
        try simp only [cellsOf, cellsM, apartOf, apartM, and_true] at C
        go_wp2_with fail
        refine (HCPY.out _ (HME.out.up H.done)).mono ?_
        rintro _ w71 ⟨⟨pa, pn, pc⟩, ⟨ra, rn, rc⟩, qs, Fm, hqm, rfl, K0⟩
        replace H := H.join K0 (one_low rfl)
        clear K0 HCPY
        try simp only [List.nil_append, List.cons_append] at H
        skip
        try clear C
        try simp only [World.size_alloc, List.nil_append, List.cons_append, List.append_assoc] at H
        have C := H.cells
        try simp only [cellsOf, cellsM, apartOf, apartM, and_true] at C
        try dsimp only at hqm
        try dsimp only [meV] at H ⊢
        try dsimp only [meV]
        go_upto_region 2 with fail
        generalize hwb : w71.alloc _ = w2
        replace H := HS.eqW hwb H.alloc
        try simp only [World.size_alloc, List.nil_append, List.cons_append, List.append_assoc] at H
        clear hwb
        generalize w71.heap.size = b6 at H ⊢
        try clear C
        try clear w71
        have C := H.cells
        try simp only [cellsOf, cellsM, apartOf, apartM, and_true] at C
        go_wp2_with fail
        refine (HV.out _ (HNm.out.below H.done) (HME.out.up H.done)).mono ?_
        rintro _ w3 ⟨rfl, hb⟩
        replace H := H.below hb
        clear hb
        try clear C
        try simp only [World.size_alloc, List.nil_append, List.cons_append, List.append_assoc] at H
        try clear w2
        have C := H.cells
        try simp only [cellsOf, cellsM, apartOf, apartM, and_true] at C
        dsimp only
        clear HV
        go_upto_region 4 with fail
        refine wp_region_xH (by kernel_rfl) (by kernel_rfl) (by kernel_rfl) (by kernel_rfl) (fun _ => False) (H) ?_
        clear H; intro w4 H hz0 hs0
        try clear C
        try simp only [World.size_alloc, List.nil_append, List.cons_append, List.append_assoc] at H hz0
        clear hz0
        try clear w3
        have C := H.cells
        try simp only [cellsOf, cellsM, apartOf, apartM, and_true] at C
        have Z := H.zs
        try simp only [ltsOf, ltsM, and_true] at Z
        have hz0 := Nat.le_refl w4.heap.size
        repeat (first | (refine wpX_skip rfl ?_; go_simp) | (refine wpX_free rfl rfl rfl (fun K hK => ?_); go_step; refine hK _ _ ?_; clear hK K) | (refine wpX_load rfl rfl rfl (by simp [Stay, OneD, NoD, *]) hs0 (by simp [*]) (fun K hK => ?_); go_step; refine hK _ _ ?_; clear hK K))
        refine wpX_eff rfl rfl (fun _ _ => ?_)
        go_step
        refine (HCH.out _).mono ?_
        rintro _ w5 ⟨rfl, hb⟩
        replace hs0 := hs0.belowS hz0 hb
        replace hz0 := Nat.le_trans hz0 hb.size
        replace H := H.below hb
        clear hb
        try clear C
        have C := H.cells
        try simp only [cellsOf, cellsM, apartOf, apartM, and_true] at C
        try clear w4
        dsimp only
        go_step
        refine ⟨hs0, ?_⟩
        repeat (first | (refine wpX_skip rfl ?_; go_simp) | (refine wpX_free rfl rfl rfl (fun K hK => ?_); go_step; refine hK _ _ ?_; clear hK K) | (refine wpX_load rfl rfl rfl (by simp [Stay, OneD, NoD, *]) hs0 (by simp [*]) (fun K hK => ?_); go_step; refine hK _ _ ?_; clear hK K))
        refine wpX_eff rfl rfl (fun _ _ => ?_)
        go_step
        refine (HVF.out _ (HNm.out.below H.done)).mono ?_
        rintro _ w6 ⟨rfl, hb⟩
        replace hs0 := hs0.belowS hz0 hb
        replace hz0 := Nat.le_trans hz0 hb.size
        replace H := H.below hb
        clear hb
        try clear C
        have C := H.cells
        try simp only [cellsOf, cellsM, apartOf, apartM, and_true] at C
        try clear w5
        dsimp only
        go_step
        refine ⟨hs0, ?_⟩
        repeat (first | (refine wpX_skip rfl ?_; go_simp) | (refine wpX_free rfl rfl rfl (fun K hK => ?_); go_step; refine hK _ _ ?_; clear hK K) | (refine wpX_load rfl rfl rfl (by simp [Stay, OneD, NoD, *]) hs0 (by simp [*]) (fun K hK => ?_); go_step; refine hK _ _ ?_; clear hK K))
        (refine wpX_nil ?_; go_step)
        clear HCH HVF
        go_upto_region 7 with fail
        go_wp2_with fail
        have hmp : MeP w6 b6 ⟨s0, s1, s2, s3, s4, s5, kd, dt, ck, fx, ws, fs⟩ ⟨pa, pn, pc⟩ ⟨ra, rn, rc⟩ := H.at 4 rfl
        refine (HFP.out b6 ⟨pa, pn, pc⟩ ⟨ra, rn, rc⟩ qs hqm _ (HNm.out.below H.done) hmp (H.says 3 rfl).1).mono ?_
        rintro _ w72 ⟨s9, c9, zs, G, KZ, hzs, rfl, hK, K0⟩
        clear hmp HFP
        have HK := Lib.hid hK
        clear hK
        replace H := H.join K0 (two_low rfl rfl)
        clear K0
        try simp only [List.nil_append, List.cons_append] at H
        skip
        try clear C
        try simp only [World.size_alloc, List.nil_append, List.cons_append, List.append_assoc] at H
        have C := H.cells
        try simp only [cellsOf, cellsM, apartOf, apartM, and_true] at C
        go_upto_region 8 with fail
        generalize hwb : World.setCell _ _ _ = w73
        have H9 := HS.eqW hwb (H.setTo (o := 10) (v := .slice s9 zs.length c9) 4 rfl rfl)
        clear hwb H C
        simp only [List.set_cons_succ, List.set_cons_zero] at H9
        have H := H9
        clear H9
        skip
        try clear C
        try simp only [World.size_alloc, List.nil_append, List.cons_append, List.append_assoc] at H
        have C := H.cells
        try simp only [cellsOf, cellsM, apartOf, apartM, and_true] at C
        go_wp2_with fail
        generalize hwb : (((((((((((w73.setCell _ _).setCell _ _).setCell _ _).setCell _ _).setCell _ _).setCell _ _).setCell _ _).setCell _ _).setCell _ _).setCell _ _).setCell _ _).setCell _ _ = w7
        replace H := HS.eqW hwb (H.putAll (i := 2) rfl (vs := [.int .i64 s0, .int .i64 s1, .int .i64 s2, .int .i64 s3, .int .i64 s4, .int .i64 s5, .int .i64 kd, .int .i64 dt, .int .i64 ck, .int .i64 fx, .slice s9 zs.length c9, .slice ra rn rc]) rfl rfl)
        simp only [List.nil_append, List.cons_append, List.append_assoc, List.set_cons_succ, List.set_cons_zero] at H
        clear hwb
        try clear C
        try clear w73
        have C := H.cells
        try simp only [cellsOf, cellsM, apartOf, apartM, and_true] at C
        refine bodyPost_ret (by simp [results, Tryd.results15, go_sem, C]; try rfl) rfl ?_
        have H9 := HS.less (L' := [.any Fm (fun w => CwLie w ⟨pa, pn, pc⟩ qs ∧ CfAt w ⟨ra, rn, rc⟩ fs), rowCw s9 zs.length c9 zs, .any G KZ]) H (by repeat (first | exact .slnil | refine .cons_cons _ ?_ | refine .cons _ ?_))
        have H8 := H9.permu (L' := [.any Fm (fun w => CwLie w ⟨pa, pn, pc⟩ qs ∧ CfAt w ⟨ra, rn, rc⟩ fs), .any G KZ, rowCw s9 zs.length c9 zs]) (.cons _ (List.Perm.swap _ _ _))
        have H7 := HS.anyOf (L := [_, _]) H8 rfl
        have H6 := HS.merge (L := [_]) H7
        have H5 := HS.merge (L := []) H6
        have H4 := HS.weak (L := []) H5 (K' := fun w => CwLie w ⟨s9, zs.length, c9⟩ zs ∧ CfAt w ⟨ra, rn, rc⟩ fs) (fun w' h => ⟨cwLie_of h.2.2 rfl (HK.out w' h.1.1 h.2.1), h.1.2⟩)
        exact ⟨⟨s9, zs.length, c9⟩, ⟨ra, rn, rc⟩, zs, _, hzs, rfl, H4⟩
      | true =>
        generalize hNN : ((M.dt + M.ck).toNat : Int) = N at HCH HVF
        clear hNN
        by_cases hm : f ∈ M.fs
        · clear HCPR
          have HL2 := Lib.hid HME.out.2.2.2
          have hn2 := HME.out.2.1
          have HE := Lib.hid (show injF M f = (M, 8) from by unfold injF; rw [hg, if_pos rfl, hvf, if_pos rfl, hhd, if_pos rfl, if_pos hm])
          rw [HE.out]
          clear HE
          clear hg hvf
          obtain ⟨s0, s1, s2, s3, s4, s5, kd, dt, ck, fx, ws, fs⟩ := M
          obtain ⟨xa0, xn0, xc0⟩ := x
          obtain ⟨ya0, yn0, yc0⟩ := y
          dsimp only at hn2
          subst hn2
          obtain ⟨k, p0, p1, p2, p3, p4, p5, ch, ms, vl, hd⟩ := f
          replace hhd : hd = true := hhd
          subst hhd
          replace HFL := Lib.hid (show fs.length ≤ 64 from HFL.out)
          have HCT := Lib.hid (fun wx hx => (show Calls Tryd.prog 45 #[.slice ya0 fs.length yc0, .agg #[.int .i64 k, .int .i64 p0, .int .i64 p1, .int .i64 p2, .int .i64 p3, .int .i64 p4, .int .i64 p5, .int .i64 ch, .int .u8 ms, .int .u8 vl, .bool true]] wx (Gives (.bool true) wx) from by have h9 := containsCf ⟨k, p0, p1, p2, p3, p4, p5, ch, ms, vl, true⟩ (sa := ya0) yc0 (fs := fs) (by have := HFL.out; omega) wx hx; rw [decide_eq_true hm] at h9; exact h9))
          clear hm
          replace HV := Lib.hid (fun wx hn hx => (show Calls Tryd.prog 21 #[.agg #[.int .i64 s0, .int .i64 s1, .int .i64 s2, .int .i64 s3, .int .i64 s4, .int .i64 s5, .int .i64 kd, .int .i64 dt, .int .i64 ck, .int .i64 fx, .slice xa0 xn0 xc0, .slice ya0 fs.length yc0]] wx _ from HV.out wx hn hx))
          replace HCPY := Lib.hid (fun wx hx => (show Calls Tryd.prog 41 #[.agg #[.int .i64 s0, .int .i64 s1, .int .i64 s2, .int .i64 s3, .int .i64 s4, .int .i64 s5, .int .i64 kd, .int .i64 dt, .int .i64 ck, .int .i64 fx, .slice xa0 xn0 xc0, .slice ya0 fs.length yc0]] wx _ from HCPY.out wx hx))
          show Calls Tryd.prog 15 #[.agg #[.int .i64 s0, .int .i64 s1, .int .i64 s2, .int .i64 s3, .int .i64 s4, .int .i64 s5, .int .i64 kd, .int .i64 dt, .int .i64 ck, .int .i64 fx, .slice xa0 xn0 xc0, .slice ya0 fs.length yc0], .agg #[.int .i64 k, .int .i64 p0, .int .i64 p1, .int .i64 p2, .int .i64 p3, .int .i64 p4, .int .i64 p5, .int .i64 ch, .int .u8 ms, .int .u8 vl, .bool true]] w _
          go_enter Tryd.func15, Tryd.ntmps15
          have H := HS.start NoD w
          go_upto_region 1 with fail
          generalize hwb : ((w.alloc _).alloc _).alloc _ = w1
          replace H := HS.eqW hwb H.alloc.alloc.alloc
          try simp only [World.size_alloc, List.nil_append, List.cons_append, List.append_assoc] at H
          clear hwb
          generalize w.heap.size + 2 = b4 at H ⊢
          generalize w.heap.size + 1 = b3 at H ⊢
          generalize w.heap.size = b2 at H ⊢
          try clear C
          have C := H.cells
          try simp only [cellsOf, cellsM, apartOf, apartM, and_true] at C
          go_wp2_with fail
          refine (HCPY.out _ (HME.out.up H.done)).mono ?_
          rintro _ w71 ⟨⟨pa, pn, pc⟩, ⟨ra, rn, rc⟩, qs, Fm, hqm, rfl, K0⟩
          replace H := H.join K0 (one_low rfl)
          clear K0 HCPY
          try simp only [List.nil_append, List.cons_append] at H
          skip
          try clear C
          try simp only [World.size_alloc, List.nil_append, List.cons_append, List.append_assoc] at H
          have C := H.cells
          try simp only [cellsOf, cellsM, apartOf, apartM, and_true] at C
          try dsimp only at hqm
          try dsimp only [meV] at H ⊢
          try dsimp only [meV]
          go_upto_region 2 with fail
          generalize hwb : w71.alloc _ = w2
          replace H := HS.eqW hwb H.alloc
          try simp only [World.size_alloc, List.nil_append, List.cons_append, List.append_assoc] at H
          clear hwb
          generalize w71.heap.size = b6 at H ⊢
          try clear C
          try clear w71
          have C := H.cells
          try simp only [cellsOf, cellsM, apartOf, apartM, and_true] at C
          go_wp2_with fail
          refine (HV.out _ (HNm.out.below H.done) (HME.out.up H.done)).mono ?_
          rintro _ w3 ⟨rfl, hb⟩
          replace H := H.below hb
          clear hb
          try clear C
          try simp only [World.size_alloc, List.nil_append, List.cons_append, List.append_assoc] at H
          try clear w2
          have C := H.cells
          try simp only [cellsOf, cellsM, apartOf, apartM, and_true] at C
          dsimp only
          clear HV
          go_upto_region 4 with fail
          refine wp_region_xH (by kernel_rfl) (by kernel_rfl) (by kernel_rfl) (by kernel_rfl) (fun _ => False) (H) ?_
          clear H; intro w4 H hz0 hs0
          try clear C
          try simp only [World.size_alloc, List.nil_append, List.cons_append, List.append_assoc] at H hz0
          clear hz0
          try clear w3
          have C := H.cells
          try simp only [cellsOf, cellsM, apartOf, apartM, and_true] at C
          have Z := H.zs
          try simp only [ltsOf, ltsM, and_true] at Z
          have hz0 := Nat.le_refl w4.heap.size
          repeat (first | (refine wpX_skip rfl ?_; go_simp) | (refine wpX_free rfl rfl rfl (fun K hK => ?_); go_step; refine hK _ _ ?_; clear hK K) | (refine wpX_load rfl rfl rfl (by simp [Stay, OneD, NoD, *]) hs0 (by simp [*]) (fun K hK => ?_); go_step; refine hK _ _ ?_; clear hK K))
          refine wpX_eff rfl rfl (fun _ _ => ?_)
          go_step
          refine (HCH.out _).mono ?_
          rintro _ w5 ⟨rfl, hb⟩
          replace hs0 := hs0.belowS hz0 hb
          replace hz0 := Nat.le_trans hz0 hb.size
          replace H := H.below hb
          clear hb
          try clear C
          have C := H.cells
          try simp only [cellsOf, cellsM, apartOf, apartM, and_true] at C
          try clear w4
          dsimp only
          go_step
          refine ⟨hs0, ?_⟩
          repeat (first | (refine wpX_skip rfl ?_; go_simp) | (refine wpX_free rfl rfl rfl (fun K hK => ?_); go_step; refine hK _ _ ?_; clear hK K) | (refine wpX_load rfl rfl rfl (by simp [Stay, OneD, NoD, *]) hs0 (by simp [*]) (fun K hK => ?_); go_step; refine hK _ _ ?_; clear hK K))
          refine wpX_eff rfl rfl (fun _ _ => ?_)
          go_step
          refine (HVF.out _ (HNm.out.below H.done)).mono ?_
          rintro _ w6 ⟨rfl, hb⟩
          replace hs0 := hs0.belowS hz0 hb
          replace hz0 := Nat.le_trans hz0 hb.size
          replace H := H.below hb
          clear hb
          try clear C
          have C := H.cells
          try simp only [cellsOf, cellsM, apartOf, apartM, and_true] at C
          try clear w5
          dsimp only
          go_step
          refine ⟨hs0, ?_⟩
          repeat (first | (refine wpX_skip rfl ?_; go_simp) | (refine wpX_free rfl rfl rfl (fun K hK => ?_); go_step; refine hK _ _ ?_; clear hK K) | (refine wpX_load rfl rfl rfl (by simp [Stay, OneD, NoD, *]) hs0 (by simp [*]) (fun K hK => ?_); go_step; refine hK _ _ ?_; clear hK K))
          (refine wpX_nil ?_; go_step)
          clear HCH HVF
          go_upto_region 9 with fail
          go_wp2_with fail
          refine (HCT.out _ (H.liesUp HL2.out)).mono ?_
          rintro _ w7 ⟨rfl, hb⟩
          replace H := H.below hb
          clear hb
          try clear C
          try simp only [World.size_alloc, List.nil_append, List.cons_append, List.append_assoc] at H
          try clear w6
          have C := H.cells
          try simp only [cellsOf, cellsM, apartOf, apartM, and_true] at C
          dsimp only
          clear HCT
          go_upto_region 30 with fail
          generalize hwb : (((((((((((w7.setCell _ _).setCell _ _).setCell _ _).setCell _ _).setCell _ _).setCell _ _).setCell _ _).setCell _ _).setCell _ _).setCell _ _).setCell _ _).setCell _ _ = w8
          replace H := HS.eqW hwb (H.putAll (i := 2) rfl (vs := [.int .i64 s0, .int .i64 s1, .int .i64 s2, .int .i64 s3, .int .i64 s4, .int .i64 s5, .int .i64 kd, .int .i64 dt, .int .i64 ck, .int .i64 fx, .slice pa pn pc, .slice ra rn rc]) rfl rfl)
          simp only [List.nil_append, List.cons_append, List.append_assoc, List.set_cons_succ, List.set_cons_zero] at H
          clear hwb
          try clear C
          try clear w7
          have C := H.cells
          try simp only [cellsOf, cellsM, apartOf, apartM, and_true] at C
          refine bodyPost_ret (by simp [results, Tryd.results15, go_sem, C]; try rfl) rfl ?_
          exact ⟨⟨pa, pn, pc⟩, ⟨ra, rn, rc⟩, qs, Fm, hqm, rfl, HS.less H (by repeat (first | exact .slnil | refine .cons_cons _ ?_ | refine .cons _ ?_))⟩
        · by_cases h6 : M.fs.length = 64
          · clear HCPR
            have HL2 := Lib.hid HME.out.2.2.2
            have hn2 := HME.out.2.1
            have HE := Lib.hid (show injF M f = (M, 16) from by unfold injF; rw [hg, if_pos rfl, hvf, if_pos rfl, hhd, if_pos rfl, if_neg hm, if_pos h6])
            rw [HE.out]
            clear HE
            clear hg hvf
            obtain ⟨s0, s1, s2, s3, s4, s5, kd, dt, ck, fx, ws, fs⟩ := M
            obtain ⟨xa0, xn0, xc0⟩ := x
            obtain ⟨ya0, yn0, yc0⟩ := y
            dsimp only at hn2
            subst hn2
            obtain ⟨k, p0, p1, p2, p3, p4, p5, ch, ms, vl, hd⟩ := f
            replace hhd : hd = true := hhd
            subst hhd
            replace HFL := Lib.hid (show fs.length ≤ 64 from HFL.out)
            have HCT := Lib.hid (fun wx hx => (show Calls Tryd.prog 45 #[.slice ya0 fs.length yc0, .agg #[.int .i64 k, .int .i64 p0, .int .i64 p1, .int .i64 p2, .int .i64 p3, .int .i64 p4, .int .i64 p5, .int .i64 ch, .int .u8 ms, .int .u8 vl, .bool true]] wx (Gives (.bool false) wx) from by have h9 := containsCf ⟨k, p0, p1, p2, p3, p4, p5, ch, ms, vl, true⟩ (sa := ya0) yc0 (fs := fs) (by have := HFL.out; omega) wx hx; rw [decide_eq_false hm] at h9; exact h9))
            clear hm
            have HF64 := Lib.hid h6
            clear h6
            replace HV := Lib.hid (fun wx hn hx => (show Calls Tryd.prog 21 #[.agg #[.int .i64 s0, .int .i64 s1, .int .i64 s2, .int .i64 s3, .int .i64 s4, .int .i64 s5, .int .i64 kd, .int .i64 dt, .int .i64 ck, .int .i64 fx, .slice xa0 xn0 xc0, .slice ya0 fs.length yc0]] wx _ from HV.out wx hn hx))
            replace HCPY := Lib.hid (fun wx hx => (show Calls Tryd.prog 41 #[.agg #[.int .i64 s0, .int .i64 s1, .int .i64 s2, .int .i64 s3, .int .i64 s4, .int .i64 s5, .int .i64 kd, .int .i64 dt, .int .i64 ck, .int .i64 fx, .slice xa0 xn0 xc0, .slice ya0 fs.length yc0]] wx _ from HCPY.out wx hx))
            show Calls Tryd.prog 15 #[.agg #[.int .i64 s0, .int .i64 s1, .int .i64 s2, .int .i64 s3, .int .i64 s4, .int .i64 s5, .int .i64 kd, .int .i64 dt, .int .i64 ck, .int .i64 fx, .slice xa0 xn0 xc0, .slice ya0 fs.length yc0], .agg #[.int .i64 k, .int .i64 p0, .int .i64 p1, .int .i64 p2, .int .i64 p3, .int .i64 p4, .int .i64 p5, .int .i64 ch, .int .u8 ms, .int .u8 vl, .bool true]] w _
            go_enter Tryd.func15, Tryd.ntmps15
            have H := HS.start NoD w
            go_upto_region 1 with fail
            generalize hwb : ((w.alloc _).alloc _).alloc _ = w1
            replace H := HS.eqW hwb H.alloc.alloc.alloc
            try simp only [World.size_alloc, List.nil_append, List.cons_append, List.append_assoc] at H
            clear hwb
            generalize w.heap.size + 2 = b4 at H ⊢
            generalize w.heap.size + 1 = b3 at H ⊢
            generalize w.heap.size = b2 at H ⊢
            try clear C
            have C := H.cells
            try simp only [cellsOf, cellsM, apartOf, apartM, and_true] at C
            go_wp2_with fail
            refine (HCPY.out _ (HME.out.up H.done)).mono ?_
            rintro _ w71 ⟨⟨pa, pn, pc⟩, ⟨ra, rn, rc⟩, qs, Fm, hqm, rfl, K0⟩
            replace H := H.join K0 (one_low rfl)
            clear K0 HCPY
            try simp only [List.nil_append, List.cons_append] at H
            skip
            try clear C
            try simp only [World.size_alloc, List.nil_append, List.cons_append, List.append_assoc] at H
            have C := H.cells
            try simp only [cellsOf, cellsM, apartOf, apartM, and_true] at C
            try dsimp only at hqm
            try dsimp only [meV] at H ⊢
            try dsimp only [meV]
            go_upto_region 2 with fail
            generalize hwb : w71.alloc _ = w2
            replace H := HS.eqW hwb H.alloc
            try simp only [World.size_alloc, List.nil_append, List.cons_append, List.append_assoc] at H
            clear hwb
            generalize w71.heap.size = b6 at H ⊢
            try clear C
            try clear w71
            have C := H.cells
            try simp only [cellsOf, cellsM, apartOf, apartM, and_true] at C
            go_wp2_with fail
            refine (HV.out _ (HNm.out.below H.done) (HME.out.up H.done)).mono ?_
            rintro _ w3 ⟨rfl, hb⟩
            replace H := H.below hb
            clear hb
            try clear C
            try simp only [World.size_alloc, List.nil_append, List.cons_append, List.append_assoc] at H
            try clear w2
            have C := H.cells
            try simp only [cellsOf, cellsM, apartOf, apartM, and_true] at C
            dsimp only
            clear HV
            go_upto_region 4 with fail
            refine wp_region_xH (by kernel_rfl) (by kernel_rfl) (by kernel_rfl) (by kernel_rfl) (fun _ => False) (H) ?_
            clear H; intro w4 H hz0 hs0
            try clear C
            try simp only [World.size_alloc, List.nil_append, List.cons_append, List.append_assoc] at H hz0
            clear hz0
            try clear w3
            have C := H.cells
            try simp only [cellsOf, cellsM, apartOf, apartM, and_true] at C
            have Z := H.zs
            try simp only [ltsOf, ltsM, and_true] at Z
            have hz0 := Nat.le_refl w4.heap.size
            repeat (first | (refine wpX_skip rfl ?_; go_simp) | (refine wpX_free rfl rfl rfl (fun K hK => ?_); go_step; refine hK _ _ ?_; clear hK K) | (refine wpX_load rfl rfl rfl (by simp [Stay, OneD, NoD, *]) hs0 (by simp [*]) (fun K hK => ?_); go_step; refine hK _ _ ?_; clear hK K))
            refine wpX_eff rfl rfl (fun _ _ => ?_)
            go_step
            refine (HCH.out _).mono ?_
            rintro _ w5 ⟨rfl, hb⟩
            replace hs0 := hs0.belowS hz0 hb
            replace hz0 := Nat.le_trans hz0 hb.size
            replace H := H.below hb
            clear hb
            try clear C
            have C := H.cells
            try simp only [cellsOf, cellsM, apartOf, apartM, and_true] at C
            try clear w4
            dsimp only
            go_step
            refine ⟨hs0, ?_⟩
            repeat (first | (refine wpX_skip rfl ?_; go_simp) | (refine wpX_free rfl rfl rfl (fun K hK => ?_); go_step; refine hK _ _ ?_; clear hK K) | (refine wpX_load rfl rfl rfl (by simp [Stay, OneD, NoD, *]) hs0 (by simp [*]) (fun K hK => ?_); go_step; refine hK _ _ ?_; clear hK K))
            refine wpX_eff rfl rfl (fun _ _ => ?_)
            go_step
            refine (HVF.out _ (HNm.out.below H.done)).mono ?_
            rintro _ w6 ⟨rfl, hb⟩
            replace hs0 := hs0.belowS hz0 hb
            replace hz0 := Nat.le_trans hz0 hb.size
            replace H := H.below hb
            clear hb
            try clear C
            have C := H.cells
            try simp only [cellsOf, cellsM, apartOf, apartM, and_true] at C
            try clear w5
            dsimp only
            go_step
            refine ⟨hs0, ?_⟩
            repeat (first | (refine wpX_skip rfl ?_; go_simp) | (refine wpX_free rfl rfl rfl (fun K hK => ?_); go_step; refine hK _ _ ?_; clear hK K) | (refine wpX_load rfl rfl rfl (by simp [Stay, OneD, NoD, *]) hs0 (by simp [*]) (fun K hK => ?_); go_step; refine hK _ _ ?_; clear hK K))
            (refine wpX_nil ?_; go_step)
            clear HCH HVF
            go_upto_region 9 with fail
            go_wp2_with fail
            refine (HCT.out _ (H.liesUp HL2.out)).mono ?_
            rintro _ w7 ⟨rfl, hb⟩
            replace H := H.below hb
            clear hb
            try clear C
            try simp only [World.size_alloc, List.nil_append, List.cons_append, List.append_assoc] at H
            try clear w6
            have C := H.cells
            try simp only [cellsOf, cellsM, apartOf, apartM, and_true] at C
            dsimp only
            clear HCT
            have h6 : fs.length = 64 := HF64.out
            have h6i : (fs.length : Int) = 64 := by omega
            have h6b : ((fs.length : Int) == 64) = true := beq_iff_eq.2 h6i
            have h6d : decide ((fs.length : Int) = 64) = true := decide_eq_true h6i
            clear h6
            go_upto_region 30 with fail
            generalize hwb : (((((((((((w7.setCell _ _).setCell _ _).setCell _ _).setCell _ _).setCell _ _).setCell _ _).setCell _ _).setCell _ _).setCell _ _).setCell _ _).setCell _ _).setCell _ _ = w8
            replace H := HS.eqW hwb (H.putAll (i := 2) rfl (vs := [.int .i64 s0, .int .i64 s1, .int .i64 s2, .int .i64 s3, .int .i64 s4, .int .i64 s5, .int .i64 kd, .int .i64 dt, .int .i64 ck, .int .i64 fx, .slice pa pn pc, .slice ra rn rc]) rfl rfl)
            simp only [List.nil_append, List.cons_append, List.append_assoc, List.set_cons_succ, List.set_cons_zero] at H
            clear hwb
            try clear C
            try clear w7
            have C := H.cells
            try simp only [cellsOf, cellsM, apartOf, apartM, and_true] at C
            refine bodyPost_ret (by simp [results, Tryd.results15, go_sem, C]; try rfl) rfl ?_
            exact ⟨⟨pa, pn, pc⟩, ⟨ra, rn, rc⟩, qs, Fm, hqm, rfl, HS.less H (by repeat (first | exact .slnil | refine .cons_cons _ ?_ | refine .cons _ ?_))⟩
          · clear HCPY
            have HCPY := HCPR
            clear HCPR
            have HL2 := Lib.hid HME.out.2.2.2
            have hn2 := HME.out.2.1
            have HE := Lib.hid (show injF M f = (setFs M (M.fs ++ [f]), 0) from by unfold injF; rw [hg, if_pos rfl, hvf, if_pos rfl, hhd, if_pos rfl, if_neg hm, if_neg h6])
            rw [HE.out]
            clear HE
            clear hg hvf
            obtain ⟨s0, s1, s2, s3, s4, s5, kd, dt, ck, fx, ws, fs⟩ := M
            obtain ⟨xa0, xn0, xc0⟩ := x
            obtain ⟨ya0, yn0, yc0⟩ := y
            dsimp only at hn2
            subst hn2
            obtain ⟨k, p0, p1, p2, p3, p4, p5, ch, ms, vl, hd⟩ := f
            replace hhd : hd = true := hhd
            subst hhd
            replace HFL := Lib.hid (show fs.length ≤ 64 from HFL.out)
            have HCT := Lib.hid (fun wx hx => (show Calls Tryd.prog 45 #[.slice ya0 fs.length yc0, .agg #[.int .i64 k, .int .i64 p0, .int .i64 p1, .int .i64 p2, .int .i64 p3, .int .i64 p4, .int .i64 p5, .int .i64 ch, .int .u8 ms, .int .u8 vl, .bool true]] wx (Gives (.bool false) wx) from by have h9 := containsCf ⟨k, p0, p1, p2, p3, p4, p5, ch, ms, vl, true⟩ (sa := ya0) yc0 (fs := fs) (by have := HFL.out; omega) wx hx; rw [decide_eq_false hm] at h9; exact h9))
            clear hm
            have HF64 := Lib.hid h6
            clear h6
            replace HV := Lib.hid (fun wx hn hx => (show Calls Tryd.prog 21 #[.agg #[.int .i64 s0, .int .i64 s1, .int .i64 s2, .int .i64 s3, .int .i64 s4, .int .i64 s5, .int .i64 kd, .int .i64 dt, .int .i64 ck, .int .i64 fx, .slice xa0 xn0 xc0, .slice ya0 fs.length yc0]] wx _ from HV.out wx hn hx))
            replace HCPY := Lib.hid (fun wx hx => (show Calls Tryd.prog 41 #[.agg #[.int .i64 s0, .int .i64 s1, .int .i64 s2, .int .i64 s3, .int .i64 s4, .int .i64 s5, .int .i64 kd, .int .i64 dt, .int .i64 ck, .int .i64 fx, .slice xa0 xn0 xc0, .slice ya0 fs.length yc0]] wx _ from HCPY.out wx hx))
            show Calls Tryd.prog 15 #[.agg #[.int .i64 s0, .int .i64 s1, .int .i64 s2, .int .i64 s3, .int .i64 s4, .int .i64 s5, .int .i64 kd, .int .i64 dt, .int .i64 ck, .int .i64 fx, .slice xa0 xn0 xc0, .slice ya0 fs.length yc0], .agg #[.int .i64 k, .int .i64 p0, .int .i64 p1, .int .i64 p2, .int .i64 p3, .int .i64 p4, .int .i64 p5, .int .i64 ch, .int .u8 ms, .int .u8 vl, .bool true]] w _
            go_enter Tryd.func15, Tryd.ntmps15
            have H := HS.start NoD w
            go_upto_region 1 with fail
            generalize hwb : ((w.alloc _).alloc _).alloc _ = w1
            replace H := HS.eqW hwb H.alloc.alloc.alloc
            try simp only [World.size_alloc, List.nil_append, List.cons_append, List.append_assoc] at H
            clear hwb
            generalize w.heap.size + 2 = b4 at H ⊢
            generalize w.heap.size + 1 = b3 at H ⊢
            generalize w.heap.size = b2 at H ⊢
            try clear C
            have C := H.cells
            try simp only [cellsOf, cellsM, apartOf, apartM, and_true] at C
            go_wp2_with fail
            refine (HCPY.out _ (HME.out.up H.done)).mono ?_
            rintro _ w71 ⟨sW, cW, sF, cF, qs, Fm, hqm, rfl, K0⟩
            replace H := H.join K0 (fun X hX => by
              rcases List.mem_cons.1 hX with rfl | hX
              · rfl
              · exact two_low rfl rfl X hX)
            clear K0 HCPY
            try simp only [List.nil_append, List.cons_append] at H
            skip
            try clear C
            try simp only [World.size_alloc, List.nil_append, List.cons_append, List.append_assoc] at H
            have C := H.cells
            try simp only [cellsOf, cellsM, apartOf, apartM, and_true] at C
            try dsimp only at hqm
            try dsimp only [meV] at H ⊢
            try dsimp only [meV]
            go_upto_region 2 with fail
            generalize hwb : w71.alloc _ = w2
            replace H := HS.eqW hwb H.alloc
            try simp only [World.size_alloc, List.nil_append, List.cons_append, List.append_assoc] at H
            clear hwb
            generalize w71.heap.size = b6 at H ⊢
            try clear C
            try clear w71
            have C := H.cells
            try simp only [cellsOf, cellsM, apartOf, apartM, and_true] at C
            go_wp2_with fail
            refine (HV.out _ (HNm.out.below H.done) (HME.out.up H.done)).mono ?_
            rintro _ w3 ⟨rfl, hb⟩
            replace H := H.below hb
            clear hb
            try clear C
            try simp only [World.size_alloc, List.nil_append, List.cons_append, List.append_assoc] at H
            try clear w2
            have C := H.cells
            try simp only [cellsOf, cellsM, apartOf, apartM, and_true] at C
            dsimp only
            clear HV
            go_upto_region 4 with fail
            refine wp_region_xH (by kernel_rfl) (by kernel_rfl) (by kernel_rfl) (by kernel_rfl) (fun _ => False) (H) ?_
            clear H; intro w4 H hz0 hs0
            try clear C
            try simp only [World.size_alloc, List.nil_append, List.cons_append, List.append_assoc] at H hz0
            clear hz0
            try clear w3
            have C := H.cells
            try simp only [cellsOf, cellsM, apartOf, apartM, and_true] at C
            have Z := H.zs
            try simp only [ltsOf, ltsM, and_true] at Z
            have hz0 := Nat.le_refl w4.heap.size
            repeat (first | (refine wpX_skip rfl ?_; go_simp) | (refine wpX_free rfl rfl rfl (fun K hK => ?_); go_step; refine hK _ _ ?_; clear hK K) | (refine wpX_load rfl rfl rfl (by simp [Stay, OneD, NoD, *]) hs0 (by simp [*]) (fun K hK => ?_); go_step; refine hK _ _ ?_; clear hK K))
            refine wpX_eff rfl rfl (fun _ _ => ?_)
            go_step
            refine (HCH.out _).mono ?_
            rintro _ w5 ⟨rfl, hb⟩
            replace hs0 := hs0.belowS hz0 hb
            replace hz0 := Nat.le_trans hz0 hb.size
            replace H := H.below hb
            clear hb
            try clear C
            have C := H.cells
            try simp only [cellsOf, cellsM, apartOf, apartM, and_true] at C
            try clear w4
            dsimp only
            go_step
            refine ⟨hs0, ?_⟩
            repeat (first | (refine wpX_skip rfl ?_; go_simp) | (refine wpX_free rfl rfl rfl (fun K hK => ?_); go_step; refine hK _ _ ?_; clear hK K) | (refine wpX_load rfl rfl rfl (by simp [Stay, OneD, NoD, *]) hs0 (by simp [*]) (fun K hK => ?_); go_step; refine hK _ _ ?_; clear hK K))
            refine wpX_eff rfl rfl (fun _ _ => ?_)
            go_step
            refine (HVF.out _ (HNm.out.below H.done)).mono ?_
            rintro _ w6 ⟨rfl, hb⟩
            replace hs0 := hs0.belowS hz0 hb
            replace hz0 := Nat.le_trans hz0 hb.size
            replace H := H.below hb
            clear hb
            try clear C
            have C := H.cells
            try simp only [cellsOf, cellsM, apartOf, apartM, and_true] at C
            try clear w5
            dsimp only
            go_step
            refine ⟨hs0, ?_⟩
            repeat (first | (refine wpX_skip rfl ?_; go_simp) | (refine wpX_free rfl rfl rfl (fun K hK => ?_); go_step; refine hK _ _ ?_; clear hK K) | (refine wpX_load rfl rfl rfl (by simp [Stay, OneD, NoD, *]) hs0 (by simp [*]) (fun K hK => ?_); go_step; refine hK _ _ ?_; clear hK K))
            (refine wpX_nil ?_; go_step)
            clear HCH HVF
            go_upto_region 9 with fail
            go_wp2_with fail
            refine (HCT.out _ (H.liesUp HL2.out)).mono ?_
            rintro _ w7 ⟨rfl, hb⟩
            replace H := H.below hb
            clear hb
            try clear C
            try simp only [World.size_alloc, List.nil_append, List.cons_append, List.append_assoc] at H
            try clear w6
            have C := H.cells
            try simp only [cellsOf, cellsM, apartOf, apartM, and_true] at C
            dsimp only
            clear HCT
            have h6 : ¬ fs.length = 64 := HF64.out
            have h6i : ¬ (fs.length : Int) = 64 := by omega
            have h6b : ((fs.length : Int) == 64) = false := beq_eq_false_iff_ne.2 h6i
            clear h6
            go_upto_region 13 with fail
            clear h6i h6b
            have hf64 : fs.length ≤ 64 := HFL.out
            iterate 13 go_step
            generalize hwb : World.alloc _ _ = w70
            replace H := HS.eqW hwb H.alloc
            clear hwb C
            simp only [List.nil_append, List.cons_append] at H
            refine wpList_append_H rfl (.tmp 45) (.tmp 47) 32 rfl elemCf H 5 rfl rfl 7 rfl rfl rfl rfl (by decide) (by unfold maxLen; omega) (by omega) (fun gz9 cz9 w72 HZ => ?_)
            clear H
            simp only [List.set_cons_succ, List.set_cons_zero, List.nil_append, List.cons_append, List.append_assoc] at HZ
            have C := HZ.cells
            simp only [cellsOf, cellsM, apartOf, apartM, and_true] at C
            go_upto_region 14 with fail
            generalize hwb : World.setCell _ _ _ = w73
            have H := HS.eqW hwb (HZ.setTo (o := 11) (v := .slice (some ⟨gz9, 0, none⟩) (fs.length + 1) cz9) 6 rfl rfl)
            clear hwb HZ C
            simp only [List.set_cons_succ, List.set_cons_zero] at H
            skip
            try clear C
            try simp only [World.size_alloc, List.nil_append, List.cons_append, List.append_assoc] at H
            have C := H.cells
            try simp only [cellsOf, cellsM, apartOf, apartM, and_true] at C
            go_wp2_with fail
            generalize hwb : (((((((((((w73.setCell _ _).setCell _ _).setCell _ _).setCell _ _).setCell _ _).setCell _ _).setCell _ _).setCell _ _).setCell _ _).setCell _ _).setCell _ _).setCell _ _ = w8
            replace H := HS.eqW hwb (H.putAll (i := 2) rfl (vs := [.int .i64 s0, .int .i64 s1, .int .i64 s2, .int .i64 s3, .int .i64 s4, .int .i64 s5, .int .i64 kd, .int .i64 dt, .int .i64 ck, .int .i64 fx, .slice sW qs.length cW, .slice (some ⟨gz9, 0, none⟩) (fs.length + 1) cz9]) rfl rfl)
            simp only [List.nil_append, List.cons_append, List.append_assoc, List.set_cons_succ, List.set_cons_zero] at H
            clear hwb
            try clear C
            try clear w73
            have C := H.cells
            try simp only [cellsOf, cellsM, apartOf, apartM, and_true] at C
            refine bodyPost_ret (by simp [results, Tryd.results15, go_sem, C]; try rfl) rfl ?_
            have H9 := HS.less (L' := [rowCw sW qs.length cW qs, anyCw Fm qs, rowCf (some ⟨gz9, 0, none⟩) (fs.length + 1) cz9 (fs ++ [⟨k, p0, p1, p2, p3, p4, p5, ch, ms, vl, true⟩])]) H (by
              dsimp only [rowCf]
              rw [List.flatMap_append]
              repeat (first | exact .slnil | refine .cons_cons _ ?_ | refine .cons _ ?_))
            obtain ⟨G, H7⟩ := HS.memOf (L := []) H9 rfl (by rw [List.length_append]; rfl)
            exact ⟨⟨sW, qs.length, cW⟩, ⟨some ⟨gz9, 0, none⟩, fs.length + 1, cz9⟩, qs, G, hqm, rfl, H7⟩
end Go.Proofs.YtplflpmkomeadaaDoor
