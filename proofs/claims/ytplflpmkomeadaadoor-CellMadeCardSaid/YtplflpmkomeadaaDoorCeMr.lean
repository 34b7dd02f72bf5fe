/- ref13.Inject: what it hands back as rows of one's own. -/
import Derived.Test.YtplflpmkomeadaaDoorCeKr
import Derived.Test.YtplflpmkomeadaaDoorCeM
import Derived.Test.YtplflpmkomeadaaDoorXst
namespace Go.Proofs.YtplflpmkomeadaaDoor
set_option linter.unusedSimpArgs false
set_option linter.unusedVariables false
open Go.RowKit
set_option maxRecDepth 100000
attribute [local irreducible] wpX wpF Calls

set_option maxHeartbeats 16000000 in
theorem r13injectR_any (M : Mm) (x y : Sv) (hs : SmallM M) (hz : szM M ≤ 256) (f : Fa) (w : World) (h : MeAt w x y M) : Calls Tryd.prog 39 #[meV M x y, cfV f] w (GivesMeRE (injF M f).1 (injF M f).2 w) := by
  have HV := Lib.hid (fun wx hx => rv13_any M x y hs.long wx hx)
  have HCPY := Lib.hid (fun wx hx => r13copyR_any M x y hs wx hx)
  have HCPR := Lib.hid (fun wx hx => r13copyR_any M x y hs wx hx)
  have HME := Lib.hid h
  have HSS := Lib.hid hs
  clear h hs
  cases hg : goodB M with
  | false =>
    rw [hg] at HV
    have HE := Lib.hid (show injF M f = (M, 1) from by unfold injF; rw [hg]; rfl)
    rw [HE.out]
    clear HE
    clear hg
    obtain ⟨s0, s1, s2, s3, s4, s5, kd, dt, ck, fx, ws, fs⟩ := M
    obtain ⟨xa0, xn0, xc0⟩ := x
    obtain ⟨ya0, yn0, yc0⟩ := y
    obtain ⟨k, p0, p1, p2, p3, p4, p5, ch, ms, vl, hd⟩ := f
    replace HV := Lib.hid (fun wx hx => (show Calls Tryd.prog 64 #[.agg #[.int .i64 s0, .int .i64 s1, .int .i64 s2, .int .i64 s3, .int .i64 s4, .int .i64 s5, .int .i64 kd, .int .i64 dt, .int .i64 ck, .int .i64 fx, .slice xa0 xn0 xc0, .slice ya0 yn0 yc0]] wx _ from HV.out wx hx))
    replace HCPY := Lib.hid (fun wx hx => (show Calls Tryd.prog 70 #[.agg #[.int .i64 s0, .int .i64 s1, .int .i64 s2, .int .i64 s3, .int .i64 s4, .int .i64 s5, .int .i64 kd, .int .i64 dt, .int .i64 ck, .int .i64 fx, .slice xa0 xn0 xc0, .slice ya0 yn0 yc0]] wx _ from HCPY.out wx hx))
    show Calls Tryd.prog 39 #[.agg #[.int .i64 s0, .int .i64 s1, .int .i64 s2, .int .i64 s3, .int .i64 s4, .int .i64 s5, .int .i64 kd, .int .i64 dt, .int .i64 ck, .int .i64 fx, .slice xa0 xn0 xc0, .slice ya0 yn0 yc0], .agg #[.int .i64 k, .int .i64 p0, .int .i64 p1, .int .i64 p2, .int .i64 p3, .int .i64 p4, .int .i64 p5, .int .i64 ch, .int .u8 ms, .int .u8 vl, .bool hd]] w _
    go_enter Tryd.func39, Tryd.ntmps39
    have H := HS.start NoD w
    go_upto_region 1 with fail
    generalize hwb : ((w.alloc _).alloc _).alloc _ = w1
    replace H := HS.eqW hwb H.alloc.alloc.alloc
    try simp only [World.size_alloc, List.nil_append, List.cons_append, List.append_assoc] at H
    clear hwb
    generalize w.heap.size + 2 = b4 at H ⊢
    generalize w.heap.size + 1 = b3 at H ⊢
    generalize w.heap.size = b2 at H ⊢
    try clear C
    have C := H.cells
    try simp only [cellsOf, cellsM, apartOf, apartM, and_true] at C
    go_wp2_with fail
    refine (HV.out _ (HME.out.up H.done)).mono ?_
    rintro _ w2 ⟨rfl, hb⟩
    replace H := H.below hb
    clear hb
    try clear C
    try simp only [World.size_alloc, List.nil_append, List.cons_append, List.append_assoc] at H
    try clear w1
    have C := H.cells
    try simp only [cellsOf, cellsM, apartOf, apartM, and_true] at C
    dsimp only
    clear HV
    go_wp2_with fail
    refine (HCPY.out _ (HME.out.up H.done)).mono ?_
    rintro _ w74 ⟨pa, pc, ra, rc, qs, Fm, hqm, rfl, K0⟩
    replace H := H.join K0 (fun X hX => by
      rcases List.mem_cons.1 hX with rfl | hX
      · rfl
      · exact two_lowJ rfl rfl X hX)
    clear K0
    try simp only [List.nil_append, List.cons_append] at H
    skip
    try clear C
    try simp only [World.size_alloc, List.nil_append, List.cons_append, List.append_assoc] at H
    have C := H.cells
    try simp only [cellsOf, cellsM, apartOf, apartM, and_true] at C
    try dsimp only at hqm
    try dsimp only at H
    try dsimp only [meV, setWs]
    go_upto_region 30 with fail
    generalize hwb : (((((((((((w74.setCell _ _).setCell _ _).setCell _ _).setCell _ _).setCell _ _).setCell _ _).setCell _ _).setCell _ _).setCell _ _).setCell _ _).setCell _ _).setCell _ _ = w3
    replace H := HS.eqW hwb (H.putAll (i := 2) rfl (vs := [.int .i64 s0, .int .i64 s1, .int .i64 s2, .int .i64 s3, .int .i64 s4, .int .i64 s5, .int .i64 kd, .int .i64 dt, .int .i64 ck, .int .i64 fx, .slice pa qs.length pc, .slice ra fs.length rc]) rfl rfl)
    simp only [List.nil_append, List.cons_append, List.append_assoc, List.set_cons_succ, List.set_cons_zero] at H
    clear hwb
    try clear C
    try clear w74
    have C := H.cells
    try simp only [cellsOf, cellsM, apartOf, apartM, and_true] at C
    refine bodyPost_ret (by simp [results, Tryd.results39, go_sem, C]; try rfl) rfl ?_
    exact ⟨pa, pc, ra, rc, qs, Fm, hqm, rfl, HS.less H (by repeat (first | exact .slnil | refine .cons_cons _ ?_ | refine .cons _ ?_))⟩
  | true =>
    rw [hg] at HV
    have HGM := Lib.hid (goodB_iff.1 hg)
    have hrg := codeB_rng HGM.out.co
    have hN : M.dt + M.ck = ((M.dt + M.ck).toNat : Int) := by omega
    have HCH := Lib.hid (fun w => r13chips_any M.kd M.dt M.ck M.fx (by omega) (by omega) w)
    rw [hN] at HCH
    have HVF := Lib.hid (fun w => show Calls Tryd.prog 72 #[shV M, .int .i64 ((M.dt + M.ck).toNat : Int), cfV f] w (Gives (.bool (vfF M (M.dt + M.ck) f)) w) from by rw [← hN]; exact rvfault_any M.s0 M.s1 M.s2 M.s3 M.s4 M.s5 (M.dt + M.ck) f.k f.p0 f.p1 f.p2 f.p3 f.p4 f.p5 f.ch f.ms f.vl f.hd w)
    cases hvf : vfF M (M.dt + M.ck) f with
    | false =>
      rw [hvf] at HVF
      have HE := Lib.hid (show injF M f = (M, 2) from by unfold injF; rw [hg, if_pos rfl, hvf]; rfl)
      rw [HE.out]
      clear HE
      clear hg hvf HGM hrg hN hz
      generalize (M.dt + M.ck).toNat = N at HCH HVF
      obtain ⟨s0, s1, s2, s3, s4, s5, kd, dt, ck, fx, ws, fs⟩ := M
      obtain ⟨xa0, xn0, xc0⟩ := x
      obtain ⟨ya0, yn0, yc0⟩ := y
      obtain ⟨k, p0, p1, p2, p3, p4, p5, ch, ms, vl, hd⟩ := f
      replace HV := Lib.hid (fun wx hx => (show Calls Tryd.prog 64 #[.agg #[.int .i64 s0, .int .i64 s1, .int .i64 s2, .int .i64 s3, .int .i64 s4, .int .i64 s5, .int .i64 kd, .int .i64 dt, .int .i64 ck, .int .i64 fx, .slice xa0 xn0 xc0, .slice ya0 yn0 yc0]] wx _ from HV.out wx hx))
      replace HCPY := Lib.hid (fun wx hx => (show Calls Tryd.prog 70 #[.agg #[.int .i64 s0, .int .i64 s1, .int .i64 s2, .int .i64 s3, .int .i64 s4, .int .i64 s5, .int .i64 kd, .int .i64 dt, .int .i64 ck, .int .i64 fx, .slice xa0 xn0 xc0, .slice ya0 yn0 yc0]] wx _ from HCPY.out wx hx))
      show Calls Tryd.prog 39 #[.agg #[.int .i64 s0, .int .i64 s1, .int .i64 s2, .int .i64 s3, .int .i64 s4, .int .i64 s5, .int .i64 kd, .int .i64 dt, .int .i64 ck, .int .i64 fx, .slice xa0 xn0 xc0, .slice ya0 yn0 yc0], .agg #[.int .i64 k, .int .i64 p0, .int .i64 p1, .int .i64 p2, .int .i64 p3, .int .i64 p4, .int .i64 p5, .int .i64 ch, .int .u8 ms, .int .u8 vl, .bool hd]] w _
      go_enter Tryd.func39, Tryd.ntmps39
      have H := HS.start NoD w
      go_upto_region 1 with fail
      generalize hwb : ((w.alloc _).alloc _).alloc _ = w1
      replace H := HS.eqW hwb H.alloc.alloc.alloc
      try simp only [World.size_alloc, List.nil_append, List.cons_append, List.append_assoc] at H
      clear hwb
      generalize w.heap.size + 2 = b4 at H ⊢
      generalize w.heap.size + 1 = b3 at H ⊢
      generalize w.heap.size = b2 at H ⊢
      try clear C
      have C := H.cells
      try simp only [cellsOf, cellsM, apartOf, apartM, and_true] at C
      go_wp2_with fail
      refine (HV.out _ (HME.out.up H.done)).mono ?_
      rintro _ w2 ⟨rfl, hb⟩
      replace H := H.below hb
      clear hb
      try clear C
      try simp only [World.size_alloc, List.nil_append, List.cons_append, List.append_assoc] at H
      try clear w1
      have C := H.cells
      try simp only [cellsOf, cellsM, apartOf, apartM, and_true] at C
      dsimp only
      clear HV
      go_upto_region 3 with fail
      refine wp_region_xH (by kernel_rfl) (by kernel_rfl) (by kernel_rfl) (by kernel_rfl) (fun _ => False) (H) ?_
      clear H; intro w3 H hz0 hs0
      try clear C
      try simp only [World.size_alloc, List.nil_append, List.cons_append, List.append_assoc] at H hz0
      clear hz0
      try clear w2
      have C := H.cells
      try simp only [cellsOf, cellsM, apartOf, apartM, and_true] at C
      have Z := H.zs
      try simp only [ltsOf, ltsM, and_true] at Z
      have hz0 := Nat.le_refl w3.heap.size
      repeat (first | (refine wpX_skip rfl ?_; go_simp) | (refine wpX_free rfl rfl rfl (fun K hK => ?_); go_step; refine hK _ _ ?_; clear hK K) | (refine wpX_load rfl rfl rfl (by simp [Stay, OneD, NoD, *]) hs0 (by simp [*]) (fun K hK => ?_); go_step; refine hK _ _ ?_; clear hK K))
      refine wpX_eff rfl rfl (fun _ _ => ?_)
      go_step
      refine (HCH.out _).mono ?_
      rintro _ w4 ⟨rfl, hb⟩
      replace hs0 := hs0.belowS hz0 hb
      replace hz0 := Nat.le_trans hz0 hb.size
      replace H := H.below hb
      clear hb
      try clear C
      have C := H.cells
      try simp only [cellsOf, cellsM, apartOf, apartM, and_true] at C
      try clear w3
      dsimp only
      go_step
      refine ⟨hs0, ?_⟩
      repeat (first | (refine wpX_skip rfl ?_; go_simp) | (refine wpX_free rfl rfl rfl (fun K hK => ?_); go_step; refine hK _ _ ?_; clear hK K) | (refine wpX_load rfl rfl rfl (by simp [Stay, OneD, NoD, *]) hs0 (by simp [*]) (fun K hK => ?_); go_step; refine hK _ _ ?_; clear hK K))
      refine wpX_eff rfl rfl (fun _ _ => ?_)
      go_step
      refine (HVF.out _).mono ?_
      rintro _ w5 ⟨rfl, hb⟩
      replace hs0 := hs0.belowS hz0 hb
      replace hz0 := Nat.le_trans hz0 hb.size
      replace H := H.below hb
      clear hb
      try clear C
      have C := H.cells
      try simp only [cellsOf, cellsM, apartOf, apartM, and_true] at C
      try clear w4
      dsimp only
      go_step
      refine ⟨hs0, ?_⟩
      repeat (first | (refine wpX_skip rfl ?_; go_simp) | (refine wpX_free rfl rfl rfl (fun K hK => ?_); go_step; refine hK _ _ ?_; clear hK K) | (refine wpX_load rfl rfl rfl (by simp [Stay, OneD, NoD, *]) hs0 (by simp [*]) (fun K hK => ?_); go_step; refine hK _ _ ?_; clear hK K))
      (refine wpX_nil ?_; go_step)
      clear HCH HVF
      go_wp2_with fail
      refine (HCPY.out _ (HME.out.up H.done)).mono ?_
      rintro _ w75 ⟨pa, pc, ra, rc, qs, Fm, hqm, rfl, K0⟩
      replace H := H.join K0 (fun X hX => by
        rcases List.mem_cons.1 hX with rfl | hX
        · rfl
        · exact two_lowJ rfl rfl X hX)
      clear K0
      try simp only [List.nil_append, List.cons_append] at H
      skip
      try clear C
      try simp only [World.size_alloc, List.nil_append, List.cons_append, List.append_assoc] at H
      have C := H.cells
      try simp only [cellsOf, cellsM, apartOf, apartM, and_true] at C
      try dsimp only at hqm
      try dsimp only at H
      try dsimp only [meV, setWs]
      go_upto_region 30 with fail
      generalize hwb : (((((((((((w75.setCell _ _).setCell _ _).setCell _ _).setCell _ _).setCell _ _).setCell _ _).setCell _ _).setCell _ _).setCell _ _).setCell _ _).setCell _ _).setCell _ _ = w6
      replace H := HS.eqW hwb (H.putAll (i := 2) rfl (vs := [.int .i64 s0, .int .i64 s1, .int .i64 s2, .int .i64 s3, .int .i64 s4, .int .i64 s5, .int .i64 kd, .int .i64 dt, .int .i64 ck, .int .i64 fx, .slice pa qs.length pc, .slice ra fs.length rc]) rfl rfl)
      simp only [List.nil_append, List.cons_append, List.append_assoc, List.set_cons_succ, List.set_cons_zero] at H
      clear hwb
      try clear C
      try clear w75
      have C := H.cells
      try simp only [cellsOf, cellsM, apartOf, apartM, and_true] at C
      refine bodyPost_ret (by simp [results, Tryd.results39, go_sem, C]; try rfl) rfl ?_
      exact ⟨pa, pc, ra, rc, qs, Fm, hqm, rfl, HS.less H (by repeat (first | exact .slnil | refine .cons_cons _ ?_ | refine .cons _ ?_))⟩
    | true =>
      rw [hvf] at HVF
      have HCHN := Lib.hid (show 0 ≤ f.ch ∧ f.ch < M.dt + M.ck from vf_ch hvf)
      cases hhd : f.hd with
      | false =>
        have HCOV := Lib.hid (fun w => (show Calls Tryd.prog 73 #[shV M, cfV f] w (GivesRow (covM M f) w) from rcovered_any M.s0 M.s1 M.s2 M.s3 M.s4 M.s5 f.k f.p0 f.p1 f.p2 f.p3 f.p4 f.p5 f.ch f.ms f.vl f.hd w))
        have HLL := Lib.hid (covM_lt M f)
        have HE := Lib.hid (show injF M f = (setWs M (flipL (M.dt + M.ck).toNat f.ch f.ms (covM M f) M.ws), 0) from by unfold injF; rw [hg, if_pos rfl, hvf, if_pos rfl, hhd]; rfl)
        rw [HE.out]
        clear HE
        have HGW := Lib.hid HGM.out.ws
        have HSZ := Lib.hid (Nat.le_trans hz (by decide : 256 ≤ 1000))
        have hz9 := Lib.hid hz
        have HFS := Lib.hid HSS.out.fs
        have HDT := Lib.hid (show 0 ≤ M.dt ∧ M.dt ≤ 1000 by omega)
        have HCK := Lib.hid (show 0 ≤ M.ck ∧ M.ck ≤ 1000 by omega)
        have HN4 := Lib.hid (show (M.dt + M.ck).toNat ≤ 1000 by omega)
        clear hg hvf HGM hrg hN hz HSS HCPR
        generalize hNZ : (M.dt + M.ck).toNat = N at HCH HVF HGW HN4 ⊢
        have HNN := Lib.hid hNZ
        clear hNZ
        have HL4 := Lib.hid (show (covM M f).length ≤ 1000 from Nat.le_trans (cvL_len _ _ _ _ _ _ _ _ _ _ _ _ _ _) (Nat.le_trans hz9.out (by decide)))
        obtain ⟨q0, hq0, hcw0⟩ := HME.out.1
        have hn0 := hcw0.1
        have HCW0 := Lib.hid (show CwLie w x q0 from hcw0)
        clear hcw0
        have HQ0 := Lib.hid hq0
        clear hq0
        generalize covM M f = L at HCOV HLL HL4 ⊢
        have HSZ2 := HSZ
        obtain ⟨s0, s1, s2, s3, s4, s5, kd, dt, ck, fx, ws, fs⟩ := M
        obtain ⟨xa0, xn0, xc0⟩ := x
        obtain ⟨ya0, yn0, yc0⟩ := y
        dsimp only at hn0
        subst hn0
        obtain ⟨k, p0, p1, p2, p3, p4, p5, ch, ms, vl, hd⟩ := f
        replace hhd : hd = false := hhd
        subst hhd
        replace HV := Lib.hid (fun wx hx => (show Calls Tryd.prog 64 #[.agg #[.int .i64 s0, .int .i64 s1, .int .i64 s2, .int .i64 s3, .int .i64 s4, .int .i64 s5, .int .i64 kd, .int .i64 dt, .int .i64 ck, .int .i64 fx, .slice xa0 q0.length xc0, .slice ya0 yn0 yc0]] wx _ from HV.out wx hx))
        replace HCPY := Lib.hid (fun wx hx => (show Calls Tryd.prog 70 #[.agg #[.int .i64 s0, .int .i64 s1, .int .i64 s2, .int .i64 s3, .int .i64 s4, .int .i64 s5, .int .i64 kd, .int .i64 dt, .int .i64 ck, .int .i64 fx, .slice xa0 q0.length xc0, .slice ya0 yn0 yc0]] wx _ from HCPY.out wx hx))
        show Calls Tryd.prog 39 #[.agg #[.int .i64 s0, .int .i64 s1, .int .i64 s2, .int .i64 s3, .int .i64 s4, .int .i64 s5, .int .i64 kd, .int .i64 dt, .int .i64 ck, .int .i64 fx, .slice xa0 q0.length xc0, .slice ya0 yn0 yc0], .agg #[.int .i64 k, .int .i64 p0, .int .i64 p1, .int .i64 p2, .int .i64 p3, .int .i64 p4, .int .i64 p5, .int .i64 ch, .int .u8 ms, .int .u8 vl, .bool false]] w _
        go_enter Tryd.func39, Tryd.ntmps39
        have H := HS.start NoD w
        go_upto_region 1 with fail
        generalize hwb : ((w.alloc _).alloc _).alloc _ = w1
        replace H := HS.eqW hwb H.alloc.alloc.alloc
        try simp only [World.size_alloc, List.nil_append, List.cons_append, List.append_assoc] at H
        clear hwb
        generalize w.heap.size + 2 = b4 at H ⊢
        generalize w.heap.size + 1 = b3 at H ⊢
        generalize w.heap.size = b2 at H ⊢
        try clear C
        have C := H.cells
        try simp only [cellsOf, cellsM, apartOf, apartM, and_true] at C
        go_wp2_with fail
        refine (HV.out _ (HME.out.up H.done)).mono ?_
        rintro _ w2 ⟨rfl, hb⟩
        replace H := H.below hb
        clear hb
        try clear C
        try simp only [World.size_alloc, List.nil_append, List.cons_append, List.append_assoc] at H
        try clear w1
        have C := H.cells
        try simp only [cellsOf, cellsM, apartOf, apartM, and_true] at C
        dsimp only
        clear HV
        go_upto_region 3 with fail
        refine wp_region_xH (by kernel_rfl) (by kernel_rfl) (by kernel_rfl) (by kernel_rfl) (fun _ => False) (H) ?_
        clear H; intro w3 H hz0 hs0
        try clear C
        try simp only [World.size_alloc, List.nil_append, List.cons_append, List.append_assoc] at H hz0
        clear hz0
        try clear w2
        have C := H.cells
        try simp only [cellsOf, cellsM, apartOf, apartM, and_true] at C
        have Z := H.zs
        try simp only [ltsOf, ltsM, and_true] at Z
        have hz0 := Nat.le_refl w3.heap.size
        repeat (first | (refine wpX_skip rfl ?_; go_simp) | (refine wpX_free rfl rfl rfl (fun K hK => ?_); go_step; refine hK _ _ ?_; clear hK K) | (refine wpX_load rfl rfl rfl (by simp [Stay, OneD, NoD, *]) hs0 (by simp [*]) (fun K hK => ?_); go_step; refine hK _ _ ?_; clear hK K))
        refine wpX_eff rfl rfl (fun _ _ => ?_)
        go_step
        refine (HCH.out _).mono ?_
        rintro _ w4 ⟨rfl, hb⟩
        replace hs0 := hs0.belowS hz0 hb
        replace hz0 := Nat.le_trans hz0 hb.size
        replace H := H.below hb
        clear hb
        try clear C
        have C := H.cells
        try simp only [cellsOf, cellsM, apartOf, apartM, and_true] at C
        try clear w3
        dsimp only
        go_step
        refine ⟨hs0, ?_⟩
        repeat (first | (refine wpX_skip rfl ?_; go_simp) | (refine wpX_free rfl rfl rfl (fun K hK => ?_); go_step; refine hK _ _ ?_; clear hK K) | (refine wpX_load rfl rfl rfl (by simp [Stay, OneD, NoD, *]) hs0 (by simp [*]) (fun K hK => ?_); go_step; refine hK _ _ ?_; clear hK K))
        refine wpX_eff rfl rfl (fun _ _ => ?_)
        go_step
        refine (HVF.out _).mono ?_
        rintro _ w5 ⟨rfl, hb⟩
        replace hs0 := hs0.belowS hz0 hb
        replace hz0 := Nat.le_trans hz0 hb.size
        replace H := H.below hb
        clear hb
        try clear C
        have C := H.cells
        try simp only [cellsOf, cellsM, apartOf, apartM, and_true] at C
        try clear w4
        dsimp only
        go_step
        refine ⟨hs0, ?_⟩
        repeat (first | (refine wpX_skip rfl ?_; go_simp) | (refine wpX_free rfl rfl rfl (fun K hK => ?_); go_step; refine hK _ _ ?_; clear hK K) | (refine wpX_load rfl rfl rfl (by simp [Stay, OneD, NoD, *]) hs0 (by simp [*]) (fun K hK => ?_); go_step; refine hK _ _ ?_; clear hK K))
        (refine wpX_nil ?_; go_step)
        clear HCH HVF
        obtain ⟨cN, hcN⟩ : ∃ c : Nat, ch = c := ⟨ch.toNat, by have := HCHN.out; omega⟩
        subst hcN
        go_upto_region 6 with fail
        go_wp2_with fail
        refine (HCOV.out _).mono ?_
        rintro _ w51 ⟨lv, rfl, hrow, hb⟩
        replace H := H.getsRow hb hrow
        clear hrow hb HCOV
        try simp only [List.nil_append, List.cons_append] at H
        skip
        try clear C
        try simp only [World.size_alloc, List.nil_append, List.cons_append, List.append_assoc] at H
        have C := H.cells
        try simp only [cellsOf, cellsM, apartOf, apartM, and_true] at C
        obtain ⟨ls, lc, rfl⟩ := ownsRow_slice (H.at 3 rfl)
        have hn1 := H.anyNil
        clear H C
        have H := hn1
        clear hn1
        try simp only [List.nil_append, List.cons_append] at H
        try clear C
        try simp only [World.size_alloc, List.nil_append, List.cons_append, List.append_assoc] at H
        have C := H.cells
        try simp only [cellsOf, cellsM, apartOf, apartM, and_true] at C
        go_wp2_with fail
        go_loopw [7] (fun kv wr => ∃ (j : Nat) (pa : Option Addr) (pc : Nat) (ra : Option Addr) (rn rc : Nat) (qs : List (Wm × Sv)) (G : Nat → Prop) (KI : World → Prop), kv = .int .i64 j ∧ j ≤ L.length ∧ Hid (qs.map Prod.fst = flipL N cN ms (L.take j) ws) ∧ Hid (∀ w', Below w.heap.size w w' → KI w' → CwLie w' ⟨pa, qs.length, pc⟩ qs ∧ CfAt w' ⟨ra, rn, rc⟩ fs) ∧ HS NoD w [.blk b2 #[.int .i64 s0, .int .i64 s1, .int .i64 s2, .int .i64 s3, .int .i64 s4, .int .i64 s5, .int .i64 kd, .int .i64 dt, .int .i64 ck, .int .i64 fx, .slice pa qs.length pc, .slice ra rn rc] 34, .blk b3 #[.int .i64 k, .int .i64 p0, .int .i64 p1, .int .i64 p2, .int .i64 p3, .int .i64 p4, .int .i64 p5, .int .i64 cN, .int .u8 ms, .int .u8 vl, .bool false] 38, .blk b4 #[.int .i64 0, .int .i64 0, .int .i64 0, .int .i64 0, .int .i64 0, .int .i64 0, .int .i64 0, .int .i64 0, .int .i64 0, .int .i64 0, .slice none 0 0, .slice none 0 0] 34, .row (.slice ls L.length lc) 3 1 L.length (L.map intV), .any G KI] wr) (fun kv _ => L.length - (intOf kv).toNat)
        case atStart => exact ⟨0, xa0, xc0, ya0, yn0, yc0, q0, _, _, rfl, Nat.zero_le _, (show Hid _ from HQ0.out), (show Hid _ from fun w' hb _ => ⟨HCW0.out.up hb, HME.out.2.up hb⟩), H⟩
        case round =>
          clear H C
          obtain ⟨j, pa, pc, ra, rn, rc, qs, G, KI, rfl, hj, HQ, HKI, H⟩ := hrel
          skip
          try clear C
          try simp only [World.size_alloc, List.nil_append, List.cons_append, List.append_assoc] at H
          have C := H.cells
          try simp only [cellsOf, cellsM, apartOf, apartM, and_true] at C
          by_cases hlt : j < L.length
          · have HLT := Lib.hid hlt
            have hl4 := HL4.out
            have hji : (j : Int) < L.length := by omega
            obtain ⟨gl, cgl, hv, -, -⟩ := World.ownsRow.form (H.at 3 rfl) (by omega)
            obtain ⟨rfl, -, rfl⟩ := Value.slice.inj hv
            clear hv
            have HLM := Lib.hid (show L[j]! ∈ L by rw [getElem!_pos L j hlt]; exact List.getElem_mem hlt)
            have HTK := Lib.hid (show L.take (j + 1) = L.take j ++ [L[j]!] by rw [List.take_succ_eq_append_getElem hlt, getElem!_pos L j hlt])
            have HLC := Lib.hid (fun (wx : World) (hx : HS NoD w [.blk b2 #[.int .i64 s0, .int .i64 s1, .int .i64 s2, .int .i64 s3, .int .i64 s4, .int .i64 s5, .int .i64 kd, .int .i64 dt, .int .i64 ck, .int .i64 fx, .slice pa qs.length pc, .slice ra rn rc] 34, .blk b3 #[.int .i64 k, .int .i64 p0, .int .i64 p1, .int .i64 p2, .int .i64 p3, .int .i64 p4, .int .i64 p5, .int .i64 cN, .int .u8 ms, .int .u8 vl, .bool false] 38, .blk b4 #[.int .i64 0, .int .i64 0, .int .i64 0, .int .i64 0, .int .i64 0, .int .i64 0, .int .i64 0, .int .i64 0, .int .i64 0, .int .i64 0, .slice none 0 0, .slice none 0 0] 34, .row (.slice (some ⟨gl, 0, none⟩) L.length lc) 3 1 L.length (L.map intV), .any G KI] wx) => show wx.cell? ⟨gl, j, none⟩ = some (.int .i64 (L[j]! : Nat)) from by
              have := (hx.rowCells 3 rfl j (by omega)).1
              rw [this, List.getElem?_map, List.getElem?_eq_getElem hlt, getElem!_pos L j hlt]; rfl)
            generalize L[j]! = ix at HLM HTK HLC
            have HGJ := Lib.hid (HGW.out.flip cN ms (L.take j) (fun i hi => HLL.out i (List.mem_of_mem_take hi)))
            have HSMJ := Lib.hid (show SmallM ⟨s0, s1, s2, s3, s4, s5, kd, dt, ck, fx, flipL N cN ms (L.take j) ws, fs⟩ from ⟨Nat.le_trans HGJ.out.len_le HSZ.out, HFS.out, fun m hm => by rw [HGJ.out.len m hm]; exact Nat.le_trans HN4.out (by decide)⟩)
            have HLK := Lib.hid (fun wx hx => (show Calls Tryd.prog 74 #[.agg #[.int .i64 s0, .int .i64 s1, .int .i64 s2, .int .i64 s3, .int .i64 s4, .int .i64 s5, .int .i64 kd, .int .i64 dt, .int .i64 ck, .int .i64 fx, .slice pa qs.length pc, .slice ra rn rc], .int .i64 ix] wx (GivesCwR (lookW N (flipL N cN ms (L.take j) ws) ix) wx) from by
              have h9 := look13_any ⟨s0, s1, s2, s3, s4, s5, kd, dt, ck, fx, flipL N cN ms (L.take j) ws, fs⟩ ⟨pa, qs.length, pc⟩ ⟨ra, rn, rc⟩ HSMJ.out HDT.out HCK.out ix wx hx
              dsimp only at h9
              rw [HNN.out] at h9
              exact h9))
            have HPT := Lib.hid (fun (m : Wm) (hm : m.bs.length = N) (sz : Option Addr) (cz : Nat) wx hx h1 => (show Calls Tryd.prog 71 #[.agg #[.int .i64 s0, .int .i64 s1, .int .i64 s2, .int .i64 s3, .int .i64 s4, .int .i64 s5, .int .i64 kd, .int .i64 dt, .int .i64 ck, .int .i64 fx, .slice pa qs.length pc, .slice ra rn rc], .agg #[.int .i64 m.ix, .slice sz m.bs.length cz, .bool m.po]] wx _ from put13_any ⟨s0, s1, s2, s3, s4, s5, kd, dt, ck, fx, flipL N cN ms (L.take j) ws, fs⟩ ⟨pa, qs.length, pc⟩ ⟨ra, rn, rc⟩ HSMJ.out HGJ.out.up m ⟨sz, m.bs.length, cz⟩ (by rw [hm]; exact HN4.out) wx hx h1))
            have HLN := Lib.hid (show (lookW N (flipL N cN ms (L.take j) ws) ix).bs.length = N from HGJ.out.look_len ix)
            have HLX := Lib.hid (look_ix N (flipL N cN ms (L.take j) ws) ix)
            obtain ⟨m, hm⟩ : ∃ m, m = lookW N (flipL N cN ms (L.take j) ws) ix := ⟨_, rfl⟩
            rw [← hm] at HLK HLN HLX
            have HMM := Lib.hid hm
            clear hm
            obtain ⟨mx, bs, po⟩ := m
            have hMA := meAt_of (m := ⟨s0, s1, s2, s3, s4, s5, kd, dt, ck, fx, flipL N cN ms (L.take j) ws, fs⟩) HQ.out (HKI.out wr H.done (H.says 4 rfl))
            have HMA := Lib.hid (fun wx (hb : Below wr.heap.size wr wx) => hMA.up hb)
            clear hMA
            go_upto_region 10 with fail
            refine wp_region_h (by kernel_rfl) [0, 1, 2, 3, 4, 5, 6, 7] (by kernel_rfl) (by kernel_rfl) (by kernel_rfl) (fun _ => False) (H) ?_
            clear H; intro w6 H hz0
            try clear C
            try simp only [World.size_alloc, List.nil_append, List.cons_append, List.append_assoc] at H hz0 ⊢
            clear hz0
            try clear wr
            have C := H.cells
            try simp only [cellsOf, cellsM, apartOf, apartM, and_true] at C
            have Z := H.zs
            try simp only [ltsOf, ltsM, and_true] at Z
            simp only [List.filterMap_cons, List.filterMap_nil, List.getElem?_toArray, List.getElem?_cons_zero, List.getElem?_cons_succ]
            have hgl9 : gl < w6.heap.size := Item.lt (H.at 3 rfl) (k := gl) rfl
            have e0 : w6.cell? ⟨gl, j, none⟩ = some (.int .i64 ix) := HLC.out _ H
            (refine wpH_load rfl rfl rfl (by simp [Stay, OneD, NoD, *]) (by simp [*]) (fun _ _ => ?_); go_step; go_step)
            (refine wpH_free rfl rfl rfl (fun _ _ => ?_); go_step; go_step)
            (refine wpH_free rfl rfl rfl (fun _ _ => ?_); go_step; go_step)
            (refine wpH_yield rfl rfl (.pointer (some ⟨gl, j, none⟩)) (fun w _ => by go_simp) ?_; go_simp)
            (refine wpH_load rfl rfl rfl (by simp [Stay, OneD, NoD, *]) (by simp [*]) (fun _ _ => ?_); go_step; go_step)
            (refine wpH_call rfl rfl (fun wc hc _ _ => ?_); go_step; refine (HLK.out _ (meAt_of (m := ⟨s0, s1, s2, s3, s4, s5, kd, dt, ck, fx, flipL N cN ms (L.take j) ws, fs⟩) HQ.out (HKI.out _ hc.hs.done (hc.hs.says 4 rfl)))).mono ?_; rintro _ wd ⟨sz, cz, rfl, K0⟩; dsimp only; go_step; refine ⟨_, (hc.joinH (fun _ h => h.1) (K0) (one_low rfl)).1, (hc.joinH (fun _ h => h.1) (K0) (one_low rfl)).2, ?_⟩; clear hc; try clear wc wd)
            (refine wpH_float rfl rfl #[.int .i64 0, .slice none 0 0, .bool false]   50 (fun w => by kernel_rfl) (fun b8 hb8 nb8 _ _ => ?_); go_simp; go_step)
            (refine wpH_store (cs := #[.int .i64 mx, .slice sz bs.length cz, .bool po]) rfl rfl rfl rfl (Fl.at _ _ _) rfl (by kernel_rfl) rfl rfl (fun _ _ => ?_); go_simp; go_step)
            refine wpH_nil ?_
            intro w7 hC
            have hL := hC.laid b8 _ (Fl.at _ _ _)
            replace H := hC.hs.lay hL.2.1 (Nat.le_trans H.size hL.1) hL.2.2
            clear hC hL
            try clear C
            try clear Z
            try simp only [List.nil_append, List.cons_append, List.append_assoc, List.set_cons_succ, List.set_cons_zero] at H
            try clear w6
            have C := H.cells
            try simp only [cellsOf, cellsM, apartOf, apartM, and_true] at C
            clear e0 hgl9
            have hbc : cN < bs.length := by have h1 := HCHN.out; have h2 := HLN.out; have h3 := HNN.out; dsimp only at h1 h2; omega
            obtain ⟨g8, c8, hv, -, -⟩ := World.ownsRow.form (H.at 5 rfl) (by omega)
            obtain ⟨rfl, -, rfl⟩ := Value.slice.inj hv
            clear hv
            have hk9 := H.rowCells 5 rfl cN (by omega)
            have hkc : w7.cell? ⟨g8, cN, none⟩ = some (.int .u8 bs[cN]!) := hk9.1.trans (by have := flat_get bC1_len bs cN 0 _ hbc rfl; simpa using this)
            have hkf : w7.frozen? ⟨g8, cN, none⟩ = false := hk9.2
            have hg8 : g8 < w7.heap.size := Item.lt (H.at 5 rfl) (k := g8) rfl
            have HXM := Lib.hid (show xorAt cN ms ⟨mx, bs, po⟩ = (⟨mx, bs.set cN (xorB bs[cN]! ms), po⟩ : Wm) from rfl)
            have HBS := Lib.hid (by_set bs cN (xorB bs[cN]! ms))
            generalize bs[cN]! = vb at hkc HXM HBS
            have hbci : (cN : Int) < bs.length := by omega
            clear hk9
            go_upto_region 11 with fail
            go_region
            all_goals
              generalize hwb : World.setCell _ _ _ = w53
              have H00 := HS.eqW hwb (H.rowSet 5 rfl cN (.int .u8 (xorB vb ms)))
              have H0 := H00.drew
              generalize hwd : w53.drew = w54 at H0 ⊢
              clear H00 hwd
              clear H C hwb hkc hkf hg8
              try clear w53
              simp only [List.set_cons_succ, List.set_cons_zero] at H0
              rw [HBS.out] at H0
              have H := H0
              clear H0
              skip
              try clear C
              try simp only [World.size_alloc, List.nil_append, List.cons_append, List.append_assoc] at H
              have C := H.cells
              try simp only [cellsOf, cellsM, apartOf, apartM, and_true] at C
              have hbl : bs.length = (bs.set cN (xorB vb ms)).length := List.length_set.symm
              have HBL := Lib.hid hbl
              rw [hbl] at H
              have HPU := Lib.hid (HPT.out (xorAt cN ms ⟨mx, bs, po⟩) (by rw [xorAt_len]; exact HLN.out))
              rw [HXM.out] at HPU
              have HPV := Lib.hid (fun sz cz wx hx h1 => HPU.out sz cz wx hx h1)
              dsimp only at HPV
              rw [← hbl] at HPV
              clear hbl
              go_wp2_with fail
              have hme9 := meAt_of (m := ⟨s0, s1, s2, s3, s4, s5, kd, dt, ck, fx, flipL N cN ms (L.take j) ws, fs⟩) HQ.out (HKI.out _ H.done (H.says 4 rfl))
              have hby8 : BytesAt w54 ⟨some ⟨g8, 0, none⟩, (bs.set cN (xorB vb ms)).length, cz⟩ (bs.set cN (xorB vb ms)) := bytes_row rfl (H.at 5 rfl)
              have hby9 : BytesAt w54 ⟨some ⟨g8, 0, none⟩, bs.length, cz⟩ (bs.set cN (xorB vb ms)) := by rw [HBL.out]; exact hby8
              clear hby8
              refine (HPV.out _ _ _ hme9 hby9).mono ?_
              rintro _ w55 ⟨⟨na, nn, nc⟩, ⟨ya2, yn2, yc2⟩, qs2, F2, hqm, rfl, K0⟩
              clear hme9 hby9
              replace H := H.join K0 (one_low rfl)
              clear K0
              try simp only [List.nil_append, List.cons_append] at H
              skip
              try clear C
              try simp only [World.size_alloc, List.nil_append, List.cons_append, List.append_assoc] at H
              have C := H.cells
              try simp only [cellsOf, cellsM, apartOf, apartM, and_true] at C
              dsimp only [setWs] at hqm H
              try dsimp only [meV, setWs]
              obtain rfl : nn = qs2.length := (H.says 7 rfl).1.1
              have HQ2 := Lib.hid (show qs2.map Prod.fst = flipL N cN ms (L.take (j + 1)) ws by
                rw [hqm, HTK.out, flipL_snoc]
                rw [← HXM.out, HMM.out])
              clear hqm
              go_upto_region 9 with fail
              generalize hwb : (((((((((((w55.setCell _ _).setCell _ _).setCell _ _).setCell _ _).setCell _ _).setCell _ _).setCell _ _).setCell _ _).setCell _ _).setCell _ _).setCell _ _).setCell _ _ = w8
              replace H := HS.eqW hwb (H.putAll (i := 0) rfl (vs := [.int .i64 s0, .int .i64 s1, .int .i64 s2, .int .i64 s3, .int .i64 s4, .int .i64 s5, .int .i64 kd, .int .i64 dt, .int .i64 ck, .int .i64 fx, .slice na qs2.length nc, .slice ya2 yn2 yc2]) rfl rfl)
              simp only [List.nil_append, List.cons_append, List.append_assoc, List.set_cons_succ, List.set_cons_zero] at H
              clear hwb
              try clear C
              try clear w55
              have C := H.cells
              try simp only [cellsOf, cellsM, apartOf, apartM, and_true] at C
              have H9 := HS.less (L' := [.blk b2 #[.int .i64 s0, .int .i64 s1, .int .i64 s2, .int .i64 s3, .int .i64 s4, .int .i64 s5, .int .i64 kd, .int .i64 dt, .int .i64 ck, .int .i64 fx, .slice na qs2.length nc, .slice ya2 yn2 yc2] 34, .blk b3 #[.int .i64 k, .int .i64 p0, .int .i64 p1, .int .i64 p2, .int .i64 p3, .int .i64 p4, .int .i64 p5, .int .i64 cN, .int .u8 ms, .int .u8 vl, .bool false] 38, .blk b4 #[.int .i64 0, .int .i64 0, .int .i64 0, .int .i64 0, .int .i64 0, .int .i64 0, .int .i64 0, .int .i64 0, .int .i64 0, .int .i64 0, .slice none 0 0, .slice none 0 0] 34, .row (.slice (some ⟨gl, 0, none⟩) L.length lc) 3 1 L.length (L.map intV), .any F2 (fun w => CwLie w ⟨na, qs2.length, nc⟩ qs2 ∧ CfAt w ⟨ya2, yn2, yc2⟩ fs)]) H (by repeat (first | exact .slnil | refine .cons_cons _ ?_ | refine .cons _ ?_))
              clear H C
              have H := H9
              clear H9
              try clear C
              try simp only [World.size_alloc, List.nil_append, List.cons_append, List.append_assoc] at H
              have C := H.cells
              try simp only [cellsOf, cellsM, apartOf, apartM, and_true] at C
              go_wp2_with fail
              go_roundw
              case rel => exact ⟨j + 1, na, nc, ya2, yn2, yc2, qs2, F2, _, by go_num, HLT.out, HQ2, (show Hid _ from fun w' _ h => h), H⟩
              case measure => simp [intOf]; have := HLT.out; omega
          · obtain rfl : j = L.length := by omega
            have HGJ := Lib.hid (HGW.out.flip cN ms L HLL.out)
            have HQE := Lib.hid (show qs.map Prod.fst = flipL N cN ms L ws by have := HQ.out; rwa [List.take_length] at this)
            have HSMJ := Lib.hid (show SmallM ⟨s0, s1, s2, s3, s4, s5, kd, dt, ck, fx, flipL N cN ms L ws, fs⟩ from ⟨Nat.le_trans HGJ.out.len_le HSZ.out, HFS.out, fun m hm => by rw [HGJ.out.len m hm]; exact Nat.le_trans HN4.out (by decide)⟩)
            have HC2 := Lib.hid (fun wx hx => (show Calls Tryd.prog 70 #[.agg #[.int .i64 s0, .int .i64 s1, .int .i64 s2, .int .i64 s3, .int .i64 s4, .int .i64 s5, .int .i64 kd, .int .i64 dt, .int .i64 ck, .int .i64 fx, .slice pa qs.length pc, .slice ra rn rc]] wx _ from r13copyR_any ⟨s0, s1, s2, s3, s4, s5, kd, dt, ck, fx, flipL N cN ms L ws, fs⟩ ⟨pa, qs.length, pc⟩ ⟨ra, rn, rc⟩ HSMJ.out wx hx))
            clear hlt hj
            skip
            have HMJ := Lib.hid (meAt_of (m := ⟨s0, s1, s2, s3, s4, s5, kd, dt, ck, fx, flipL N cN ms L ws, fs⟩) HQE.out (HKI.out wr H.done (H.says 4 rfl)))
            go_wp2_with fail
            refine (HC2.out _ HMJ.out).mono ?_
            rintro _ w71 ⟨pa9, pc9, ra9, rc9, qs9, Fm9, hqm, rfl, K0⟩
            replace H := H.join K0 (fun X hX => by
              rcases List.mem_cons.1 hX with rfl | hX
              · rfl
              · exact two_lowJ rfl rfl X hX)
            clear K0
            try simp only [List.nil_append, List.cons_append] at H
            skip
            try clear C
            try simp only [World.size_alloc, List.nil_append, List.cons_append, List.append_assoc] at H
            have C := H.cells
            try simp only [cellsOf, cellsM, apartOf, apartM, and_true] at C
            try dsimp only at hqm
            try dsimp only at H
            try dsimp only [meV, setWs]
            go_upto_region 30 with fail
            generalize hwb : (((((((((((w71.setCell _ _).setCell _ _).setCell _ _).setCell _ _).setCell _ _).setCell _ _).setCell _ _).setCell _ _).setCell _ _).setCell _ _).setCell _ _).setCell _ _ = w9
            replace H := HS.eqW hwb (H.putAll (i := 2) rfl (vs := [.int .i64 s0, .int .i64 s1, .int .i64 s2, .int .i64 s3, .int .i64 s4, .int .i64 s5, .int .i64 kd, .int .i64 dt, .int .i64 ck, .int .i64 fx, .slice pa9 qs9.length pc9, .slice ra9 fs.length rc9]) rfl rfl)
            simp only [List.nil_append, List.cons_append, List.append_assoc, List.set_cons_succ, List.set_cons_zero] at H
            clear hwb
            try clear C
            try clear w71
            have C := H.cells
            try simp only [cellsOf, cellsM, apartOf, apartM, and_true] at C
            refine bodyPost_ret (by simp [results, Tryd.results39, go_sem, C]; try rfl) rfl ?_
            exact ⟨pa9, pc9, ra9, rc9, qs9, Fm9, hqm, rfl, HS.less H (by repeat (first | exact .slnil | refine .cons_cons _ ?_ | refine .cons _ ?_))⟩
      | true =>
        obtain ⟨o9, ho9⟩ : ∃ o, o = injF M f := ⟨_, rfl⟩
        rw [← ho9]
        have HI8 := Lib.hid (show f ∈ M.fs → o9 = (M, 8) from fun hm => by rw [ho9]; unfold injF; rw [hg, if_pos rfl, hvf, if_pos rfl, hhd, if_pos rfl, if_pos hm])
        have HI16 := Lib.hid (show f ∉ M.fs → M.fs.length = 64 → o9 = (M, 16) from fun hm h6 => by rw [ho9]; unfold injF; rw [hg, if_pos rfl, hvf, if_pos rfl, hhd, if_pos rfl, if_neg hm, if_pos h6])
        have HI0 := Lib.hid (show f ∉ M.fs → ¬ M.fs.length = 64 → o9 = (setFs M (M.fs ++ [f]), 0) from fun hm h6 => by rw [ho9]; unfold injF; rw [hg, if_pos rfl, hvf, if_pos rfl, hhd, if_pos rfl, if_neg hm, if_neg h6])
        have HFL := Lib.hid HGM.out.fl
        have hn2 := HME.out.2.1
        have HL2 := Lib.hid HME.out.2.2.2
        clear hg hvf HGM hrg hN hz HSS ho9 HCHN
        generalize (M.dt + M.ck).toNat = N at HCH HVF
        obtain ⟨s0, s1, s2, s3, s4, s5, kd, dt, ck, fx, ws, fs⟩ := M
        obtain ⟨xa0, xn0, xc0⟩ := x
        obtain ⟨ya0, yn0, yc0⟩ := y
        dsimp only at hn2
        subst hn2
        obtain ⟨k, p0, p1, p2, p3, p4, p5, ch, ms, vl, hd⟩ := f
        replace hhd : hd = true := hhd
        subst hhd
        replace HV := Lib.hid (fun wx hx => (show Calls Tryd.prog 64 #[.agg #[.int .i64 s0, .int .i64 s1, .int .i64 s2, .int .i64 s3, .int .i64 s4, .int .i64 s5, .int .i64 kd, .int .i64 dt, .int .i64 ck, .int .i64 fx, .slice xa0 xn0 xc0, .slice ya0 fs.length yc0]] wx _ from HV.out wx hx))
        replace HCPY := Lib.hid (fun wx hx => (show Calls Tryd.prog 70 #[.agg #[.int .i64 s0, .int .i64 s1, .int .i64 s2, .int .i64 s3, .int .i64 s4, .int .i64 s5, .int .i64 kd, .int .i64 dt, .int .i64 ck, .int .i64 fx, .slice xa0 xn0 xc0, .slice ya0 fs.length yc0]] wx _ from HCPY.out wx hx))
        replace HCPR := Lib.hid (fun wx hx => (show Calls Tryd.prog 70 #[.agg #[.int .i64 s0, .int .i64 s1, .int .i64 s2, .int .i64 s3, .int .i64 s4, .int .i64 s5, .int .i64 kd, .int .i64 dt, .int .i64 ck, .int .i64 fx, .slice xa0 xn0 xc0, .slice ya0 fs.length yc0]] wx _ from HCPR.out wx hx))
        show Calls Tryd.prog 39 #[.agg #[.int .i64 s0, .int .i64 s1, .int .i64 s2, .int .i64 s3, .int .i64 s4, .int .i64 s5, .int .i64 kd, .int .i64 dt, .int .i64 ck, .int .i64 fx, .slice xa0 xn0 xc0, .slice ya0 fs.length yc0], .agg #[.int .i64 k, .int .i64 p0, .int .i64 p1, .int .i64 p2, .int .i64 p3, .int .i64 p4, .int .i64 p5, .int .i64 ch, .int .u8 ms, .int .u8 vl, .bool true]] w _
        go_enter Tryd.func39, Tryd.ntmps39
        have H := HS.start NoD w
        go_upto_region 1 with fail
        generalize hwb : ((w.alloc _).alloc _).alloc _ = w1
        replace H := HS.eqW hwb H.alloc.alloc.alloc
        try simp only [World.size_alloc, List.nil_append, List.cons_append, List.append_assoc] at H
        clear hwb
        generalize w.heap.size + 2 = b4 at H ⊢
        generalize w.heap.size + 1 = b3 at H ⊢
        generalize w.heap.size = b2 at H ⊢
        try clear C
        have C := H.cells
        try simp only [cellsOf, cellsM, apartOf, apartM, and_true] at C
        go_wp2_with fail
        refine (HV.out _ (HME.out.up H.done)).mono ?_
        rintro _ w2 ⟨rfl, hb⟩
        replace H := H.below hb
        clear hb
        try clear C
        try simp only [World.size_alloc, List.nil_append, List.cons_append, List.append_assoc] at H
        try clear w1
        have C := H.cells
        try simp only [cellsOf, cellsM, apartOf, apartM, and_true] at C
        dsimp only
        clear HV
        go_upto_region 3 with fail
        refine wp_region_xH (by kernel_rfl) (by kernel_rfl) (by kernel_rfl) (by kernel_rfl) (fun _ => False) (H) ?_
        clear H; intro w3 H hz0 hs0
        try clear C
        try simp only [World.size_alloc, List.nil_append, List.cons_append, List.append_assoc] at H hz0
        clear hz0
        try clear w2
        have C := H.cells
        try simp only [cellsOf, cellsM, apartOf, apartM, and_true] at C
        have Z := H.zs
        try simp only [ltsOf, ltsM, and_true] at Z
        have hz0 := Nat.le_refl w3.heap.size
        repeat (first | (refine wpX_skip rfl ?_; go_simp) | (refine wpX_free rfl rfl rfl (fun K hK => ?_); go_step; refine hK _ _ ?_; clear hK K) | (refine wpX_load rfl rfl rfl (by simp [Stay, OneD, NoD, *]) hs0 (by simp [*]) (fun K hK => ?_); go_step; refine hK _ _ ?_; clear hK K))
        refine wpX_eff rfl rfl (fun _ _ => ?_)
        go_step
        refine (HCH.out _).mono ?_
        rintro _ w4 ⟨rfl, hb⟩
        replace hs0 := hs0.belowS hz0 hb
        replace hz0 := Nat.le_trans hz0 hb.size
        replace H := H.below hb
        clear hb
        try clear C
        have C := H.cells
        try simp only [cellsOf, cellsM, apartOf, apartM, and_true] at C
        try clear w3
        dsimp only
        go_step
        refine ⟨hs0, ?_⟩
        repeat (first | (refine wpX_skip rfl ?_; go_simp) | (refine wpX_free rfl rfl rfl (fun K hK => ?_); go_step; refine hK _ _ ?_; clear hK K) | (refine wpX_load rfl rfl rfl (by simp [Stay, OneD, NoD, *]) hs0 (by simp [*]) (fun K hK => ?_); go_step; refine hK _ _ ?_; clear hK K))
        refine wpX_eff rfl rfl (fun _ _ => ?_)
        go_step
        refine (HVF.out _).mono ?_
        rintro _ w5 ⟨rfl, hb⟩
        replace hs0 := hs0.belowS hz0 hb
        replace hz0 := Nat.le_trans hz0 hb.size
        replace H := H.below hb
        clear hb
        try clear C
        have C := H.cells
        try simp only [cellsOf, cellsM, apartOf, apartM, and_true] at C
        try clear w4
        dsimp only
        go_step
        refine ⟨hs0, ?_⟩
        repeat (first | (refine wpX_skip rfl ?_; go_simp) | (refine wpX_free rfl rfl rfl (fun K hK => ?_); go_step; refine hK _ _ ?_; clear hK K) | (refine wpX_load rfl rfl rfl (by simp [Stay, OneD, NoD, *]) hs0 (by simp [*]) (fun K hK => ?_); go_step; refine hK _ _ ?_; clear hK K))
        (refine wpX_nil ?_; go_step)
        clear HCH HVF
        go_wp2_with fail
        go_loopw [9] (fun iv wr => ∃ (j : Nat), iv = .int .i64 j ∧ j ≤ fs.length ∧ Hid (∀ i, i < j → fs[i]! ≠ ⟨k, p0, p1, p2, p3, p4, p5, ch, ms, vl, true⟩) ∧ HS NoD w [.blk b2 #[.int .i64 s0, .int .i64 s1, .int .i64 s2, .int .i64 s3, .int .i64 s4, .int .i64 s5, .int .i64 kd, .int .i64 dt, .int .i64 ck, .int .i64 fx, .slice xa0 xn0 xc0, .slice ya0 fs.length yc0] 34, .blk b3 #[.int .i64 k, .int .i64 p0, .int .i64 p1, .int .i64 p2, .int .i64 p3, .int .i64 p4, .int .i64 p5, .int .i64 ch, .int .u8 ms, .int .u8 vl, .bool true] 38, .blk b4 #[.int .i64 0, .int .i64 0, .int .i64 0, .int .i64 0, .int .i64 0, .int .i64 0, .int .i64 0, .int .i64 0, .int .i64 0, .int .i64 0, .slice none 0 0, .slice none 0 0] 34] wr) (fun iv _ => fs.length - (intOf iv).toNat)
        case atStart => exact ⟨0, rfl, Nat.zero_le _, (show Hid _ from fun i hi => absurd hi (Nat.not_lt_zero _)), H⟩
        case round =>
          clear H C
          obtain ⟨j, rfl, hj, HF, H⟩ := hrel
          skip
          try clear C
          try simp only [World.size_alloc, List.nil_append, List.cons_append, List.append_assoc] at H
          have C := H.cells
          try simp only [cellsOf, cellsM, apartOf, apartM, and_true] at C
          have hf64 : fs.length ≤ 64 := HFL.out
          by_cases hlt : j < fs.length
          · have HJ := Lib.hid hlt
            have hji : (j : Int) < fs.length := by omega
            obtain ⟨b, o, rfl, hb, -⟩ := (H.liesUp HL2.out).at hlt
            have HLF := Lib.hid (fun (wx : World) (hx : Lies wx wx.heap.size (some ⟨b, o, none⟩) 11 fs.length (fun j => cfC fs[j]!)) => show (∀ i v, (cfC fs[j]!)[i]? = some v → wx.cell? ⟨b, o + j * 11 + i, none⟩ = some v) ∧ b < wx.heap.size from by
              obtain ⟨b9, o9, e9, hb9, h9⟩ := hx.at hlt
              cases e9
              exact ⟨h9, hb9⟩)
            have HMF := Lib.hid (fa_mem hlt)
            obtain ⟨g, hg⟩ : ∃ g, g = fs[j]! := ⟨_, rfl⟩
            have HG := Lib.hid hg
            rw [← hg] at HLF HMF
            clear hg hb
            have heq := fun w => eqlF g ⟨k, p0, p1, p2, p3, p4, p5, ch, ms, vl, true⟩ w
            skip
            by_cases hfg : g = (⟨k, p0, p1, p2, p3, p4, p5, ch, ms, vl, true⟩ : Fa)
            · obtain rfl : o9 = ((⟨s0, s1, s2, s3, s4, s5, kd, dt, ck, fx, ws, fs⟩ : Mm), 8) := HI8.out (by rw [← hfg]; exact HMF.out)
              rw [decide_eq_true hfg] at heq
              clear hfg HG HMF HI8 HI16 HI0
              obtain ⟨k', p0', p1', p2', p3', p4', p5', ch', ms', vl', hd'⟩ := g
              simp only [cfC] at heq
              go_upto_region 17 with fail
              refine wp_region_xH (by kernel_rfl) (by kernel_rfl) (by kernel_rfl) (by kernel_rfl) (fun _ => False) (H) ?_
              clear H; intro w6 H hz0 hs0
              try clear C
              try simp only [World.size_alloc, List.nil_append, List.cons_append, List.append_assoc] at H hz0
              clear hz0
              try clear wr
              have C := H.cells
              try simp only [cellsOf, cellsM, apartOf, apartM, and_true] at C
              have Z := H.zs
              try simp only [ltsOf, ltsM, and_true] at Z
              have hz0 := Nat.le_refl w6.heap.size
              obtain ⟨hcq, hbq⟩ := HLF.out _ (H.liesUp HL2.out)
              have c0 : w6.cell? ⟨b, o + j * 11, none⟩ = some (.int .i64 k') := hcq 0 _ rfl
              have c1 : w6.cell? ⟨b, o + j * 11 + 1, none⟩ = some (.int .i64 p0') := hcq 1 _ rfl
              have c2 : w6.cell? ⟨b, o + j * 11 + 2, none⟩ = some (.int .i64 p1') := hcq 2 _ rfl
              have c3 : w6.cell? ⟨b, o + j * 11 + 3, none⟩ = some (.int .i64 p2') := hcq 3 _ rfl
              have c4 : w6.cell? ⟨b, o + j * 11 + 4, none⟩ = some (.int .i64 p3') := hcq 4 _ rfl
              have c5 : w6.cell? ⟨b, o + j * 11 + 5, none⟩ = some (.int .i64 p4') := hcq 5 _ rfl
              have c6 : w6.cell? ⟨b, o + j * 11 + 6, none⟩ = some (.int .i64 p5') := hcq 6 _ rfl
              have c7 : w6.cell? ⟨b, o + j * 11 + 7, none⟩ = some (.int .i64 ch') := hcq 7 _ rfl
              have c8 : w6.cell? ⟨b, o + j * 11 + 8, none⟩ = some (.int .u8 ms') := hcq 8 _ rfl
              have c9 : w6.cell? ⟨b, o + j * 11 + 9, none⟩ = some (.int .u8 vl') := hcq 9 _ rfl
              have c10 : w6.cell? ⟨b, o + j * 11 + 10, none⟩ = some (.bool hd') := hcq 10 _ rfl
              clear hcq
              repeat (first | (refine wpX_skip rfl ?_; go_simp) | (refine wpX_free rfl rfl rfl (fun K hK => ?_); go_step; refine hK _ _ ?_; clear hK K) | (refine wpX_load rfl rfl rfl (by simp [Stay, OneD, NoD, *]) hs0 (by simp [*]) (fun K hK => ?_); go_step; refine hK _ _ ?_; clear hK K))
              (refine wpX_yield rfl rfl ((.bool true)) (fun w hw => by go_simp) ?_; go_simp)
              repeat (first | (refine wpX_skip rfl ?_; go_simp) | (refine wpX_free rfl rfl rfl (fun K hK => ?_); go_step; refine hK _ _ ?_; clear hK K) | (refine wpX_load rfl rfl rfl (by simp [Stay, OneD, NoD, *]) hs0 (by simp [*]) (fun K hK => ?_); go_step; refine hK _ _ ?_; clear hK K))
              (refine wpX_nil ?_; go_step)
              go_wp2_with fail
              refine (HCPY.out _ (HME.out.up H.done)).mono ?_
              rintro _ w73 ⟨pa, pc, ra, rc, qs, Fm, hqm, rfl, K0⟩
              replace H := H.join K0 (fun X hX => by
                rcases List.mem_cons.1 hX with rfl | hX
                · rfl
                · exact two_lowJ rfl rfl X hX)
              clear K0
              try simp only [List.nil_append, List.cons_append] at H
              skip
              try clear C
              try simp only [World.size_alloc, List.nil_append, List.cons_append, List.append_assoc] at H
              have C := H.cells
              try simp only [cellsOf, cellsM, apartOf, apartM, and_true] at C
              try dsimp only at hqm
              try dsimp only at H
              try dsimp only [meV, setWs]
              go_upto_region 30 with fail
              generalize hwb : (((((((((((w73.setCell _ _).setCell _ _).setCell _ _).setCell _ _).setCell _ _).setCell _ _).setCell _ _).setCell _ _).setCell _ _).setCell _ _).setCell _ _).setCell _ _ = w7
              replace H := HS.eqW hwb (H.putAll (i := 2) rfl (vs := [.int .i64 s0, .int .i64 s1, .int .i64 s2, .int .i64 s3, .int .i64 s4, .int .i64 s5, .int .i64 kd, .int .i64 dt, .int .i64 ck, .int .i64 fx, .slice pa qs.length pc, .slice ra fs.length rc]) rfl rfl)
              simp only [List.nil_append, List.cons_append, List.append_assoc, List.set_cons_succ, List.set_cons_zero] at H
              clear hwb
              try clear C
              try clear w73
              have C := H.cells
              try simp only [cellsOf, cellsM, apartOf, apartM, and_true] at C
              refine bodyPost_ret (by simp [results, Tryd.results39, go_sem, C]; try rfl) rfl ?_
              exact ⟨pa, pc, ra, rc, qs, Fm, hqm, rfl, HS.less H (by repeat (first | exact .slnil | refine .cons_cons _ ?_ | refine .cons _ ?_))⟩
            · rw [decide_eq_false hfg] at heq
              have HNE := Lib.hid (show fs[j]! ≠ ⟨k, p0, p1, p2, p3, p4, p5, ch, ms, vl, true⟩ from fun e => hfg (by rw [HG.out, e]))
              clear hfg HG HMF
              obtain ⟨k', p0', p1', p2', p3', p4', p5', ch', ms', vl', hd'⟩ := g
              simp only [cfC] at heq
              skip
              go_upto_region 17 with fail
              refine wp_region_xH (by kernel_rfl) (by kernel_rfl) (by kernel_rfl) (by kernel_rfl) (fun _ => False) (H) ?_
              clear H; intro w8 H hz0 hs0
              try clear C
              try simp only [World.size_alloc, List.nil_append, List.cons_append, List.append_assoc] at H hz0
              clear hz0
              try clear wr
              have C := H.cells
              try simp only [cellsOf, cellsM, apartOf, apartM, and_true] at C
              have Z := H.zs
              try simp only [ltsOf, ltsM, and_true] at Z
              have hz0 := Nat.le_refl w8.heap.size
              obtain ⟨hcq, hbq⟩ := HLF.out _ (H.liesUp HL2.out)
              have c0 : w8.cell? ⟨b, o + j * 11, none⟩ = some (.int .i64 k') := hcq 0 _ rfl
              have c1 : w8.cell? ⟨b, o + j * 11 + 1, none⟩ = some (.int .i64 p0') := hcq 1 _ rfl
              have c2 : w8.cell? ⟨b, o + j * 11 + 2, none⟩ = some (.int .i64 p1') := hcq 2 _ rfl
              have c3 : w8.cell? ⟨b, o + j * 11 + 3, none⟩ = some (.int .i64 p2') := hcq 3 _ rfl
              have c4 : w8.cell? ⟨b, o + j * 11 + 4, none⟩ = some (.int .i64 p3') := hcq 4 _ rfl
              have c5 : w8.cell? ⟨b, o + j * 11 + 5, none⟩ = some (.int .i64 p4') := hcq 5 _ rfl
              have c6 : w8.cell? ⟨b, o + j * 11 + 6, none⟩ = some (.int .i64 p5') := hcq 6 _ rfl
              have c7 : w8.cell? ⟨b, o + j * 11 + 7, none⟩ = some (.int .i64 ch') := hcq 7 _ rfl
              have c8 : w8.cell? ⟨b, o + j * 11 + 8, none⟩ = some (.int .u8 ms') := hcq 8 _ rfl
              have c9 : w8.cell? ⟨b, o + j * 11 + 9, none⟩ = some (.int .u8 vl') := hcq 9 _ rfl
              have c10 : w8.cell? ⟨b, o + j * 11 + 10, none⟩ = some (.bool hd') := hcq 10 _ rfl
              clear hcq
              repeat (first | (refine wpX_skip rfl ?_; go_simp) | (refine wpX_free rfl rfl rfl (fun K hK => ?_); go_step; refine hK _ _ ?_; clear hK K) | (refine wpX_load rfl rfl rfl (by simp [Stay, OneD, NoD, *]) hs0 (by simp [*]) (fun K hK => ?_); go_step; refine hK _ _ ?_; clear hK K))
              (refine wpX_yield rfl rfl ((.bool false)) (fun w hw => by go_simp) ?_; go_simp)
              repeat (first | (refine wpX_skip rfl ?_; go_simp) | (refine wpX_free rfl rfl rfl (fun K hK => ?_); go_step; refine hK _ _ ?_; clear hK K) | (refine wpX_load rfl rfl rfl (by simp [Stay, OneD, NoD, *]) hs0 (by simp [*]) (fun K hK => ?_); go_step; refine hK _ _ ?_; clear hK K))
              (refine wpX_nil ?_; go_step)
              go_wp2_with fail
              go_roundw
              case rel =>
                refine ⟨j + 1, by go_num, HJ.out, (show Hid _ from fun i hi => ?_), H⟩
                by_cases e : i = j
                · subst e; exact HNE.out
                · exact HF.out i (by omega)
              case measure => simp [intOf]; have := HJ.out; omega
          · obtain rfl : j = fs.length := by omega
            have HNM := Lib.hid (show ¬ (⟨k, p0, p1, p2, p3, p4, p5, ch, ms, vl, true⟩ : Fa) ∈ fs from fun hm => by
              obtain ⟨i, hi, e⟩ := mem_fa hm
              exact HF.out i hi e)
            skip
            go_upto_region 19 with fail
            have hf64 : fs.length ≤ 64 := HFL.out
            skip
            by_cases h6 : fs.length = 64
            · obtain rfl : o9 = ((⟨s0, s1, s2, s3, s4, s5, kd, dt, ck, fx, ws, fs⟩ : Mm), 16) := HI16.out HNM.out h6
              have h6i : (fs.length : Int) = 64 := by omega
              have h6b : ((fs.length : Int) == 64) = true := beq_iff_eq.2 h6i
              have h6d : decide ((fs.length : Int) = 64) = true := decide_eq_true h6i
              clear HI8 HI16 HI0 h6 h6i
              go_wp2_with fail
              refine (HCPY.out _ (HME.out.up H.done)).mono ?_
              rintro _ w72 ⟨pa, pc, ra, rc, qs, Fm, hqm, rfl, K0⟩
              replace H := H.join K0 (fun X hX => by
                rcases List.mem_cons.1 hX with rfl | hX
                · rfl
                · exact two_lowJ rfl rfl X hX)
              clear K0
              try simp only [List.nil_append, List.cons_append] at H
              skip
              try clear C
              try simp only [World.size_alloc, List.nil_append, List.cons_append, List.append_assoc] at H
              have C := H.cells
              try simp only [cellsOf, cellsM, apartOf, apartM, and_true] at C
              try dsimp only at hqm
              try dsimp only at H
              try dsimp only [meV, setWs]
              go_upto_region 30 with fail
              generalize hwb : (((((((((((w72.setCell _ _).setCell _ _).setCell _ _).setCell _ _).setCell _ _).setCell _ _).setCell _ _).setCell _ _).setCell _ _).setCell _ _).setCell _ _).setCell _ _ = w9
              replace H := HS.eqW hwb (H.putAll (i := 2) rfl (vs := [.int .i64 s0, .int .i64 s1, .int .i64 s2, .int .i64 s3, .int .i64 s4, .int .i64 s5, .int .i64 kd, .int .i64 dt, .int .i64 ck, .int .i64 fx, .slice pa qs.length pc, .slice ra fs.length rc]) rfl rfl)
              simp only [List.nil_append, List.cons_append, List.append_assoc, List.set_cons_succ, List.set_cons_zero] at H
              clear hwb
              try clear C
              try clear w72
              have C := H.cells
              try simp only [cellsOf, cellsM, apartOf, apartM, and_true] at C
              refine bodyPost_ret (by simp [results, Tryd.results39, go_sem, C]; try rfl) rfl ?_
              exact ⟨pa, pc, ra, rc, qs, Fm, hqm, rfl, HS.less H (by repeat (first | exact .slnil | refine .cons_cons _ ?_ | refine .cons _ ?_))⟩
            · obtain rfl : o9 = (setFs (⟨s0, s1, s2, s3, s4, s5, kd, dt, ck, fx, ws, fs⟩ : Mm) (fs ++ [⟨k, p0, p1, p2, p3, p4, p5, ch, ms, vl, true⟩]), 0) := HI0.out HNM.out h6
              have h6i : ¬ (fs.length : Int) = 64 := by omega
              have h6b : ((fs.length : Int) == 64) = false := beq_eq_false_iff_ne.2 h6i
              clear HI8 HI16 HI0
              skip
              go_upto_region 21 with fail
              clear h6 h6i h6b
              go_wp2_with fail
              refine (HCPR.out _ (HME.out.up H.done)).mono ?_
              rintro _ w71 ⟨sW, cW, sF, cF, qs9, Fm9, hqm, rfl, K0⟩
              replace H := H.join K0 (fun X hX => by
                rcases List.mem_cons.1 hX with rfl | hX
                · rfl
                · exact two_low rfl rfl X hX)
              clear K0
              try simp only [List.nil_append, List.cons_append] at H
              skip
              try clear C
              try simp only [World.size_alloc, List.nil_append, List.cons_append, List.append_assoc] at H
              have C := H.cells
              try simp only [cellsOf, cellsM, apartOf, apartM, and_true] at C
              try dsimp only at hqm
              try dsimp only [meV] at H ⊢
              try dsimp only [meV]
              go_upto_region 22 with fail
              generalize hwb : (((((((((((w71.setCell _ _).setCell _ _).setCell _ _).setCell _ _).setCell _ _).setCell _ _).setCell _ _).setCell _ _).setCell _ _).setCell _ _).setCell _ _).setCell _ _ = w10
              replace H := HS.eqW hwb (H.putAll (i := 0) rfl (vs := [.int .i64 s0, .int .i64 s1, .int .i64 s2, .int .i64 s3, .int .i64 s4, .int .i64 s5, .int .i64 kd, .int .i64 dt, .int .i64 ck, .int .i64 fx, .slice sW qs9.length cW, .slice sF fs.length cF]) rfl rfl)
              simp only [List.nil_append, List.cons_append, List.append_assoc, List.set_cons_succ, List.set_cons_zero] at H
              clear hwb
              try clear C
              try clear w71
              have C := H.cells
              try simp only [cellsOf, cellsM, apartOf, apartM, and_true] at C
              iterate 13 go_step
              generalize hwb : World.alloc _ _ = w70
              replace H := HS.eqW hwb H.alloc
              clear hwb C
              simp only [List.nil_append, List.cons_append] at H
              refine wpList_append_H rfl (.tmp 84) (.tmp 86) 32 rfl elemCf H 5 rfl rfl 6 rfl rfl rfl rfl (by decide) (by unfold maxLen; omega) (by omega) (fun gz9 cz9 w72 HZ => ?_)
              clear H
              simp only [List.set_cons_succ, List.set_cons_zero, List.nil_append, List.cons_append, List.append_assoc] at HZ
              have C := HZ.cells
              simp only [cellsOf, cellsM, apartOf, apartM, and_true] at C
              go_upto_region 23 with fail
              generalize hwb : World.setCell _ _ _ = w73
              have H := HS.eqW hwb (HZ.setTo (o := 11) (v := .slice (some ⟨gz9, 0, none⟩) (fs.length + 1) cz9) 0 rfl rfl)
              clear hwb HZ C
              simp only [List.set_cons_succ, List.set_cons_zero] at H
              skip
              try clear C
              try simp only [World.size_alloc, List.nil_append, List.cons_append, List.append_assoc] at H
              have C := H.cells
              try simp only [cellsOf, cellsM, apartOf, apartM, and_true] at C
              go_wp2_with fail
              generalize hwb : (((((((((((w73.setCell _ _).setCell _ _).setCell _ _).setCell _ _).setCell _ _).setCell _ _).setCell _ _).setCell _ _).setCell _ _).setCell _ _).setCell _ _).setCell _ _ = w11
              replace H := HS.eqW hwb (H.putAll (i := 2) rfl (vs := [.int .i64 s0, .int .i64 s1, .int .i64 s2, .int .i64 s3, .int .i64 s4, .int .i64 s5, .int .i64 kd, .int .i64 dt, .int .i64 ck, .int .i64 fx, .slice sW qs9.length cW, .slice (some ⟨gz9, 0, none⟩) (fs.length + 1) cz9]) rfl rfl)
              simp only [List.nil_append, List.cons_append, List.append_assoc, List.set_cons_succ, List.set_cons_zero] at H
              clear hwb
              try clear C
              try clear w73
              have C := H.cells
              try simp only [cellsOf, cellsM, apartOf, apartM, and_true] at C
              refine bodyPost_ret (by simp [results, Tryd.results39, go_sem, C]; try rfl) rfl ?_
              have H9 := HS.less (L' := [rowCw sW qs9.length cW qs9, anyCw Fm9 qs9, rowCf (some ⟨gz9, 0, none⟩) (fs.length + 1) cz9 (fs ++ [⟨k, p0, p1, p2, p3, p4, p5, ch, ms, vl, true⟩])]) H (by
                dsimp only [rowCf]
                rw [List.flatMap_append]
                repeat (first | exact .slnil | refine .cons_cons _ ?_ | refine .cons _ ?_))
              refine ⟨sW, cW, some ⟨gz9, 0, none⟩, cz9, qs9, Fm9, hqm, ?_, ?_⟩
              · show _ = Ending.returned (.tuple #[meV _ _ ⟨_, (fs ++ [(⟨k, p0, p1, p2, p3, p4, p5, ch, ms, vl, true⟩ : Fa)]).length, _⟩, _])
                rw [List.length_append]; rfl
              · show HS NoD w [_, _, rowCf _ (fs ++ [(⟨k, p0, p1, p2, p3, p4, p5, ch, ms, vl, true⟩ : Fa)]).length _ (fs ++ [(⟨k, p0, p1, p2, p3, p4, p5, ch, ms, vl, true⟩ : Fa)])] _
                rw [List.length_append]; exact H9
theorem r13inject_any (M : Mm) (x y : Sv) (hs : SmallM M) (hz : szM M ≤ 256) (f : Fa) (w : World) (h : MeAt w x y M) : Calls Tryd.prog 39 #[meV M x y, cfV f] w (GivesMeE (injF M f).1 (injF M f).2 w) := (r13injectR_any M x y hs hz f w h).mono fun _ _ h => h.me
end Go.Proofs.YtplflpmkomeadaaDoor
