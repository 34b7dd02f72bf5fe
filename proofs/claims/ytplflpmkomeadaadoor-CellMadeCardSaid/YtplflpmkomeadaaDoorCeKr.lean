/- ref13.Store: what it hands back as rows of one's own. -/
import Derived.Test.YtplflpmkomeadaaDoorCeJr
import Derived.Test.YtplflpmkomeadaaDoorCeK
namespace Go.Proofs.YtplflpmkomeadaaDoor
set_option linter.unusedSimpArgs false
set_option linter.unusedVariables false
open Go.RowKit
set_option maxRecDepth 100000
attribute [local irreducible] wpX wpF Calls

def GivesMeRE (m : Mm) (er : Int) (w : World) (e : Ending) (w' : World) : Prop := ∃ (s : Option Addr) (c : Nat) (t : Option Addr) (d : Nat) (qs : List (Wm × Sv)) (F : Nat → Prop), qs.map Prod.fst = m.ws ∧ e = .returned (.tuple #[meV m ⟨s, qs.length, c⟩ ⟨t, m.fs.length, d⟩, .int .i64 er]) ∧ HS NoD w [rowCw s qs.length c qs, anyCw F qs, rowCf t m.fs.length d m.fs] w'
set_option maxHeartbeats 8000000 in
theorem r13storeR_any (M : Mm) (x y : Sv) (hs : SmallM M) (m : Wm) (z : Sv) (hz : m.bs.length ≤ 140737488355328) (w : World) (h : MeAt w x y M) (hb : BytesAt w z m.bs) : Calls Tryd.prog 38 #[meV M x y, cwV m z] w (GivesMeRE (storeF M m).1 (storeF M m).2 w) := by
  have HV := Lib.hid (fun wx hx => rv13_any M x y hs.long wx hx)
  have HCPY := Lib.hid (fun wx hx => r13copyR_any M x y hs wx hx)
  have HPUT := Lib.hid (fun (hz : m.bs.length ≤ 1000) hso wx hx h1 => put13R_any M x y hs hso m z hz wx hx h1)
  have HME := Lib.hid h
  have HBZ := Lib.hid hb
  clear h hb hs hz
  cases hg : goodB M with
  | false =>
    rw [hg] at HV
    have HE := Lib.hid (show storeF M m = (M, 1) from by unfold storeF; rw [hg]; rfl)
    rw [HE.out]
    clear HE
    clear hg
    obtain ⟨s0, s1, s2, s3, s4, s5, kd, dt, ck, fx, ws, fs⟩ := M
    obtain ⟨wi, bs, po⟩ := m
    obtain ⟨xa0, xn0, xc0⟩ := x
    obtain ⟨ya0, yn0, yc0⟩ := y
    obtain ⟨za, zn, zc⟩ := z
    obtain rfl : zn = bs.length := HBZ.out.len
    replace HV := Lib.hid (fun wx hx => (show Calls Tryd.prog 64 #[.agg #[.int .i64 s0, .int .i64 s1, .int .i64 s2, .int .i64 s3, .int .i64 s4, .int .i64 s5, .int .i64 kd, .int .i64 dt, .int .i64 ck, .int .i64 fx, .slice xa0 xn0 xc0, .slice ya0 yn0 yc0]] wx _ from HV.out wx hx))
    replace HCPY := Lib.hid (fun wx hx => (show Calls Tryd.prog 70 #[.agg #[.int .i64 s0, .int .i64 s1, .int .i64 s2, .int .i64 s3, .int .i64 s4, .int .i64 s5, .int .i64 kd, .int .i64 dt, .int .i64 ck, .int .i64 fx, .slice xa0 xn0 xc0, .slice ya0 yn0 yc0]] wx _ from HCPY.out wx hx))
    show Calls Tryd.prog 38 #[.agg #[.int .i64 s0, .int .i64 s1, .int .i64 s2, .int .i64 s3, .int .i64 s4, .int .i64 s5, .int .i64 kd, .int .i64 dt, .int .i64 ck, .int .i64 fx, .slice xa0 xn0 xc0, .slice ya0 yn0 yc0], .agg #[.int .i64 wi, .slice za bs.length zc, .bool po]] w _
    go_enter Tryd.func38, Tryd.ntmps38
    have H := HS.start NoD w
    go_upto_region 1 with fail
    generalize hwb : ((w.alloc _).alloc _).alloc _ = w1
    replace H := HS.eqW hwb H.alloc.alloc.alloc
    try simp only [World.size_alloc, List.nil_append, List.cons_append, List.append_assoc] at H
    clear hwb
    generalize w.heap.size + 2 = b4 at H ⊢
    generalize w.heap.size + 1 = b3 at H ⊢
    generalize w.heap.size = b2 at H ⊢
    try clear C
    have C := H.cells
    try simp only [cellsOf, cellsM, apartOf, apartM, and_true] at C
    go_wp2_with fail
    refine (HV.out _ (HME.out.up H.done)).mono ?_
    rintro _ w2 ⟨rfl, hb⟩
    replace H := H.below hb
    clear hb
    try clear C
    try simp only [World.size_alloc, List.nil_append, List.cons_append, List.append_assoc] at H
    try clear w1
    have C := H.cells
    try simp only [cellsOf, cellsM, apartOf, apartM, and_true] at C
    dsimp only
    clear HV
    go_wp2_with fail
    refine (HCPY.out _ (HME.out.up H.done)).mono ?_
    rintro _ w71 ⟨pa, pc, ra, rc, qs, Fm, hqm, rfl, K0⟩
    replace H := H.join K0 (fun X hX => by
      rcases List.mem_cons.1 hX with rfl | hX
      · rfl
      · exact two_lowJ rfl rfl X hX)
    clear K0
    try simp only [List.nil_append, List.cons_append] at H
    skip
    try clear C
    try simp only [World.size_alloc, List.nil_append, List.cons_append, List.append_assoc] at H
    have C := H.cells
    try simp only [cellsOf, cellsM, apartOf, apartM, and_true] at C
    try dsimp only at hqm
    try dsimp only at H
    try dsimp only [meV, setWs]
    go_upto_region 30 with fail
    generalize hwb : (((((((((((w71.setCell _ _).setCell _ _).setCell _ _).setCell _ _).setCell _ _).setCell _ _).setCell _ _).setCell _ _).setCell _ _).setCell _ _).setCell _ _).setCell _ _ = w3
    replace H := HS.eqW hwb (H.putAll (i := 2) rfl (vs := [.int .i64 s0, .int .i64 s1, .int .i64 s2, .int .i64 s3, .int .i64 s4, .int .i64 s5, .int .i64 kd, .int .i64 dt, .int .i64 ck, .int .i64 fx, .slice pa qs.length pc, .slice ra fs.length rc]) rfl rfl)
    simp only [List.nil_append, List.cons_append, List.append_assoc, List.set_cons_succ, List.set_cons_zero] at H
    clear hwb
    try clear C
    try clear w71
    have C := H.cells
    try simp only [cellsOf, cellsM, apartOf, apartM, and_true] at C
    refine bodyPost_ret (by simp [results, Tryd.results38, go_sem, C]; try rfl) rfl ?_
    exact ⟨pa, pc, ra, rc, qs, Fm, hqm, rfl, HS.less H (by repeat (first | exact .slnil | refine .cons_cons _ ?_ | refine .cons _ ?_))⟩
  | true =>
    rw [hg] at HV
    have HGM := Lib.hid (goodB_iff.1 hg)
    have HSZ := Lib.hid (fun w => (show Calls Tryd.prog 17 #[v6 M.s0 M.s1 M.s2 M.s3 M.s4 M.s5] w (Gives (.int .i64 (szM M : Nat)) w) from rsize_all M.s0 M.s1 M.s2 M.s3 M.s4 M.s5 w))
    have hrg := codeB_rng HGM.out.co
    have hN : M.dt + M.ck = ((M.dt + M.ck).toNat : Int) := by omega
    have HCH := Lib.hid (fun w => r13chips_any M.kd M.dt M.ck M.fx (by omega) (by omega) w)
    rw [hN] at HCH
    have HZ4 := Lib.hid (sizeN_le M.s0 M.s1 M.s2 M.s3 M.s4 M.s5)
    clear hrg hN
    by_cases hix : m.ix < 0
    · skip
      have HE := Lib.hid (show storeF M m = (M, 2) from by unfold storeF; rw [hg, if_pos rfl, if_neg (by omega)])
      rw [HE.out]
      clear HE
      clear hg HCH HSZ
      obtain ⟨s0, s1, s2, s3, s4, s5, kd, dt, ck, fx, ws, fs⟩ := M
      obtain ⟨wi, bs, po⟩ := m
      obtain ⟨xa0, xn0, xc0⟩ := x
      obtain ⟨ya0, yn0, yc0⟩ := y
      obtain ⟨za, zn, zc⟩ := z
      obtain rfl : zn = bs.length := HBZ.out.len
      replace hix : wi < 0 := hix
      replace HV := Lib.hid (fun wx hx => (show Calls Tryd.prog 64 #[.agg #[.int .i64 s0, .int .i64 s1, .int .i64 s2, .int .i64 s3, .int .i64 s4, .int .i64 s5, .int .i64 kd, .int .i64 dt, .int .i64 ck, .int .i64 fx, .slice xa0 xn0 xc0, .slice ya0 yn0 yc0]] wx _ from HV.out wx hx))
      replace HCPY := Lib.hid (fun wx hx => (show Calls Tryd.prog 70 #[.agg #[.int .i64 s0, .int .i64 s1, .int .i64 s2, .int .i64 s3, .int .i64 s4, .int .i64 s5, .int .i64 kd, .int .i64 dt, .int .i64 ck, .int .i64 fx, .slice xa0 xn0 xc0, .slice ya0 yn0 yc0]] wx _ from HCPY.out wx hx))
      show Calls Tryd.prog 38 #[.agg #[.int .i64 s0, .int .i64 s1, .int .i64 s2, .int .i64 s3, .int .i64 s4, .int .i64 s5, .int .i64 kd, .int .i64 dt, .int .i64 ck, .int .i64 fx, .slice xa0 xn0 xc0, .slice ya0 yn0 yc0], .agg #[.int .i64 wi, .slice za bs.length zc, .bool po]] w _
      go_enter Tryd.func38, Tryd.ntmps38
      have H := HS.start NoD w
      go_upto_region 1 with fail
      generalize hwb : ((w.alloc _).alloc _).alloc _ = w1
      replace H := HS.eqW hwb H.alloc.alloc.alloc
      try simp only [World.size_alloc, List.nil_append, List.cons_append, List.append_assoc] at H
      clear hwb
      generalize w.heap.size + 2 = b4 at H ⊢
      generalize w.heap.size + 1 = b3 at H ⊢
      generalize w.heap.size = b2 at H ⊢
      try clear C
      have C := H.cells
      try simp only [cellsOf, cellsM, apartOf, apartM, and_true] at C
      go_wp2_with fail
      refine (HV.out _ (HME.out.up H.done)).mono ?_
      rintro _ w2 ⟨rfl, hb⟩
      replace H := H.below hb
      clear hb
      try clear C
      try simp only [World.size_alloc, List.nil_append, List.cons_append, List.append_assoc] at H
      try clear w1
      have C := H.cells
      try simp only [cellsOf, cellsM, apartOf, apartM, and_true] at C
      dsimp only
      clear HV
      go_upto_region 3 with fail
      refine wp_region_xH (by kernel_rfl) (by kernel_rfl) (by kernel_rfl) (by kernel_rfl) (fun _ => False) (H) ?_
      clear H; intro w3 H hz0 hs0
      try clear C
      try simp only [World.size_alloc, List.nil_append, List.cons_append, List.append_assoc] at H hz0
      clear hz0
      try clear w2
      have C := H.cells
      try simp only [cellsOf, cellsM, apartOf, apartM, and_true] at C
      have Z := H.zs
      try simp only [ltsOf, ltsM, and_true] at Z
      have hz0 := Nat.le_refl w3.heap.size
      repeat (first | (refine wpX_skip rfl ?_; go_simp) | (refine wpX_free rfl rfl rfl (fun K hK => ?_); go_step; refine hK _ _ ?_; clear hK K) | (refine wpX_load rfl rfl rfl (by simp [Stay, OneD, NoD, *]) hs0 (by simp [*]) (fun K hK => ?_); go_step; refine hK _ _ ?_; clear hK K))
      (refine wpX_nil ?_; go_step)
      go_wp2_with fail
      refine (HCPY.out _ (HME.out.up H.done)).mono ?_
      rintro _ w72 ⟨pa, pc, ra, rc, qs, Fm, hqm, rfl, K0⟩
      replace H := H.join K0 (fun X hX => by
        rcases List.mem_cons.1 hX with rfl | hX
        · rfl
        · exact two_lowJ rfl rfl X hX)
      clear K0
      try simp only [List.nil_append, List.cons_append] at H
      skip
      try clear C
      try simp only [World.size_alloc, List.nil_append, List.cons_append, List.append_assoc] at H
      have C := H.cells
      try simp only [cellsOf, cellsM, apartOf, apartM, and_true] at C
      try dsimp only at hqm
      try dsimp only at H
      try dsimp only [meV, setWs]
      go_upto_region 30 with fail
      generalize hwb : (((((((((((w72.setCell _ _).setCell _ _).setCell _ _).setCell _ _).setCell _ _).setCell _ _).setCell _ _).setCell _ _).setCell _ _).setCell _ _).setCell _ _).setCell _ _ = w4
      replace H := HS.eqW hwb (H.putAll (i := 2) rfl (vs := [.int .i64 s0, .int .i64 s1, .int .i64 s2, .int .i64 s3, .int .i64 s4, .int .i64 s5, .int .i64 kd, .int .i64 dt, .int .i64 ck, .int .i64 fx, .slice pa qs.length pc, .slice ra fs.length rc]) rfl rfl)
      simp only [List.nil_append, List.cons_append, List.append_assoc, List.set_cons_succ, List.set_cons_zero] at H
      clear hwb
      try clear C
      try clear w72
      have C := H.cells
      try simp only [cellsOf, cellsM, apartOf, apartM, and_true] at C
      refine bodyPost_ret (by simp [results, Tryd.results38, go_sem, C]; try rfl) rfl ?_
      exact ⟨pa, pc, ra, rc, qs, Fm, hqm, rfl, HS.less H (by repeat (first | exact .slnil | refine .cons_cons _ ?_ | refine .cons _ ?_))⟩
    · by_cases hiz : m.ix < szM M
      · by_cases hlen : m.bs.length = (M.dt + M.ck).toNat
        · skip
          have HE := Lib.hid (show storeF M m = (setWs M (putW M.ws m), 0) from by unfold storeF; rw [hg, if_pos rfl, if_pos ⟨by omega, hiz⟩, if_pos hlen])
          rw [HE.out]
          clear HE
          clear hg
          have HP2 := Lib.hid (fun wx hx h1 => HPUT.out (by have := codeB_rng HGM.out.co; omega) HGM.out.ws.up wx hx h1)
          clear HPUT
          have hlenb : ((m.bs.length : Int) != ((M.dt + M.ck).toNat : Int)) = false := by rw [hlen]; simp
          clear hlen
          generalize hNN : (M.dt + M.ck).toNat = N at HCH hlenb
          have hge : ¬ m.ix ≥ (szM M : Int) := by omega
          generalize hZZ : szM M = sz9 at HSZ hiz hge
          clear hNN hZZ HGM HZ4
          obtain ⟨s0, s1, s2, s3, s4, s5, kd, dt, ck, fx, ws, fs⟩ := M
          obtain ⟨wi, bs, po⟩ := m
          obtain ⟨xa0, xn0, xc0⟩ := x
          obtain ⟨ya0, yn0, yc0⟩ := y
          obtain ⟨za, zn, zc⟩ := z
          obtain rfl : zn = bs.length := HBZ.out.len
          have hix9 : ¬ wi < 0 := hix
          have hix8 : decide (wi < 0) = false := decide_eq_false hix9
          clear hix
          replace HV := Lib.hid (fun wx hx => (show Calls Tryd.prog 64 #[.agg #[.int .i64 s0, .int .i64 s1, .int .i64 s2, .int .i64 s3, .int .i64 s4, .int .i64 s5, .int .i64 kd, .int .i64 dt, .int .i64 ck, .int .i64 fx, .slice xa0 xn0 xc0, .slice ya0 yn0 yc0]] wx _ from HV.out wx hx))
          replace HCPY := Lib.hid (fun wx hx => (show Calls Tryd.prog 70 #[.agg #[.int .i64 s0, .int .i64 s1, .int .i64 s2, .int .i64 s3, .int .i64 s4, .int .i64 s5, .int .i64 kd, .int .i64 dt, .int .i64 ck, .int .i64 fx, .slice xa0 xn0 xc0, .slice ya0 yn0 yc0]] wx _ from HCPY.out wx hx))
          replace HP2 := Lib.hid (fun wx hx h1 => (show Calls Tryd.prog 71 #[.agg #[.int .i64 s0, .int .i64 s1, .int .i64 s2, .int .i64 s3, .int .i64 s4, .int .i64 s5, .int .i64 kd, .int .i64 dt, .int .i64 ck, .int .i64 fx, .slice xa0 xn0 xc0, .slice ya0 yn0 yc0], .agg #[.int .i64 wi, .slice za bs.length zc, .bool po]] wx _ from HP2.out wx hx h1))
          dsimp only at hge hlenb hiz
          show Calls Tryd.prog 38 #[.agg #[.int .i64 s0, .int .i64 s1, .int .i64 s2, .int .i64 s3, .int .i64 s4, .int .i64 s5, .int .i64 kd, .int .i64 dt, .int .i64 ck, .int .i64 fx, .slice xa0 xn0 xc0, .slice ya0 yn0 yc0], .agg #[.int .i64 wi, .slice za bs.length zc, .bool po]] w _
          go_enter Tryd.func38, Tryd.ntmps38
          have H := HS.start NoD w
          go_upto_region 1 with fail
          generalize hwb : ((w.alloc _).alloc _).alloc _ = w1
          replace H := HS.eqW hwb H.alloc.alloc.alloc
          try simp only [World.size_alloc, List.nil_append, List.cons_append, List.append_assoc] at H
          clear hwb
          generalize w.heap.size + 2 = b4 at H ⊢
          generalize w.heap.size + 1 = b3 at H ⊢
          generalize w.heap.size = b2 at H ⊢
          try clear C
          have C := H.cells
          try simp only [cellsOf, cellsM, apartOf, apartM, and_true] at C
          go_wp2_with fail
          refine (HV.out _ (HME.out.up H.done)).mono ?_
          rintro _ w2 ⟨rfl, hb⟩
          replace H := H.below hb
          clear hb
          try clear C
          try simp only [World.size_alloc, List.nil_append, List.cons_append, List.append_assoc] at H
          try clear w1
          have C := H.cells
          try simp only [cellsOf, cellsM, apartOf, apartM, and_true] at C
          dsimp only
          clear HV
          go_upto_region 3 with fail
          refine wp_region_xH (by kernel_rfl) (by kernel_rfl) (by kernel_rfl) (by kernel_rfl) (fun _ => False) (H) ?_
          clear H; intro w3 H hz0 hs0
          try clear C
          try simp only [World.size_alloc, List.nil_append, List.cons_append, List.append_assoc] at H hz0
          clear hz0
          try clear w2
          have C := H.cells
          try simp only [cellsOf, cellsM, apartOf, apartM, and_true] at C
          have Z := H.zs
          try simp only [ltsOf, ltsM, and_true] at Z
          have hz0 := Nat.le_refl w3.heap.size
          repeat (first | (refine wpX_skip rfl ?_; go_simp) | (refine wpX_free rfl rfl rfl (fun K hK => ?_); go_step; refine hK _ _ ?_; clear hK K) | (refine wpX_load rfl rfl rfl (by simp [Stay, OneD, NoD, *]) hs0 (by simp [*]) (fun K hK => ?_); go_step; refine hK _ _ ?_; clear hK K))
          refine wpX_eff rfl rfl (fun _ _ => ?_)
          go_step
          refine (HSZ.out _).mono ?_
          rintro _ w4 ⟨rfl, hb⟩
          replace hs0 := hs0.belowS hz0 hb
          replace hz0 := Nat.le_trans hz0 hb.size
          replace H := H.below hb
          clear hb
          try clear C
          have C := H.cells
          try simp only [cellsOf, cellsM, apartOf, apartM, and_true] at C
          try clear w3
          dsimp only
          go_step
          refine ⟨hs0, ?_⟩
          repeat (first | (refine wpX_skip rfl ?_; go_simp) | (refine wpX_free rfl rfl rfl (fun K hK => ?_); go_step; refine hK _ _ ?_; clear hK K) | (refine wpX_load rfl rfl rfl (by simp [Stay, OneD, NoD, *]) hs0 (by simp [*]) (fun K hK => ?_); go_step; refine hK _ _ ?_; clear hK K))
          (refine wpX_nil ?_; go_step)
          go_upto_region 5 with fail
          refine wp_region_xH (by kernel_rfl) (by kernel_rfl) (by kernel_rfl) (by kernel_rfl) (fun _ => False) (H) ?_
          clear H; intro w5 H hz0 hs0
          try clear C
          try simp only [World.size_alloc, List.nil_append, List.cons_append, List.append_assoc] at H hz0
          clear hz0
          try clear w4
          have C := H.cells
          try simp only [cellsOf, cellsM, apartOf, apartM, and_true] at C
          have Z := H.zs
          try simp only [ltsOf, ltsM, and_true] at Z
          have hz0 := Nat.le_refl w5.heap.size
          repeat (first | (refine wpX_skip rfl ?_; go_simp) | (refine wpX_free rfl rfl rfl (fun K hK => ?_); go_step; refine hK _ _ ?_; clear hK K) | (refine wpX_load rfl rfl rfl (by simp [Stay, OneD, NoD, *]) hs0 (by simp [*]) (fun K hK => ?_); go_step; refine hK _ _ ?_; clear hK K))
          refine wpX_eff rfl rfl (fun _ _ => ?_)
          go_step
          refine (HCH.out _).mono ?_
          rintro _ w6 ⟨rfl, hb⟩
          replace hs0 := hs0.belowS hz0 hb
          replace hz0 := Nat.le_trans hz0 hb.size
          replace H := H.below hb
          clear hb
          try clear C
          have C := H.cells
          try simp only [cellsOf, cellsM, apartOf, apartM, and_true] at C
          try clear w5
          dsimp only
          go_step
          refine ⟨hs0, ?_⟩
          repeat (first | (refine wpX_skip rfl ?_; go_simp) | (refine wpX_free rfl rfl rfl (fun K hK => ?_); go_step; refine hK _ _ ?_; clear hK K) | (refine wpX_load rfl rfl rfl (by simp [Stay, OneD, NoD, *]) hs0 (by simp [*]) (fun K hK => ?_); go_step; refine hK _ _ ?_; clear hK K))
          (refine wpX_nil ?_; go_step)
          go_wp2_with fail
          refine (HP2.out _ (HME.out.up H.done) (HBZ.out.up H.done)).mono ?_
          rintro _ w73 ⟨pa, pc, ra, rc, qs, Fm, hqm, rfl, K0⟩
          replace H := H.join K0 (fun X hX => by
            rcases List.mem_cons.1 hX with rfl | hX
            · rfl
            · exact two_lowJ rfl rfl X hX)
          clear K0
          try simp only [List.nil_append, List.cons_append] at H
          skip
          try clear C
          try simp only [World.size_alloc, List.nil_append, List.cons_append, List.append_assoc] at H
          have C := H.cells
          try simp only [cellsOf, cellsM, apartOf, apartM, and_true] at C
          try dsimp only at hqm
          try dsimp only at H
          try dsimp only [meV, setWs]
          go_upto_region 30 with fail
          generalize hwb : (((((((((((w73.setCell _ _).setCell _ _).setCell _ _).setCell _ _).setCell _ _).setCell _ _).setCell _ _).setCell _ _).setCell _ _).setCell _ _).setCell _ _).setCell _ _ = w7
          replace H := HS.eqW hwb (H.putAll (i := 2) rfl (vs := [.int .i64 s0, .int .i64 s1, .int .i64 s2, .int .i64 s3, .int .i64 s4, .int .i64 s5, .int .i64 kd, .int .i64 dt, .int .i64 ck, .int .i64 fx, .slice pa qs.length pc, .slice ra fs.length rc]) rfl rfl)
          simp only [List.nil_append, List.cons_append, List.append_assoc, List.set_cons_succ, List.set_cons_zero] at H
          clear hwb
          try clear C
          try clear w73
          have C := H.cells
          try simp only [cellsOf, cellsM, apartOf, apartM, and_true] at C
          refine bodyPost_ret (by simp [results, Tryd.results38, go_sem, C]; try rfl) rfl ?_
          exact ⟨pa, pc, ra, rc, qs, Fm, hqm, rfl, HS.less H (by repeat (first | exact .slnil | refine .cons_cons _ ?_ | refine .cons _ ?_))⟩
        · skip
          have HE := Lib.hid (show storeF M m = (M, 7) from by unfold storeF; rw [hg, if_pos rfl, if_pos ⟨by omega, hiz⟩, if_neg hlen])
          rw [HE.out]
          clear HE
          clear hg
          have hlenb : ((m.bs.length : Int) != ((M.dt + M.ck).toNat : Int)) = true := bne_iff_ne.2 (by omega)
          clear hlen
          generalize hNN : (M.dt + M.ck).toNat = N at HCH hlenb
          have hge : ¬ m.ix ≥ (szM M : Int) := by omega
          generalize hZZ : szM M = sz9 at HSZ hiz hge
          clear hNN hZZ HGM HZ4 HPUT
          obtain ⟨s0, s1, s2, s3, s4, s5, kd, dt, ck, fx, ws, fs⟩ := M
          obtain ⟨wi, bs, po⟩ := m
          obtain ⟨xa0, xn0, xc0⟩ := x
          obtain ⟨ya0, yn0, yc0⟩ := y
          obtain ⟨za, zn, zc⟩ := z
          obtain rfl : zn = bs.length := HBZ.out.len
          have hix9 : ¬ wi < 0 := hix
          have hix8 : decide (wi < 0) = false := decide_eq_false hix9
          clear hix
          replace HV := Lib.hid (fun wx hx => (show Calls Tryd.prog 64 #[.agg #[.int .i64 s0, .int .i64 s1, .int .i64 s2, .int .i64 s3, .int .i64 s4, .int .i64 s5, .int .i64 kd, .int .i64 dt, .int .i64 ck, .int .i64 fx, .slice xa0 xn0 xc0, .slice ya0 yn0 yc0]] wx _ from HV.out wx hx))
          replace HCPY := Lib.hid (fun wx hx => (show Calls Tryd.prog 70 #[.agg #[.int .i64 s0, .int .i64 s1, .int .i64 s2, .int .i64 s3, .int .i64 s4, .int .i64 s5, .int .i64 kd, .int .i64 dt, .int .i64 ck, .int .i64 fx, .slice xa0 xn0 xc0, .slice ya0 yn0 yc0]] wx _ from HCPY.out wx hx))
          dsimp only at hge hlenb hiz
          show Calls Tryd.prog 38 #[.agg #[.int .i64 s0, .int .i64 s1, .int .i64 s2, .int .i64 s3, .int .i64 s4, .int .i64 s5, .int .i64 kd, .int .i64 dt, .int .i64 ck, .int .i64 fx, .slice xa0 xn0 xc0, .slice ya0 yn0 yc0], .agg #[.int .i64 wi, .slice za bs.length zc, .bool po]] w _
          go_enter Tryd.func38, Tryd.ntmps38
          have H := HS.start NoD w
          go_upto_region 1 with fail
          generalize hwb : ((w.alloc _).alloc _).alloc _ = w1
          replace H := HS.eqW hwb H.alloc.alloc.alloc
          try simp only [World.size_alloc, List.nil_append, List.cons_append, List.append_assoc] at H
          clear hwb
          generalize w.heap.size + 2 = b4 at H ⊢
          generalize w.heap.size + 1 = b3 at H ⊢
          generalize w.heap.size = b2 at H ⊢
          try clear C
          have C := H.cells
          try simp only [cellsOf, cellsM, apartOf, apartM, and_true] at C
          go_wp2_with fail
          refine (HV.out _ (HME.out.up H.done)).mono ?_
          rintro _ w2 ⟨rfl, hb⟩
          replace H := H.below hb
          clear hb
          try clear C
          try simp only [World.size_alloc, List.nil_append, List.cons_append, List.append_assoc] at H
          try clear w1
          have C := H.cells
          try simp only [cellsOf, cellsM, apartOf, apartM, and_true] at C
          dsimp only
          clear HV
          go_upto_region 3 with fail
          refine wp_region_xH (by kernel_rfl) (by kernel_rfl) (by kernel_rfl) (by kernel_rfl) (fun _ => False) (H) ?_
          clear H; intro w3 H hz0 hs0
          try clear C
          try simp only [World.size_alloc, List.nil_append, List.cons_append, List.append_assoc] at H hz0
          clear hz0
          try clear w2
          have C := H.cells
          try simp only [cellsOf, cellsM, apartOf, apartM, and_true] at C
          have Z := H.zs
          try simp only [ltsOf, ltsM, and_true] at Z
          have hz0 := Nat.le_refl w3.heap.size
          repeat (first | (refine wpX_skip rfl ?_; go_simp) | (refine wpX_free rfl rfl rfl (fun K hK => ?_); go_step; refine hK _ _ ?_; clear hK K) | (refine wpX_load rfl rfl rfl (by simp [Stay, OneD, NoD, *]) hs0 (by simp [*]) (fun K hK => ?_); go_step; refine hK _ _ ?_; clear hK K))
          refine wpX_eff rfl rfl (fun _ _ => ?_)
          go_step
          refine (HSZ.out _).mono ?_
          rintro _ w4 ⟨rfl, hb⟩
          replace hs0 := hs0.belowS hz0 hb
          replace hz0 := Nat.le_trans hz0 hb.size
          replace H := H.below hb
          clear hb
          try clear C
          have C := H.cells
          try simp only [cellsOf, cellsM, apartOf, apartM, and_true] at C
          try clear w3
          dsimp only
          go_step
          refine ⟨hs0, ?_⟩
          repeat (first | (refine wpX_skip rfl ?_; go_simp) | (refine wpX_free rfl rfl rfl (fun K hK => ?_); go_step; refine hK _ _ ?_; clear hK K) | (refine wpX_load rfl rfl rfl (by simp [Stay, OneD, NoD, *]) hs0 (by simp [*]) (fun K hK => ?_); go_step; refine hK _ _ ?_; clear hK K))
          (refine wpX_nil ?_; go_step)
          go_upto_region 5 with fail
          refine wp_region_xH (by kernel_rfl) (by kernel_rfl) (by kernel_rfl) (by kernel_rfl) (fun _ => False) (H) ?_
          clear H; intro w5 H hz0 hs0
          try clear C
          try simp only [World.size_alloc, List.nil_append, List.cons_append, List.append_assoc] at H hz0
          clear hz0
          try clear w4
          have C := H.cells
          try simp only [cellsOf, cellsM, apartOf, apartM, and_true] at C
          have Z := H.zs
          try simp only [ltsOf, ltsM, and_true] at Z
          have hz0 := Nat.le_refl w5.heap.size
          repeat (first | (refine wpX_skip rfl ?_; go_simp) | (refine wpX_free rfl rfl rfl (fun K hK => ?_); go_step; refine hK _ _ ?_; clear hK K) | (refine wpX_load rfl rfl rfl (by simp [Stay, OneD, NoD, *]) hs0 (by simp [*]) (fun K hK => ?_); go_step; refine hK _ _ ?_; clear hK K))
          refine wpX_eff rfl rfl (fun _ _ => ?_)
          go_step
          refine (HCH.out _).mono ?_
          rintro _ w6 ⟨rfl, hb⟩
          replace hs0 := hs0.belowS hz0 hb
          replace hz0 := Nat.le_trans hz0 hb.size
          replace H := H.below hb
          clear hb
          try clear C
          have C := H.cells
          try simp only [cellsOf, cellsM, apartOf, apartM, and_true] at C
          try clear w5
          dsimp only
          go_step
          refine ⟨hs0, ?_⟩
          repeat (first | (refine wpX_skip rfl ?_; go_simp) | (refine wpX_free rfl rfl rfl (fun K hK => ?_); go_step; refine hK _ _ ?_; clear hK K) | (refine wpX_load rfl rfl rfl (by simp [Stay, OneD, NoD, *]) hs0 (by simp [*]) (fun K hK => ?_); go_step; refine hK _ _ ?_; clear hK K))
          (refine wpX_nil ?_; go_step)
          go_wp2_with fail
          refine (HCPY.out _ (HME.out.up H.done)).mono ?_
          rintro _ w74 ⟨pa, pc, ra, rc, qs, Fm, hqm, rfl, K0⟩
          replace H := H.join K0 (fun X hX => by
            rcases List.mem_cons.1 hX with rfl | hX
            · rfl
            · exact two_lowJ rfl rfl X hX)
          clear K0
          try simp only [List.nil_append, List.cons_append] at H
          skip
          try clear C
          try simp only [World.size_alloc, List.nil_append, List.cons_append, List.append_assoc] at H
          have C := H.cells
          try simp only [cellsOf, cellsM, apartOf, apartM, and_true] at C
          try dsimp only at hqm
          try dsimp only at H
          try dsimp only [meV, setWs]
          go_upto_region 30 with fail
          generalize hwb : (((((((((((w74.setCell _ _).setCell _ _).setCell _ _).setCell _ _).setCell _ _).setCell _ _).setCell _ _).setCell _ _).setCell _ _).setCell _ _).setCell _ _).setCell _ _ = w7
          replace H := HS.eqW hwb (H.putAll (i := 2) rfl (vs := [.int .i64 s0, .int .i64 s1, .int .i64 s2, .int .i64 s3, .int .i64 s4, .int .i64 s5, .int .i64 kd, .int .i64 dt, .int .i64 ck, .int .i64 fx, .slice pa qs.length pc, .slice ra fs.length rc]) rfl rfl)
          simp only [List.nil_append, List.cons_append, List.append_assoc, List.set_cons_succ, List.set_cons_zero] at H
          clear hwb
          try clear C
          try clear w74
          have C := H.cells
          try simp only [cellsOf, cellsM, apartOf, apartM, and_true] at C
          refine bodyPost_ret (by simp [results, Tryd.results38, go_sem, C]; try rfl) rfl ?_
          exact ⟨pa, pc, ra, rc, qs, Fm, hqm, rfl, HS.less H (by repeat (first | exact .slnil | refine .cons_cons _ ?_ | refine .cons _ ?_))⟩
      · skip
        have HE := Lib.hid (show storeF M m = (M, 2) from by unfold storeF; rw [hg, if_pos rfl, if_neg (by omega)])
        rw [HE.out]
        clear HE
        clear hg HCH
        have hge : m.ix ≥ (szM M : Int) := by omega
        generalize hZZ : szM M = sz9 at HSZ hiz hge
        clear hZZ HGM HZ4 HPUT
        obtain ⟨s0, s1, s2, s3, s4, s5, kd, dt, ck, fx, ws, fs⟩ := M
        obtain ⟨wi, bs, po⟩ := m
        obtain ⟨xa0, xn0, xc0⟩ := x
        obtain ⟨ya0, yn0, yc0⟩ := y
        obtain ⟨za, zn, zc⟩ := z
        obtain rfl : zn = bs.length := HBZ.out.len
        have hix9 : ¬ wi < 0 := hix
        have hix8 : decide (wi < 0) = false := decide_eq_false hix9
        clear hix
        replace HV := Lib.hid (fun wx hx => (show Calls Tryd.prog 64 #[.agg #[.int .i64 s0, .int .i64 s1, .int .i64 s2, .int .i64 s3, .int .i64 s4, .int .i64 s5, .int .i64 kd, .int .i64 dt, .int .i64 ck, .int .i64 fx, .slice xa0 xn0 xc0, .slice ya0 yn0 yc0]] wx _ from HV.out wx hx))
        replace HCPY := Lib.hid (fun wx hx => (show Calls Tryd.prog 70 #[.agg #[.int .i64 s0, .int .i64 s1, .int .i64 s2, .int .i64 s3, .int .i64 s4, .int .i64 s5, .int .i64 kd, .int .i64 dt, .int .i64 ck, .int .i64 fx, .slice xa0 xn0 xc0, .slice ya0 yn0 yc0]] wx _ from HCPY.out wx hx))
        dsimp only at hge hiz
        show Calls Tryd.prog 38 #[.agg #[.int .i64 s0, .int .i64 s1, .int .i64 s2, .int .i64 s3, .int .i64 s4, .int .i64 s5, .int .i64 kd, .int .i64 dt, .int .i64 ck, .int .i64 fx, .slice xa0 xn0 xc0, .slice ya0 yn0 yc0], .agg #[.int .i64 wi, .slice za bs.length zc, .bool po]] w _
        go_enter Tryd.func38, Tryd.ntmps38
        have H := HS.start NoD w
        go_upto_region 1 with fail
        generalize hwb : ((w.alloc _).alloc _).alloc _ = w1
        replace H := HS.eqW hwb H.alloc.alloc.alloc
        try simp only [World.size_alloc, List.nil_append, List.cons_append, List.append_assoc] at H
        clear hwb
        generalize w.heap.size + 2 = b4 at H ⊢
        generalize w.heap.size + 1 = b3 at H ⊢
        generalize w.heap.size = b2 at H ⊢
        try clear C
        have C := H.cells
        try simp only [cellsOf, cellsM, apartOf, apartM, and_true] at C
        go_wp2_with fail
        refine (HV.out _ (HME.out.up H.done)).mono ?_
        rintro _ w2 ⟨rfl, hb⟩
        replace H := H.below hb
        clear hb
        try clear C
        try simp only [World.size_alloc, List.nil_append, List.cons_append, List.append_assoc] at H
        try clear w1
        have C := H.cells
        try simp only [cellsOf, cellsM, apartOf, apartM, and_true] at C
        dsimp only
        clear HV
        go_upto_region 3 with fail
        refine wp_region_xH (by kernel_rfl) (by kernel_rfl) (by kernel_rfl) (by kernel_rfl) (fun _ => False) (H) ?_
        clear H; intro w3 H hz0 hs0
        try clear C
        try simp only [World.size_alloc, List.nil_append, List.cons_append, List.append_assoc] at H hz0
        clear hz0
        try clear w2
        have C := H.cells
        try simp only [cellsOf, cellsM, apartOf, apartM, and_true] at C
        have Z := H.zs
        try simp only [ltsOf, ltsM, and_true] at Z
        have hz0 := Nat.le_refl w3.heap.size
        repeat (first | (refine wpX_skip rfl ?_; go_simp) | (refine wpX_free rfl rfl rfl (fun K hK => ?_); go_step; refine hK _ _ ?_; clear hK K) | (refine wpX_load rfl rfl rfl (by simp [Stay, OneD, NoD, *]) hs0 (by simp [*]) (fun K hK => ?_); go_step; refine hK _ _ ?_; clear hK K))
        refine wpX_eff rfl rfl (fun _ _ => ?_)
        go_step
        refine (HSZ.out _).mono ?_
        rintro _ w4 ⟨rfl, hb⟩
        replace hs0 := hs0.belowS hz0 hb
        replace hz0 := Nat.le_trans hz0 hb.size
        replace H := H.below hb
        clear hb
        try clear C
        have C := H.cells
        try simp only [cellsOf, cellsM, apartOf, apartM, and_true] at C
        try clear w3
        dsimp only
        go_step
        refine ⟨hs0, ?_⟩
        repeat (first | (refine wpX_skip rfl ?_; go_simp) | (refine wpX_free rfl rfl rfl (fun K hK => ?_); go_step; refine hK _ _ ?_; clear hK K) | (refine wpX_load rfl rfl rfl (by simp [Stay, OneD, NoD, *]) hs0 (by simp [*]) (fun K hK => ?_); go_step; refine hK _ _ ?_; clear hK K))
        (refine wpX_nil ?_; go_step)
        go_wp2_with fail
        refine (HCPY.out _ (HME.out.up H.done)).mono ?_
        rintro _ w75 ⟨pa, pc, ra, rc, qs, Fm, hqm, rfl, K0⟩
        replace H := H.join K0 (fun X hX => by
          rcases List.mem_cons.1 hX with rfl | hX
          · rfl
          · exact two_lowJ rfl rfl X hX)
        clear K0
        try simp only [List.nil_append, List.cons_append] at H
        skip
        try clear C
        try simp only [World.size_alloc, List.nil_append, List.cons_append, List.append_assoc] at H
        have C := H.cells
        try simp only [cellsOf, cellsM, apartOf, apartM, and_true] at C
        try dsimp only at hqm
        try dsimp only at H
        try dsimp only [meV, setWs]
        go_upto_region 30 with fail
        generalize hwb : (((((((((((w75.setCell _ _).setCell _ _).setCell _ _).setCell _ _).setCell _ _).setCell _ _).setCell _ _).setCell _ _).setCell _ _).setCell _ _).setCell _ _).setCell _ _ = w5
        replace H := HS.eqW hwb (H.putAll (i := 2) rfl (vs := [.int .i64 s0, .int .i64 s1, .int .i64 s2, .int .i64 s3, .int .i64 s4, .int .i64 s5, .int .i64 kd, .int .i64 dt, .int .i64 ck, .int .i64 fx, .slice pa qs.length pc, .slice ra fs.length rc]) rfl rfl)
        simp only [List.nil_append, List.cons_append, List.append_assoc, List.set_cons_succ, List.set_cons_zero] at H
        clear hwb
        try clear C
        try clear w75
        have C := H.cells
        try simp only [cellsOf, cellsM, apartOf, apartM, and_true] at C
        refine bodyPost_ret (by simp [results, Tryd.results38, go_sem, C]; try rfl) rfl ?_
        exact ⟨pa, pc, ra, rc, qs, Fm, hqm, rfl, HS.less H (by repeat (first | exact .slnil | refine .cons_cons _ ?_ | refine .cons _ ?_))⟩
theorem GivesMeRE.me {m : Mm} {er : Int} {w w' : World} {e : Ending} (h : GivesMeRE m er w e w') : GivesMeE m er w e w' := by
  obtain ⟨s, c, t, d, qs, F, h1, h2, h3⟩ := h
  obtain ⟨G, h4⟩ := HS.memOf (L := []) h3 rfl rfl
  exact ⟨⟨s, qs.length, c⟩, ⟨t, m.fs.length, d⟩, qs, G, h1, h2, h4⟩
theorem r13store_any (M : Mm) (x y : Sv) (hs : SmallM M) (m : Wm) (z : Sv) (hz : m.bs.length ≤ 140737488355328) (w : World) (h : MeAt w x y M) (hb : BytesAt w z m.bs) : Calls Tryd.prog 38 #[meV M x y, cwV m z] w (GivesMeE (storeF M m).1 (storeF M m).2 w) := (r13storeR_any M x y hs m z hz w h hb).mono fun _ _ h => h.me
end Go.Proofs.YtplflpmkomeadaaDoor
