/- The statement OwnerFrames: its walk. -/
import Derived.Test.YtmnddnlabdafcaaForks
import Derived.Test.YtmnddnlabdafcaaOEnd
namespace Go.Proofs.Ytmnddnlabdafcaa
set_option linter.unusedSimpArgs false
set_option linter.unusedVariables false
open Go.RowKit
set_option maxRecDepth 100000
attribute [local go_sem] lt_more ne_more ne_more'
attribute [local irreducible] wpX wpF Calls

theorem users_cnt (f : Int) {v : Value} {ps : List Pr} (hx : SmallP ps) (w : World) (hl : Ps w w.heap.size v ps) {n : Nat} (hn : cnt ps f = n) :
    Calls Try.prog 26 #[v, .int .i64 f] w (fun e w' => ∃ sa c, e = .returned (.slice sa n c) ∧ Below w.heap.size w w') := by
  refine (ousers_any f hx w hl).mono ?_
  rintro e w' ⟨sa, c, rfl, -, hb⟩
  exact ⟨sa, c, by unfold cnt at hn; rw [hn], hb⟩
theorem endP_dead {F : Int} {ps : List Pr} (h : GoodP F ps) {k : Nat} (hk : k < ps.length) (hd : (ps[k]!).dead = true) : endP ps (ps[k]!).id = (42, [], []) := by
  unfold endP; rw [live_none h.asc hk hd]
set_option maxHeartbeats 16000000 in
theorem frames_walk (sa : Option Addr) (len cap : Nat) (hl : len ≤ maxLen) (which : Int) (w : World) (hI : Ints w sa len) :
    Calls Try.prog 5 #[.slice sa len cap, .int .i64 which] w (Gives (.bool true) w) := by
  have HI := Lib.hid hI
  clear hI
  have hli := light_any sa len cap hl
  clear hl
  have HAW := Lib.hid awake29_any
  by_cases h400 : len ≤ 400
  · rw [decide_eq_true h400] at hli
    have HLI := Lib.hid hli
    clear hli
    go_enter Try.func5, Try.ntmps5
    have H := HS.start NoD w
    go_wp2_with fail
    refine (gives_of (HLI.out _)).mono ?_
    rintro _ w1 ⟨rfl, hb⟩
    replace H := H.below hb
    clear hb
    try clear C
    try simp only [World.size_alloc, List.nil_append, List.cons_append, List.append_assoc] at H
    have C := H.cells
    try simp only [cellsOf, cellsM, apartOf, apartM, and_true] at C
    dsimp only
    go_wp2_with fail
    refine (roll_at w.heap.size _ _ _ h400 _ H.size (H.ints HI.out)).mono ?_
    rintro _ w2 ⟨bd, rfl, hd, hb, hbb⟩
    replace H := H.getsDice hb hd hbb (Nat.le_refl _)
    clear hb hd hbb
    try clear C
    try simp only [World.size_alloc, List.nil_append, List.cons_append, List.append_assoc] at H
    try clear w1
    have C := H.cells
    try simp only [cellsOf, cellsM, apartOf, apartM, and_true] at C
    dsimp only
    go_wp2_with fail
    refine (mprogs_any 10 (by decide) w.heap.size bd _ (H.at 0 rfl) H.size).mono ?_
    rintro _ w2 ⟨v1, qs, rfl, hmp, K⟩
    replace H := HS.joinDice H 0 rfl K (fun A hA => by cases List.mem_singleton.1 hA; rfl)
    clear K
    simp only [List.nil_append, List.cons_append] at H
    have h3 := hmp.three
    have hgl := hmp.good.len
    rw [List.length_map] at h3 hgl
    have HMP := Lib.hid hmp
    clear hmp
    obtain ⟨g, d, rfl, hcap, H⟩ := H.openPs 1 rfl (by omega)
    simp only [List.eraseIdx_cons_succ, List.eraseIdx_cons_zero, List.nil_append, List.cons_append] at H
    skip
    try clear C
    try simp only [World.size_alloc, List.nil_append, List.cons_append, List.append_assoc] at H
    have C := H.cells
    try simp only [cellsOf, cellsM, apartOf, apartM, and_true] at C
    dsimp only
    obtain ⟨md, hmd⟩ : ∃ md, md = modF which qs.length := ⟨_, rfl⟩
    have hmc : ∀ w, Calls Try.prog 17 #[.int .i64 which, .int .i64 qs.length] w (Gives (.int .i64 md) w) := fun w => by rw [hmd]; exact gives_of (mod_any _ _ _)
    have hmb := modF_in (n := which) (m := qs.length) (by omega) (by omega)
    rw [← hmd] at hmb
    clear hmd
    obtain ⟨k, rfl⟩ : ∃ k : Nat, md = k := ⟨md.toNat, by omega⟩
    have hk : k < qs.length := by omega
    have HMC := Lib.hid hmc
    clear hmc hmb
    go_wp2_with fail
    refine (HMC.out _).mono ?_
    rintro _ w3 ⟨rfl, hb⟩
    replace H := H.below hb
    clear hb
    try clear C
    try simp only [World.size_alloc, List.nil_append, List.cons_append, List.append_assoc] at H
    try clear w2
    have C := H.cells
    try simp only [cellsOf, cellsM, apartOf, apartM, and_true] at C
    dsimp only
    clear HMC
    have hpf := H.pvForm 2 rfl hk
    obtain ⟨pb, pc, tb, tc, hpf⟩ := hpf
    have hmap := map_at hk
    obtain ⟨ps, hps⟩ : ∃ ps, ps = qs.map (·.p) := ⟨_, rfl⟩
    have hpl : ps.length = qs.length := by rw [hps]; simp
    rw [← hps] at HMP hmap
    have HPS := Lib.hid hps.symm
    clear hps
    obtain ⟨p, hp⟩ : ∃ p, p = (qs[k]!).p := ⟨_, rfl⟩
    rw [← hp] at hpf hmap
    clear hp
    have HPF := Lib.hid hpf
    have HPE := Lib.hid hmap
    clear hpf hmap
    have hg1 := HMP.out.good.one _ (at_mem (show k < ps.length by omega))
    rw [HPE.out] at hg1
    have HG1 := Lib.hid hg1
    obtain ⟨pi, pt, pd, pg, td⟩ := p
    have hp16 : pg.length ≤ 16 := hg1.plen
    clear hg1
    dsimp only at HPF
    have k0 : w3.cell? ⟨g, k * 5, none⟩ = some (.int .i64 pi) := (H.outerCell 1 rfl rfl hk (m := 0) (by decide) (by rw [HPF.out]; rfl)).1
    have k1 := (H.outerCell 1 rfl rfl hk (m := 1) (u := .bool pt) (by decide) (by rw [HPF.out]; rfl)).1
    have k2 := (H.outerCell 1 rfl rfl hk (m := 2) (u := .bool pd) (by decide) (by rw [HPF.out]; rfl)).1
    have k3 := (H.outerCell 1 rfl rfl hk (m := 3) (u := .slice pb pg.length pc) (by decide) (by rw [HPF.out]; rfl)).1
    have k4 := (H.outerCell 1 rfl rfl hk (m := 4) (u := .slice tb td.length tc) (by decide) (by rw [HPF.out]; rfl)).1
    go_upto_region 6 with fail
    clear k0 k1 k2 k3 k4
    generalize hwb : w3.alloc _ = w4
    replace H := HS.eqW hwb H.alloc
    try simp only [World.size_alloc, List.nil_append, List.cons_append, List.append_assoc] at H
    clear hwb
    generalize w3.heap.size = bP at H ⊢
    try clear C
    try clear w3
    have C := H.cells
    try simp only [cellsOf, cellsM, apartOf, apartM, and_true] at C
    have hkp : k < ps.length := by omega
    have HGD := Lib.hid (HMP.out.good)
    have HDJ : Hid (∀ j, j < pg.length → pd = false) := fun j hj => by
      cases hd : pd with
      | false => rfl
      | true => have := HG1.out.dead hd; dsimp only at this; rw [this] at hj; exact absurd hj (Nat.not_lt_zero _)
    have HFR : Hid (∀ j, j < pg.length → ∃ out z fr, FrX ps k j (pg[j]!).n (pg[j]!).f out z fr) := fun j hj => by
      have := frX_of HGD.out (by decide) hkp (by rw [HPE.out]; exact HDJ.out j hj) (show j < (ps[k]!).pages.length by rw [HPE.out]; exact hj)
      rw [HPE.out] at this
      exact this
    go_wp2_with fail
    go_loopw [42] (fun jj wr => ∃ (j : Nat), jj = .int .i64 j ∧ j ≤ pg.length ∧ HS NoD w [.dice w.heap.size bd, .row (.slice (some ⟨g, 0, none⟩) qs.length d) 31 5 qs.length (qs.flatMap pvC), Item.many (qs.flatMap innerR), .blk bP #[.int .i64 pi, .bool pt, .bool pd, .slice pb pg.length pc, .slice tb td.length tc] 31] wr) (fun jj _ => pg.length - (intOf jj).toNat)
    case atStart => exact ⟨0, rfl, Nat.zero_le _, H⟩
    case round =>
      clear H C
      obtain ⟨j, rfl, hj, H⟩ := hrel
      skip
      try clear C
      try simp only [World.size_alloc, List.nil_append, List.cons_append, List.append_assoc] at H
      have C := H.cells
      try simp only [cellsOf, cellsM, apartOf, apartM, and_true] at C
      by_cases hlk : j < pg.length
      · obtain ⟨bg, og, e9, hbg, hcg⟩ := (H.pagesLies 2 rfl hk HPF.out).at hlk
        obtain rfl : pb = some ⟨bg, og, none⟩ := e9
        obtain ⟨out, z, fr, hfr⟩ := HFR.out j hlk
        have hx := (HG1.out.pnum _ (at_mem (show j < pg.length from hlk)))
        obtain ⟨xo, hxo⟩ : ∃ x, x = pg[j]! := ⟨_, rfl⟩
        rw [← hxo] at hcg hfr
        have hx : 0 ≤ xo.f := by rw [hxo]; exact hx.2.2.1
        clear hxo
        obtain ⟨xn, xf, xs⟩ := xo
        dsimp only at hfr hx
        have hdr := hfr.drop
        have how := hfr.own
        rw [HPE.out] at hdr how
        dsimp only at hdr how
        have hgo := (HGD.out.drop hdr).1
        have hgz := ((HGD.out.mono (show (10 : Int) ≤ 64 by decide)).own (show (40 : Int) < 64 by decide) how).1
        have HA1 := Lib.hid (fun v w h => odrop_any pi xn (v := v) HGD.out w h)
        have HA2 := Lib.hid (fun v w h => oown_any pi xn 40 (v := v) HGD.out w h)
        rw [hdr] at HA1
        rw [how] at HA2
        obtain ⟨c1, hc1⟩ : ∃ n, n = cnt ps xf := ⟨_, rfl⟩
        have hl1 := hfr.less
        have hh1 := hfr.had
        have ho1 := hfr.one
        have hg1 := hfr.gone
        rw [← hc1] at hl1 hh1 ho1
        obtain ⟨c2, hc2⟩ : ∃ n, n = cnt out xf := ⟨_, rfl⟩
        rw [← hc2] at hl1
        have hc2i : (c2 : Int) = (c1 : Int) - 1 := by omega
        have HU1 := Lib.hid (fun v w h => users_cnt xf (v := v) HGD.out.smallP w h hc1.symm)
        have HU2 := Lib.hid (fun v w h => users_cnt xf (v := v) hgo.smallP w h hc2.symm)
        have HU3 := Lib.hid (fun v w h => users_cnt 40 (v := v) hgz.smallP w h hfr.new)
        have hx1 : c1 ≤ 1000000 := by
          rw [hc1]; unfold cnt
          have h1 := HGD.out.smallP
          have : ∀ l : List Pr, (∀ p ∈ l, p.pages.length ≤ 1000) → (usersL l xf).length ≤ 1000 * l.length := fun l => by
            induction l with
            | nil => intro _; exact Nat.zero_le _
            | cons p l ih =>
              intro h
              have h2 := ih fun q hq => h q (by simp [hq])
              have h3 := cnt_cons p l xf
              unfold cnt at h3
              rw [h3, List.length_cons]
              have h4 : cf p.pages xf ≤ p.pages.length := List.length_filter_le _ _
              have h5 := h p (by simp)
              omega
          have h2 := this ps fun p hp => (h1.2 p hp).1
          have h3 := h1.1
          omega
        clear hc1 hc2 hgo hgz hdr how hl1 hfr
        have d0 : wr.cell? ⟨bg, og + j * 3, none⟩ = some (.int .i64 xn) := hcg 0 _ rfl
        have d1 : wr.cell? ⟨bg, og + j * 3 + 1, none⟩ = some (.int .i64 xf) := hcg 1 _ rfl
        have d2 : wr.cell? ⟨bg, og + j * 3 + 2, none⟩ = some (.bool xs) := hcg 2 _ rfl
        clear hcg
        go_upto_region 9 with fail
        clear d0 d1 d2
        generalize hwb : wr.alloc _ = w5
        replace H := HS.eqW hwb H.alloc
        try simp only [World.size_alloc, List.nil_append, List.cons_append, List.append_assoc] at H
        clear hwb
        generalize wr.heap.size = bY at H ⊢
        try clear C
        try clear wr
        have C := H.cells
        try simp only [cellsOf, cellsM, apartOf, apartM, and_true] at C
        go_wp2_with fail
        refine (HA1.out _ _ (by have := H.ownPs2 1 2 rfl rfl rfl; rw [HPS.out] at this; exact this)).mono ?_
        rintro _ wa ⟨v3, r3, rfl, h3', K⟩
        replace H := H.join1 K
        clear K HA1
        simp only [List.nil_append, List.cons_append] at H
        skip
        try clear C
        try simp only [World.size_alloc, List.nil_append, List.cons_append, List.append_assoc] at H
        have C := H.cells
        try simp only [cellsOf, cellsM, apartOf, apartM, and_true] at C
        dsimp only
        go_wp2_with fail
        refine (HA2.out _ _ (by have := H.ownPs2 1 2 rfl rfl rfl; rw [HPS.out] at this; exact this)).mono ?_
        rintro _ wb ⟨v4, r4, rfl, h4', K⟩
        replace H := H.join1 K
        clear K HA2
        simp only [List.nil_append, List.cons_append] at H
        skip
        try clear C
        try simp only [World.size_alloc, List.nil_append, List.cons_append, List.append_assoc] at H
        have C := H.cells
        try simp only [cellsOf, cellsM, apartOf, apartM, and_true] at C
        dsimp only
        have H3 := Lib.hid (show r3.map (·.p) = out from h3')
        have H4 := Lib.hid (show r4.map (·.p) = z from h4')
        clear h3' h4'
        by_cases hfx : fr = xf
        · have h1 : c1 = 1 := by rw [hfx] at ho1; exact Eq.mp ho1 rfl
          subst h1
          clear ho1 hg1
          subst hfx
          go_upto_region 11 with fail
          refine wp_region_xH (by kernel_rfl) (by kernel_rfl) (by kernel_rfl) (by kernel_rfl) (fun _ => False) (H) ?_
          clear H; intro w6 H hz0 hs0
          try clear C
          try simp only [World.size_alloc, List.nil_append, List.cons_append, List.append_assoc] at H hz0
          clear hz0
          try clear wb
          have C := H.cells
          try simp only [cellsOf, cellsM, apartOf, apartM, and_true] at C
          have Z := H.zs
          try simp only [ltsOf, ltsM, and_true] at Z
          have hz0 := Nat.le_refl w6.heap.size
          repeat (first | (refine wpX_skip rfl ?_; go_simp) | (refine wpX_free rfl rfl rfl (fun K hK => ?_); go_step; refine hK _ _ ?_; clear hK K) | (refine wpX_load rfl rfl rfl (by simp [Stay, OneD, NoD, *]) hs0 (by simp [*]) (fun K hK => ?_); go_step; refine hK _ _ ?_; clear hK K))
          refine wpX_eff rfl rfl (fun _ _ => ?_)
          go_step
          refine (HU1.out _ _ (by have := H.ownPs2 1 2 rfl rfl rfl; rw [HPS.out] at this; exact this)).mono ?_
          rintro _ w7 ⟨sa1, ca1, rfl, hb⟩
          replace hs0 := hs0.belowS hz0 hb
          replace hz0 := Nat.le_trans hz0 hb.size
          replace H := H.below hb
          clear hb
          try clear C
          have C := H.cells
          try simp only [cellsOf, cellsM, apartOf, apartM, and_true] at C
          try clear w6
          dsimp only
          go_step
          refine ⟨hs0, ?_⟩
          repeat (first | (refine wpX_skip rfl ?_; go_simp) | (refine wpX_free rfl rfl rfl (fun K hK => ?_); go_step; refine hK _ _ ?_; clear hK K) | (refine wpX_load rfl rfl rfl (by simp [Stay, OneD, NoD, *]) hs0 (by simp [*]) (fun K hK => ?_); go_step; refine hK _ _ ?_; clear hK K))
          refine wpX_eff rfl rfl (fun _ _ => ?_)
          go_step
          refine (HU2.out _ _ (by have := H.ownPs 5 rfl; rw [H3.out] at this; exact this)).mono ?_
          rintro _ w8 ⟨sa2, ca2, rfl, hb⟩
          replace hs0 := hs0.belowS hz0 hb
          replace hz0 := Nat.le_trans hz0 hb.size
          replace H := H.below hb
          clear hb
          try clear C
          have C := H.cells
          try simp only [cellsOf, cellsM, apartOf, apartM, and_true] at C
          try clear w7
          dsimp only
          go_step
          refine ⟨hs0, ?_⟩
          repeat (first | (refine wpX_skip rfl ?_; go_simp) | (refine wpX_free rfl rfl rfl (fun K hK => ?_); go_step; refine hK _ _ ?_; clear hK K) | (refine wpX_load rfl rfl rfl (by simp [Stay, OneD, NoD, *]) hs0 (by simp [*]) (fun K hK => ?_); go_step; refine hK _ _ ?_; clear hK K))
          refine wpX_eff rfl rfl (fun _ _ => ?_)
          go_step
          refine (HU1.out _ _ (by have := H.ownPs2 1 2 rfl rfl rfl; rw [HPS.out] at this; exact this)).mono ?_
          rintro _ w9 ⟨sa3, ca3, rfl, hb⟩
          replace hs0 := hs0.belowS hz0 hb
          replace hz0 := Nat.le_trans hz0 hb.size
          replace H := H.below hb
          clear hb
          try clear C
          have C := H.cells
          try simp only [cellsOf, cellsM, apartOf, apartM, and_true] at C
          try clear w8
          dsimp only
          go_step
          refine ⟨hs0, ?_⟩
          repeat (first | (refine wpX_skip rfl ?_; go_simp) | (refine wpX_free rfl rfl rfl (fun K hK => ?_); go_step; refine hK _ _ ?_; clear hK K) | (refine wpX_load rfl rfl rfl (by simp [Stay, OneD, NoD, *]) hs0 (by simp [*]) (fun K hK => ?_); go_step; refine hK _ _ ?_; clear hK K))
          refine wpX_eff rfl rfl (fun _ _ => ?_)
          go_step
          refine (HU3.out _ _ (by have := H.ownPs 6 rfl; rw [H4.out] at this; exact this)).mono ?_
          rintro _ w10 ⟨sa4, ca4, rfl, hb⟩
          replace hs0 := hs0.belowS hz0 hb
          replace hz0 := Nat.le_trans hz0 hb.size
          replace H := H.below hb
          clear hb
          try clear C
          have C := H.cells
          try simp only [cellsOf, cellsM, apartOf, apartM, and_true] at C
          try clear w9
          dsimp only
          go_step
          refine ⟨hs0, ?_⟩
          repeat (first | (refine wpX_skip rfl ?_; go_simp) | (refine wpX_free rfl rfl rfl (fun K hK => ?_); go_step; refine hK _ _ ?_; clear hK K) | (refine wpX_load rfl rfl rfl (by simp [Stay, OneD, NoD, *]) hs0 (by simp [*]) (fun K hK => ?_); go_step; refine hK _ _ ?_; clear hK K))
          (refine wpX_nil ?_; go_step)
          go_wp2_with fail
          go_roundw
          case rel => exact ⟨j + 1, by go_num, by omega, HS.less (L' := [.dice w.heap.size bd, .row (.slice (some ⟨g, 0, none⟩) qs.length d) 31 5 qs.length (qs.flatMap pvC), Item.many (qs.flatMap innerR), .blk bP #[.int .i64 pi, .bool pt, .bool pd, .slice (some ⟨bg, og, none⟩) pg.length pc, .slice tb td.length tc] 31]) H (by repeat (first | exact .slnil | refine .cons_cons _ ?_ | refine .cons _ ?_))⟩
          case measure => simp [intOf]; omega
        · have hfm : fr = -1 := by rcases hg1 with h | h; exact absurd h hfx; exact h
          have h1 : ¬ c1 = 1 := fun e => hfx (Eq.mpr ho1 e)
          subst hfm
          clear ho1 hg1
          have hn1 : ((-1 : Int) == xf) = false := by simp; omega
          have hn2 : ((c1 : Int) == 1) = false := by simp; omega
          have hn4 : ((-1 : Int) != xf) = true := by simp; omega
          have hn3 : ((xf : Int) == -1) = false := by simp; omega
          skip
          go_upto_region 11 with fail
          refine wp_region_xH (by kernel_rfl) (by kernel_rfl) (by kernel_rfl) (by kernel_rfl) (fun _ => False) (H) ?_
          clear H; intro w11 H hz0 hs0
          try clear C
          try simp only [World.size_alloc, List.nil_append, List.cons_append, List.append_assoc] at H hz0
          clear hz0
          try clear wb
          have C := H.cells
          try simp only [cellsOf, cellsM, apartOf, apartM, and_true] at C
          have Z := H.zs
          try simp only [ltsOf, ltsM, and_true] at Z
          have hz0 := Nat.le_refl w11.heap.size
          repeat (first | (refine wpX_skip rfl ?_; go_simp) | (refine wpX_free rfl rfl rfl (fun K hK => ?_); go_step; refine hK _ _ ?_; clear hK K) | (refine wpX_load rfl rfl rfl (by simp [Stay, OneD, NoD, *]) hs0 (by simp [*]) (fun K hK => ?_); go_step; refine hK _ _ ?_; clear hK K))
          refine wpX_eff rfl rfl (fun _ _ => ?_)
          go_step
          refine (HU1.out _ _ (by have := H.ownPs2 1 2 rfl rfl rfl; rw [HPS.out] at this; exact this)).mono ?_
          rintro _ w12 ⟨sa1, ca1, rfl, hb⟩
          replace hs0 := hs0.belowS hz0 hb
          replace hz0 := Nat.le_trans hz0 hb.size
          replace H := H.below hb
          clear hb
          try clear C
          have C := H.cells
          try simp only [cellsOf, cellsM, apartOf, apartM, and_true] at C
          try clear w11
          dsimp only
          go_step
          refine ⟨hs0, ?_⟩
          repeat (first | (refine wpX_skip rfl ?_; go_simp) | (refine wpX_free rfl rfl rfl (fun K hK => ?_); go_step; refine hK _ _ ?_; clear hK K) | (refine wpX_load rfl rfl rfl (by simp [Stay, OneD, NoD, *]) hs0 (by simp [*]) (fun K hK => ?_); go_step; refine hK _ _ ?_; clear hK K))
          refine wpX_eff rfl rfl (fun _ _ => ?_)
          go_step
          refine (HU2.out _ _ (by have := H.ownPs 5 rfl; rw [H3.out] at this; exact this)).mono ?_
          rintro _ w13 ⟨sa2, ca2, rfl, hb⟩
          replace hs0 := hs0.belowS hz0 hb
          replace hz0 := Nat.le_trans hz0 hb.size
          replace H := H.below hb
          clear hb
          try clear C
          have C := H.cells
          try simp only [cellsOf, cellsM, apartOf, apartM, and_true] at C
          try clear w12
          dsimp only
          go_step
          refine ⟨hs0, ?_⟩
          repeat (first | (refine wpX_skip rfl ?_; go_simp) | (refine wpX_free rfl rfl rfl (fun K hK => ?_); go_step; refine hK _ _ ?_; clear hK K) | (refine wpX_load rfl rfl rfl (by simp [Stay, OneD, NoD, *]) hs0 (by simp [*]) (fun K hK => ?_); go_step; refine hK _ _ ?_; clear hK K))
          refine wpX_eff rfl rfl (fun _ _ => ?_)
          go_step
          refine (HU1.out _ _ (by have := H.ownPs2 1 2 rfl rfl rfl; rw [HPS.out] at this; exact this)).mono ?_
          rintro _ w14 ⟨sa3, ca3, rfl, hb⟩
          replace hs0 := hs0.belowS hz0 hb
          replace hz0 := Nat.le_trans hz0 hb.size
          replace H := H.below hb
          clear hb
          try clear C
          have C := H.cells
          try simp only [cellsOf, cellsM, apartOf, apartM, and_true] at C
          try clear w13
          dsimp only
          go_step
          refine ⟨hs0, ?_⟩
          repeat (first | (refine wpX_skip rfl ?_; go_simp) | (refine wpX_free rfl rfl rfl (fun K hK => ?_); go_step; refine hK _ _ ?_; clear hK K) | (refine wpX_load rfl rfl rfl (by simp [Stay, OneD, NoD, *]) hs0 (by simp [*]) (fun K hK => ?_); go_step; refine hK _ _ ?_; clear hK K))
          refine wpX_eff rfl rfl (fun _ _ => ?_)
          go_step
          refine (HU3.out _ _ (by have := H.ownPs 6 rfl; rw [H4.out] at this; exact this)).mono ?_
          rintro _ w15 ⟨sa4, ca4, rfl, hb⟩
          replace hs0 := hs0.belowS hz0 hb
          replace hz0 := Nat.le_trans hz0 hb.size
          replace H := H.below hb
          clear hb
          try clear C
          have C := H.cells
          try simp only [cellsOf, cellsM, apartOf, apartM, and_true] at C
          try clear w14
          dsimp only
          go_step
          refine ⟨hs0, ?_⟩
          repeat (first | (refine wpX_skip rfl ?_; go_simp) | (refine wpX_free rfl rfl rfl (fun K hK => ?_); go_step; refine hK _ _ ?_; clear hK K) | (refine wpX_load rfl rfl rfl (by simp [Stay, OneD, NoD, *]) hs0 (by simp [*]) (fun K hK => ?_); go_step; refine hK _ _ ?_; clear hK K))
          (refine wpX_nil ?_; go_step)
          go_wp2_with fail
          go_roundw
          case rel => exact ⟨j + 1, by go_num, by omega, HS.less (L' := [.dice w.heap.size bd, .row (.slice (some ⟨g, 0, none⟩) qs.length d) 31 5 qs.length (qs.flatMap pvC), Item.many (qs.flatMap innerR), .blk bP #[.int .i64 pi, .bool pt, .bool pd, .slice (some ⟨bg, og, none⟩) pg.length pc, .slice tb td.length tc] 31]) H (by repeat (first | exact .slnil | refine .cons_cons _ ?_ | refine .cons _ ?_))⟩
          case measure => simp [intOf]; omega
      · have hje : j = pg.length := by omega
        subst hje
        clear HFR hj hlk
        have HEN := Lib.hid (fun v w h => oend_any pi (show (10 : Int) ≤ 64 by decide) (v := v) HGD.out w h)
        cases hd : pd with
        | true =>
          subst hd
          have hed := endP_dead HGD.out hkp (by rw [HPE.out])
          rw [HPE.out] at hed
          dsimp only at hed
          rw [hed] at HEN
          clear hed
          skip
          go_wp2_with fail
          refine (HEN.out _ _ (by have := H.ownPs2 1 2 rfl rfl rfl; rw [HPS.out] at this; exact this)).mono ?_
          rintro _ wa ⟨v3, r3, sg, cg, rfl, h3', K⟩
          replace H := H.join K (fun A hA => by simp only [List.mem_cons, List.mem_nil_iff, or_false] at hA; rcases hA with rfl | rfl <;> rfl)
          clear K HEN
          simp only [List.nil_append, List.cons_append] at H
          skip
          try clear C
          try simp only [World.size_alloc, List.nil_append, List.cons_append, List.append_assoc] at H
          have C := H.cells
          try simp only [cellsOf, cellsM, apartOf, apartM, and_true] at C
          dsimp only
          go_wp2_with fail
          refine (HAW.out _).mono ?_
          rintro _ w16 ⟨rfl, hb⟩
          replace H := H.below hb
          clear hb
          try clear C
          try simp only [World.size_alloc, List.nil_append, List.cons_append, List.append_assoc] at H
          try clear wa
          have C := H.cells
          try simp only [cellsOf, cellsM, apartOf, apartM, and_true] at C
          dsimp only
          go_wp2_with fail
          go_ret
          exact ⟨rfl, H.done⟩
        | false =>
          subst hd
          have hlv := live_find HGD.out.asc hkp (by rw [HPE.out])
          rw [HPE.out] at hlv
          have hed := endP_of hlv
          have hone : Hid (∀ f, f ∈ goneK ps (endX ps k) 64 → cnt ps f = 1 ∧ cnt (endX ps k) f = 0) := fun f hf => gone_one HGD.out hkp hf
          have hal := alone_gone HGD.out (show (10 : Int) ≤ 64 by decide) hkp
          rw [HPE.out] at hal
          dsimp only at hed hal
          have hga := goneK_asc ps (endX ps k) 64
          have hgk := goneK_len ps (endX ps k) 64
          have hgX := (HGD.out.ends hed).1
          rw [hed] at HEN
          obtain ⟨X, hX⟩ : ∃ X, X = endX ps k := ⟨_, rfl⟩
          rw [← hX] at HEN hone hal hga hgk hgX
          obtain ⟨G, hG⟩ : ∃ G, G = goneK ps X 64 := ⟨_, rfl⟩
          rw [← hG] at HEN hone hal hga hgk
          have HGA := Lib.hid hga
          have HAL := Lib.hid hal
          have HXS := Lib.hid hgX.smallP
          clear hX hG hed hlv hal hga hgX
          skip
          go_wp2_with fail
          refine (HEN.out _ _ (by have := H.ownPs2 1 2 rfl rfl rfl; rw [HPS.out] at this; exact this)).mono ?_
          rintro _ wa ⟨v3, r3, sg, cg, rfl, h3', K⟩
          replace H := H.join K (fun A hA => by simp only [List.mem_cons, List.mem_nil_iff, or_false] at hA; rcases hA with rfl | rfl <;> rfl)
          clear K HEN
          simp only [List.nil_append, List.cons_append] at H
          have H3 := Lib.hid (show r3.map (·.p) = X from h3')
          clear h3'
          skip
          try clear C
          try simp only [World.size_alloc, List.nil_append, List.cons_append, List.append_assoc] at H
          have C := H.cells
          try simp only [cellsOf, cellsM, apartOf, apartM, and_true] at C
          dsimp only
          go_wp2_with fail
          go_loopw [19, 139] (fun nn jj wr => ∃ (j : Nat), jj = .int .i64 j ∧ j ≤ pg.length ∧ nn = .int .i64 (aloneN ps (pg.take j)) ∧ HS NoD w [.dice w.heap.size bd, .row (.slice (some ⟨g, 0, none⟩) qs.length d) 31 5 qs.length (qs.flatMap pvC), Item.many (qs.flatMap innerR), .blk bP #[.int .i64 pi, .bool pt, .bool false, .slice pb pg.length pc, .slice tb td.length tc] 31, Item.many (PsR v3 r3), .row (.slice sg G.length cg) 3 1 G.length (G.flatMap iC)] wr) (fun _ jj _ => pg.length - (intOf jj).toNat)
          case atStart => exact ⟨0, rfl, Nat.zero_le _, rfl, H⟩
          case round =>
            clear H C
            obtain ⟨j, rfl, hj, rfl, H⟩ := hrel
            skip
            try clear C
            try simp only [World.size_alloc, List.nil_append, List.cons_append, List.append_assoc] at H
            have C := H.cells
            try simp only [cellsOf, cellsM, apartOf, apartM, and_true] at C
            by_cases hlk : j < pg.length
            · have HAS := Lib.hid (aloneN_succ ps hlk)
              have hal : aloneN ps (pg.take j) ≤ 16 := by
                unfold aloneN
                have := List.length_filter_le (fun x : Pg => decide (cnt ps x.f = 1)) (pg.take j)
                rw [List.length_take] at this
                omega
              generalize aloneN ps (pg.take j) = nn at *
              obtain ⟨bg, og, e9, hbg, hcg⟩ := (H.pagesLies 2 rfl hk HPF.out).at hlk
              obtain rfl : pb = some ⟨bg, og, none⟩ := e9
              obtain ⟨xo, hxo⟩ : ∃ x, x = pg[j]! := ⟨_, rfl⟩
              rw [← hxo] at hcg HAS
              clear hxo
              obtain ⟨xn, xf, xs⟩ := xo
              dsimp only at HAS
              obtain ⟨c1, hc1⟩ : ∃ n, n = cnt ps xf := ⟨_, rfl⟩
              have HU1 := Lib.hid (fun v w h => users_cnt xf (v := v) HGD.out.smallP w h hc1.symm)
              rw [← hc1] at HAS
              clear hc1
              have d0 : wr.cell? ⟨bg, og + j * 3, none⟩ = some (.int .i64 xn) := hcg 0 _ rfl
              have d1 : wr.cell? ⟨bg, og + j * 3 + 1, none⟩ = some (.int .i64 xf) := hcg 1 _ rfl
              have d2 : wr.cell? ⟨bg, og + j * 3 + 2, none⟩ = some (.bool xs) := hcg 2 _ rfl
              clear hcg
              go_upto_region 21 with fail
              clear d0 d1 d2
              generalize hwb : wr.alloc _ = w17
              replace H := HS.eqW hwb H.alloc
              try simp only [World.size_alloc, List.nil_append, List.cons_append, List.append_assoc] at H
              clear hwb
              generalize wr.heap.size = bY at H ⊢
              try clear C
              try clear wr
              have C := H.cells
              try simp only [cellsOf, cellsM, apartOf, apartM, and_true] at C
              go_wp2_with fail
              refine (HU1.out _ _ (by have := H.ownPs2 1 2 rfl rfl rfl; rw [HPS.out] at this; exact this)).mono ?_
              rintro _ w18 ⟨sa1, ca1, rfl, hb⟩
              replace H := H.below hb
              clear hb
              try clear C
              try simp only [World.size_alloc, List.nil_append, List.cons_append, List.append_assoc] at H
              try clear w17
              have C := H.cells
              try simp only [cellsOf, cellsM, apartOf, apartM, and_true] at C
              dsimp only
              by_cases h1 : c1 = 1
              · rw [if_pos h1] at HAS
                subst h1
                skip
                go_wp2_with fail
                go_roundw
                case rel => exact ⟨j + 1, by go_num, by omega, by rw [HAS.out]; rfl, H.less (by repeat (first | exact .slnil | refine .cons_cons _ ?_ | refine .cons _ ?_))⟩
                case measure => simp [intOf]; omega
              · rw [if_neg h1] at HAS
                have hn2 : ((c1 : Int) == 1) = false := by simp; omega
                skip
                go_wp2_with fail
                go_roundw
                case rel => exact ⟨j + 1, by go_num, by omega, by rw [HAS.out]; rfl, H.less (by repeat (first | exact .slnil | refine .cons_cons _ ?_ | refine .cons _ ?_))⟩
                case measure => simp [intOf]; omega
            · have hje : j = pg.length := by omega
              subst hje
              rw [List.take_length, HAL.out]
              go_wp2_with fail
              go_loopw [154] (fun mm wr => ∃ (m : Nat), mm = .int .i64 m ∧ m ≤ G.length ∧ HS NoD w [.dice w.heap.size bd, .row (.slice (some ⟨g, 0, none⟩) qs.length d) 31 5 qs.length (qs.flatMap pvC), Item.many (qs.flatMap innerR), .blk bP #[.int .i64 pi, .bool pt, .bool false, .slice pb pg.length pc, .slice tb td.length tc] 31, Item.many (PsR v3 r3), .row (.slice sg G.length cg) 3 1 G.length (G.flatMap iC)] wr) (fun mm _ => G.length - (intOf mm).toNat)
              case atStart => exact ⟨0, rfl, Nat.zero_le _, H⟩
              case round =>
                clear H C
                obtain ⟨m, rfl, hm, H⟩ := hrel
                skip
                try clear C
                try simp only [World.size_alloc, List.nil_append, List.cons_append, List.append_assoc] at H
                have C := H.cells
                try simp only [cellsOf, cellsM, apartOf, apartM, and_true] at C
                by_cases hlm : m < G.length
                · obtain ⟨bg, og, e9, hbg, hcg⟩ := (H.rowLies 5 iC_len rfl rfl).at hlm
                  obtain rfl : sg = some ⟨bg, og, none⟩ := e9
                  have hf := hone.out _ (at_mem hlm)
                  have hasc : ∀ m', m' + 1 = m → G[m']! < G[m]! := fun m' h => by
                    have := List.pairwise_iff_getElem.1 HGA.out m' m (by omega) hlm (by omega)
                    rwa [← getElem!_pos G m' (by omega), ← getElem!_pos G m hlm] at this
                  obtain ⟨f, hff⟩ : ∃ f, f = G[m]! := ⟨_, rfl⟩
                  rw [← hff] at hf hcg hasc
                  clear hff
                  have HU1 := Lib.hid (fun v w h => users_cnt f (v := v) HGD.out.smallP w h hf.1)
                  have HU2 := Lib.hid (fun v w h => users_cnt f (v := v) HXS.out w h hf.2)
                  clear hf
                  have d0 : wr.cell? ⟨bg, og + m, none⟩ = some (.int .i64 f) := by simpa using hcg 0 _ rfl
                  clear hcg
                  cases m with
                  | zero =>
                    replace d0 : wr.cell? ⟨bg, og, none⟩ = some (.int .i64 f) := d0
                    go_upto_region 27 with fail
                    clear d0
                    go_wp2_with fail
                    refine (HU1.out _ _ (by have := H.ownPs2 1 2 rfl rfl rfl; rw [HPS.out] at this; exact this)).mono ?_
                    rintro _ w19 ⟨sa1, ca1, rfl, hb⟩
                    replace H := H.below hb
                    clear hb
                    try clear C
                    try simp only [World.size_alloc, List.nil_append, List.cons_append, List.append_assoc] at H
                    try clear wr
                    have C := H.cells
                    try simp only [cellsOf, cellsM, apartOf, apartM, and_true] at C
                    dsimp only
                    go_wp2_with fail
                    refine (HU2.out _ _ (by have := H.ownPs 4 rfl; rw [H3.out] at this; exact this)).mono ?_
                    rintro _ w20 ⟨sa2, ca2, rfl, hb⟩
                    replace H := H.below hb
                    clear hb
                    try clear C
                    try simp only [World.size_alloc, List.nil_append, List.cons_append, List.append_assoc] at H
                    try clear w19
                    have C := H.cells
                    try simp only [cellsOf, cellsM, apartOf, apartM, and_true] at C
                    dsimp only
                    go_wp2_with fail
                    go_roundw
                    case rel => exact ⟨1, by go_num, by omega, H⟩
                    case measure => simp [intOf]; omega
                  | succ m =>
                    have hlt := hasc m rfl
                    obtain ⟨f0, hf0⟩ : ∃ f0, f0 = G[m]! := ⟨_, rfl⟩
                    have HF0 := Lib.hid hf0
                    rw [← hf0] at hlt
                    clear hf0 hasc
                    have hge : ¬ f ≤ f0 := by omega
                    skip
                    go_upto_region 27 with fail
                    clear d0
                    go_wp2_with fail
                    refine (HU1.out _ _ (by have := H.ownPs2 1 2 rfl rfl rfl; rw [HPS.out] at this; exact this)).mono ?_
                    rintro _ w21 ⟨sa1, ca1, rfl, hb⟩
                    replace H := H.below hb
                    clear hb
                    try clear C
                    try simp only [World.size_alloc, List.nil_append, List.cons_append, List.append_assoc] at H
                    try clear wr
                    have C := H.cells
                    try simp only [cellsOf, cellsM, apartOf, apartM, and_true] at C
                    dsimp only
                    go_wp2_with fail
                    refine (HU2.out _ _ (by have := H.ownPs 4 rfl; rw [H3.out] at this; exact this)).mono ?_
                    rintro _ w22 ⟨sa2, ca2, rfl, hb⟩
                    replace H := H.below hb
                    clear hb
                    try clear C
                    try simp only [World.size_alloc, List.nil_append, List.cons_append, List.append_assoc] at H
                    try clear w21
                    have C := H.cells
                    try simp only [cellsOf, cellsM, apartOf, apartM, and_true] at C
                    dsimp only
                    obtain ⟨bh, oh, e8, hbh, hch⟩ := (H.rowLies 5 iC_len rfl rfl).at (show m < G.length by omega)
                    obtain ⟨rfl, rfl⟩ : bh = bg ∧ oh = og := by simpa using e8.symm
                    have d1 : w22.cell? ⟨bh, oh + m, none⟩ = some (.int .i64 f0) := by rw [HF0.out]; simpa using hch 0 _ rfl
                    clear hch e8
                    go_wp2_with fail
                    go_roundw
                    case rel => exact ⟨m + 2, by go_num, by omega, H⟩
                    case measure => simp [intOf]; omega
                · go_wp2_with fail
                  refine (HAW.out _).mono ?_
                  rintro _ w23 ⟨rfl, hb⟩
                  replace H := H.below hb
                  clear hb
                  try clear C
                  try simp only [World.size_alloc, List.nil_append, List.cons_append, List.append_assoc] at H
                  try clear w22
                  have C := H.cells
                  try simp only [cellsOf, cellsM, apartOf, apartM, and_true] at C
                  dsimp only
                  go_wp2_with fail
                  go_ret
                  exact ⟨rfl, H.done⟩
  · rw [decide_eq_false h400] at hli
    have HLI := Lib.hid hli
    clear hli
    go_enter Try.func5, Try.ntmps5
    have H := HS.start NoD w
    go_wp2_with fail
    refine (gives_of (HLI.out _)).mono ?_
    rintro _ w1 ⟨rfl, hb⟩
    replace H := H.below hb
    clear hb
    try clear C
    try simp only [World.size_alloc, List.nil_append, List.cons_append, List.append_assoc] at H
    have C := H.cells
    try simp only [cellsOf, cellsM, apartOf, apartM, and_true] at C
    dsimp only
    go_wp2_with fail
    refine (HAW.out _).mono ?_
    rintro _ w2 ⟨rfl, hb⟩
    replace H := H.below hb
    clear hb
    try clear C
    try simp only [World.size_alloc, List.nil_append, List.cons_append, List.append_assoc] at H
    try clear w1
    have C := H.cells
    try simp only [cellsOf, cellsM, apartOf, apartM, and_true] at C
    dsimp only
    go_wp2_with fail
    go_ret
    exact ⟨rfl, H.done⟩
end Go.Proofs.Ytmnddnlabdafcaa
