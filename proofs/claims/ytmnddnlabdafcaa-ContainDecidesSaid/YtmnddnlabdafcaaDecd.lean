/- The statement ContainDecides: its walk. -/
import Derived.Test.YtmnddnlabdafcaaRDec
namespace Go.Proofs.Ytmnddnlabdafcaa
set_option linter.unusedSimpArgs false
set_option linter.unusedVariables false
open Go.RowKit
set_option maxRecDepth 100000
attribute [local go_sem] lt_more ne_more ne_more'
attribute [local irreducible] wpX wpF Calls

theorem gives_ofD {n : Nat} {args : Array Value} {v : Value} {w : World} (h : Calls Try.prog n args w fun e w' => e = .returned v ∧ w = w') : Calls Try.prog n args w (Gives v w) :=
  h.mono fun e w' ⟨h1, h2⟩ => ⟨h1, h2 ▸ Below.refl _ _⟩
theorem dec_short {F : List Fr} {ps : List Pr} (f tq : Int) : (decP (okB F ps) F ps f tq).2.length ≤ 200000 := by
  cases hb : okB F ps with
  | false => exact Nat.zero_le _
  | true =>
    have hb' : (frB F && goodB F.length ps) = true := hb
    rw [Bool.and_eq_true] at hb'
    have hg := goodB_iff.1 hb'.2
    have h1 := users_short hg f
    unfold decP
    have h2 : (vicP ps f ++ [(⟨1, f, 0, 0, 0⟩ : Dd)]).length ≤ 200000 := by
      rw [List.length_append]
      unfold vicP
      rw [List.length_map]
      simp
      omega
    dsimp only
    repeat' split
    all_goals first
      | exact h2
      | exact Nat.zero_le _
      | (simp; done)
set_option maxHeartbeats 16000000 in
theorem decd_walk (sa : Option Addr) (len cap : Nat) (hl : len ≤ maxLen) (f tz what : Int) (w : World) (hI : Ints w sa len) :
    Calls Try.prog 8 #[.slice sa len cap, .int .i64 f, .int .i64 tz, .int .i64 what] w (Gives (.bool true) w) := by
  have HI := Lib.hid hI
  clear hI
  have hli := light_any sa len cap hl
  clear hl
  have HAW := Lib.hid awake33_any
  by_cases h400 : len ≤ 400
  · rw [decide_eq_true h400] at hli
    have HLI := Lib.hid hli
    clear hli
    go_enter Try.func8, Try.ntmps8
    have H := HS.start NoD w
    go_wp2_with fail
    refine (gives_ofD (HLI.out _)).mono ?_
    rintro _ w1 ⟨rfl, hb⟩
    replace H := H.below hb
    clear hb
    try clear C
    try simp only [World.size_alloc, List.nil_append, List.cons_append, List.append_assoc] at H
    have C := H.cells
    try simp only [cellsOf, cellsM, apartOf, apartM, and_true] at C
    dsimp only
    go_wp2_with fail
    refine (roll_at w.heap.size _ _ _ h400 _ H.size (H.ints HI.out)).mono ?_
    rintro _ w2 ⟨bd, rfl, hd, hb, hbb⟩
    replace H := H.getsDice hb hd hbb (Nat.le_refl _)
    clear hb hd hbb
    try clear C
    try simp only [World.size_alloc, List.nil_append, List.cons_append, List.append_assoc] at H
    try clear w1
    have C := H.cells
    try simp only [cellsOf, cellsM, apartOf, apartM, and_true] at C
    dsimp only
    go_wp2_with fail
    refine (mheld_any w.heap.size bd _ (H.at 0 rfl) H.size).mono ?_
    rintro _ w2 ⟨v1, F, u, qs, rfl, hhe, K⟩
    replace H := HS.joinDice H 0 rfl K (fun A hA => by simp only [List.mem_cons, List.mem_nil_iff, or_false] at hA; rcases hA with rfl | rfl <;> rfl)
    clear K
    simp only [List.nil_append, List.cons_append] at H
    have hF1 := hhe.fr.low
    have hF2 := hhe.fr.high
    obtain ⟨sf, cf, rfl⟩ := ownsRow_slice (H.at 1 rfl)
    have h3 := hhe.pr.three
    have hgl := hhe.pr.good.len
    have hsm := hhe.pr.good.small
    rw [List.length_map] at h3 hgl
    have HSM := Lib.hid hsm
    have HGD := Lib.hid hhe.pr.good
    clear hhe hsm
    skip
    try clear C
    try simp only [World.size_alloc, List.nil_append, List.cons_append, List.append_assoc] at H
    have C := H.cells
    try simp only [cellsOf, cellsM, apartOf, apartM, and_true] at C
    dsimp only
    obtain ⟨md, hmd⟩ : ∃ md, md = modF what 8 := ⟨_, rfl⟩
    have HMC := Lib.hid (fun w => gives_ofD (mod_any what 8 w))
    have hmb := modF_in (n := what) (m := 8) (by decide) (by decide)
    rw [← hmd] at hmb HMC
    clear hmd
    go_wp2_with fail
    refine (HMC.out _).mono ?_
    rintro _ w3 ⟨rfl, hb⟩
    replace H := H.below hb
    clear hb
    try clear C
    try simp only [World.size_alloc, List.nil_append, List.cons_append, List.append_assoc] at H
    try clear w2
    have C := H.cells
    try simp only [cellsOf, cellsM, apartOf, apartM, and_true] at C
    dsimp only
    clear HMC
    obtain ⟨g, d, pb, pc, tb, tc, rfl, hcap, hpa, hta, H2⟩ := HS.openAt (L := [_, _]) H (i := 0) (by omega)
    go_upto_block 0 with fail
    go_cut [9, 10] from 29 to 56 (fun y z wx => ∃ (F : List Fr) (sf : Option Addr) (cf : Nat) (u : Value) (qs : List Pv), y = .slice sf F.length cf ∧ u = z ∧ (1 ≤ F.length ∧ F.length ≤ 65) ∧ Hid (SmallP (qs.map (·.p))) ∧ HS NoD w [.dice w.heap.size bd, .row (.slice sf F.length cf) 66 2 F.length (F.flatMap frC), Item.many (PsR u qs)] wx)
    case first =>
      skip
      by_cases m0 : md = 0
      · subst m0
        clear H2
        have HMW := Lib.hid (fun w => gives_ofD (mod_any (wrap64 (what.tdiv 8)) 8 w))
        have hmw := modF_in (n := wrap64 (what.tdiv 8)) (m := 8) (by decide) (by decide)
        generalize modF (wrap64 (what.tdiv 8)) 8 = u8 at HMW hmw
        have hw1 : IntKind.i64.wrap (u8 - 1) = u8 - 1 := IntWalk.i64_in _ (by omega)
        go_wp2_with fail
        refine (HMW.out _).mono ?_
        rintro _ w4 ⟨rfl, hb⟩
        replace H := H.below hb
        clear hb
        try clear C
        try simp only [World.size_alloc, List.nil_append, List.cons_append, List.append_assoc] at H
        try clear w3
        have C := H.cells
        try simp only [cellsOf, cellsM, apartOf, apartM, and_true] at C
        dsimp only
        go_wp2_with (at_builtin; refine wpList_append_H rfl (.tmp 31) (.tmp 37) 62 rfl elemFr H.alloc 1 rfl rfl 3 rfl rfl rfl rfl (by decide) (by unfold maxLen; omega) (by omega) (fun g9 c9 wz HZ => ?_); clear H)
        simp only [List.nil_append, List.cons_append, List.append_assoc, List.set_cons_succ, List.set_cons_zero] at HZ
        go_meet
        case rel => exact ⟨F ++ [⟨u8 - 1, 0⟩], some ⟨g9, 0, none⟩, c9, _, qs, (by rw [List.length_append]; rfl), rfl, (by rw [List.length_append]; simp; omega), HSM.out, (by rw [List.length_append, List.flatMap_append]; exact HS.less HZ (by repeat (first | exact .slnil | refine .cons_cons _ ?_ | refine .cons _ ?_)))⟩
      · by_cases m1 : md = 1
        · subst m1
          clear H
          have H := H2
          clear H2 m0
          simp only [List.nil_append, List.cons_append] at H
          obtain ⟨pv, hpv⟩ : ∃ q, q = qs[0]! := ⟨_, rfl⟩
          rw [← hpv] at H hpa hta
          have HPV := Lib.hid hpv
          have hgp := HGD.out.one _ (show (qs[0]!).p ∈ qs.map (·.p) from List.mem_map.2 ⟨_, mem_at (show 0 < qs.length by omega), rfl⟩)
          rw [← hpv] at hgp
          clear hpv
          obtain ⟨⟨pi, pt, pd, pg, td⟩, pa, ta⟩ := pv
          have f1 : pa = .slice pb pg.length pc := hpa
          have f2 : ta = .slice tb td.length tc := hta
          have hpl : pg.length ≤ 16 := hgp.plen
          have hptl : td.length ≤ 200 := hgp.told
          clear hpa hta hgp
          subst f1 f2
          dsimp only at H
          obtain ⟨wq, hwq⟩ : ∃ x, x = wrap64 (what.tdiv 8) := ⟨_, rfl⟩
          have HWQ := Lib.hid hwq
          clear hwq
          have HM12 := Lib.hid (fun w => gives_ofD (mod_any wq 12 w))
          generalize modF wq 12 = u12 at HM12
          have hir : 0 < qs.length := by omega
          have hqi : (0 : Int) < qs.length := by omega
          skip
          try clear C
          try simp only [World.size_alloc, List.nil_append, List.cons_append, List.append_assoc] at H
          have C := H.cells
          try simp only [cellsOf, cellsM, apartOf, apartM, and_true] at C
          go_upto_region 9 with fail
          have hX : ¬ (Value.slice pb pg.length pc).ownBlock = some g := fun e => H.apart (i := 3) (j := 2) rfl rfl (by decide) e rfl
          refine wp_region_hz (by kernel_rfl) [0, 1, 2, 3, 4, 5, 6, 7, 8, 9, 10, 11, 12] (by kernel_rfl) (by kernel_rfl) (by kernel_rfl) rfl (fun k => (Value.slice pb pg.length pc).ownBlock = some k) (H) ?_
          clear H; intro w5 H hz0
          try clear C
          try simp only [World.size_alloc, List.nil_append, List.cons_append, List.append_assoc] at H hz0 ⊢
          clear hz0
          try clear w3
          have C := H.cells
          try simp only [cellsOf, cellsM, apartOf, apartM, and_true] at C
          have Z := H.zs
          try simp only [ltsOf, ltsM, and_true] at Z
          simp only [List.filterMap_cons, List.filterMap_nil, List.getElem?_toArray, List.getElem?_cons_zero, List.getElem?_cons_succ]
          have hgb : g < w5.heap.size := Item.lt (H.at 2 rfl) (k := g) rfl
          have k3 : w5.cell? ⟨g, 3, none⟩ = some (.slice pb pg.length pc) := by have := (H.outerCell 2 rfl rfl hir (m := 3) (u := .slice pb pg.length pc) (by decide) (by rw [← HPV.out]; rfl)).1; simpa using this
          (refine wpH_free rfl rfl rfl (fun _ _ => ?_); go_step; go_step)
          (refine wpH_free rfl rfl rfl (fun _ _ => ?_); go_step; go_step)
          (refine wpH_yield rfl rfl (.pointer (some ⟨g, 0, none⟩)) (fun w _ => by go_simp) ?_; go_simp)
          (refine wpH_free rfl rfl rfl (fun _ _ => ?_); go_step; go_step)
          (refine wpH_load rfl rfl rfl (by simp [Stay, OneD, NoD, *]) (by simp [*]) (fun _ _ => ?_); go_step; go_step)
          (refine wpH_free rfl rfl rfl (fun _ _ => ?_); go_step; go_step)
          (refine wpH_yield rfl rfl (.int .i64 wq ) (fun w _ => by  (rw [HWQ.out]; go_simp <;> simp only [IntKind.wrap_i64, wrap64])) ?_; go_simp)
          (refine wpH_call rfl rfl (fun wc hc _ _ => ?_); go_step; refine (HM12.out _).mono ?_; rintro _ wd ⟨rfl, hb⟩; dsimp only; go_step; refine ⟨_, (hc.belowH (fun _ h => h.1) hb).1, (hc.belowH (fun _ h => h.1) hb).2, ?_⟩; clear hb hc wc wd)
          (refine wpH_free rfl rfl rfl (fun _ _ => ?_); go_step; go_step)
          (refine wpH_lit rfl rfl #[.int .i64 9, .int .i64 u12, .bool false]   37 1 (fun w => by kernel_rfl) (fun bL hbL nbL _ _ => ?_); go_simp; go_step)
          refine wpH_append rfl (.tmp 48) (.tmp 53) 29 rfl elemPg 3 rfl rfl (fun b hb hS => hS.2 hb) (fun _ h => h.1) rfl (fun w hc => src_lit (Fl.at _ _ _) hc) rfl (fun y hy => pgC_one [⟨9, u12, false⟩] y (by simpa [pgC] using hy)) (by unfold maxLen; omega) (by omega) (N := pg.length + 1) rfl (fun s2 c2 hs2 => ?_)
          (refine wpH_yield rfl rfl (.pointer (some ⟨g, 0, none⟩)) (fun w _ => by go_simp) ?_; go_simp)
          (refine wpH_free rfl rfl rfl (fun _ _ => ?_); go_step; go_step)
          refine wpH_nil ?_
          intro w6 hC
          replace H := hC.hs
          clear hC
          try clear C
          try clear Z
          try simp only [List.nil_append, List.cons_append, List.append_assoc, List.set_cons_succ, List.set_cons_zero] at H
          try clear w5
          have C := H.cells
          try simp only [cellsOf, cellsM, apartOf, apartM, and_true] at C
          clear k3 hgb hX
          have k3 : w6.cell? ⟨g, 3, none⟩ = some (.slice pb pg.length pc) ∧ w6.frozen? ⟨g, 3, none⟩ = false := by have := (H.outerCell 2 rfl rfl hir (m := 3) (u := .slice pb pg.length pc) (by decide) (by rw [← HPV.out]; rfl)); simpa using this
          obtain ⟨k3, k3f⟩ := k3
          go_wp2_with fail
          clear k3 k3f
          go_meet
          case rel =>
            obtain ⟨q', hq'⟩ : ∃ q' : Pv, q' = ⟨⟨pi, pt, pd, pg ++ [⟨9, u12, false⟩], td⟩, .slice s2 (pg.length + 1) c2, .slice tb td.length tc⟩ := ⟨_, rfl⟩
            have H9 := H.rowSet 2 rfl 3 (.slice s2 (pg.length + 1) c2)
            have hpv : pvC q' = (pvC qs[0]!).set 3 (.slice s2 (pg.length + 1) c2) := by rw [hq', ← HPV.out]; rfl
            have e7 : (pg ++ ([⟨9, u12, false⟩] : List Pg)).flatMap pgC = pg.flatMap pgC ++ [.int .i64 9, .int .i64 u12, .bool false] := by rw [List.flatMap_append]; rfl
            have H8 := HS.shutAt (L := [.dice w.heap.size bd, .row (.slice sf F.length cf) 66 2 F.length (F.flatMap frC)]) (g := g) (d := d) (rs := qs) (i := 0) (cells := (qs.flatMap pvC).set (0 * 5 + 3) (.slice s2 (pg.length + 1) c2)) q' (by
              rw [hq']; unfold pagesR toldR; dsimp only; rw [List.length_append, e7]
              exact HS.less H9 (by repeat (first | exact .slnil | refine .cons_cons _ ?_ | refine .cons _ ?_))) hir (flat_set pvC_len qs 0 3 _ _ hir (by decide) hpv).symm
            have hsm9 : SmallP ((qs.set 0 q').map (·.p)) := by
              rw [List.map_set]
              exact setSmall HSM.out 0 (by rw [hq']; dsimp only; rw [List.length_append]; simp; omega)
            exact ⟨F, sf, cf, _, qs.set 0 q', rfl, rfl, by omega, hsm9, H8⟩
        · have m0b : (md == 0) = false := beq_eq_false_iff_ne.2 m0
          have m1b : (md == 1) = false := beq_eq_false_iff_ne.2 m1
          clear H2
          skip
          go_wp2_with fail
          go_meet
          case rel => exact ⟨F, sf, cf, _, qs, rfl, rfl, by omega, HSM.out, H⟩
    case rest =>
      clear H C H2 HSM HGD hF1 hF2 h3 hgl hmb
      obtain ⟨F, sf, cf, u, qs, rfl, rfl, ⟨hF1, hF2⟩, HSM, H⟩ := hcut
      skip
      try clear C
      try simp only [World.size_alloc, List.nil_append, List.cons_append, List.append_assoc] at H
      have C := H.cells
      try simp only [cellsOf, cellsM, apartOf, apartM, and_true] at C
      have HD1 := Lib.hid (fun f tq w hl hp => cdecide_gen (F := F) (by omega) HSM.out cf (sa := sf) (v := u) w hl hp f tq)
      have HD2 := Lib.hid (fun f tq w hl hp => rdecide_gen (F := F) (by omega) HSM.out f tq cf (sa := sf) (v := u) w hl hp)
      have HDL := Lib.hid (dec_short (F := F) (ps := qs.map (·.p)))
      have hL2 : IntKind.i64.wrap ((F.length : Int) + 2) = (F.length : Int) + 2 := IntWalk.i64_in _ (by omega)
      have HM1 := Lib.hid (fun w => gives_ofD (mod_any f ((F.length : Int) + 2) w))
      have HM2 := Lib.hid (fun w => gives_ofD (mod_any tz ((F.length : Int) + 2) w))
      have HM3 := Lib.hid (fun w => gives_ofD (mod_any f (F.length : Int) w))
      have hm1 := modF_in (n := f) (m := (F.length : Int) + 2) (by omega) (by omega)
      have hm2 := modF_in (n := tz) (m := (F.length : Int) + 2) (by omega) (by omega)
      generalize modF f ((F.length : Int) + 2) = m1 at HM1 hm1
      generalize modF tz ((F.length : Int) + 2) = m2 at HM2 hm2
      generalize modF f (F.length : Int) = m3 at HM3
      have q1 : IntKind.i64.wrap (m1 - 1) = m1 - 1 := IntWalk.i64_in _ (by omega)
      have q2 : IntKind.i64.wrap (m2 - 1) = m2 - 1 := IntWalk.i64_in _ (by omega)
      go_wp2_with fail
      refine (HM1.out _).mono ?_
      rintro _ w7 ⟨rfl, hb⟩
      replace H := H.below hb
      clear hb
      try clear C
      try simp only [World.size_alloc, List.nil_append, List.cons_append, List.append_assoc] at H
      try clear wc
      have C := H.cells
      try simp only [cellsOf, cellsM, apartOf, apartM, and_true] at C
      dsimp only
      go_wp2_with fail
      refine (HM2.out _).mono ?_
      rintro _ w8 ⟨rfl, hb⟩
      replace H := H.below hb
      clear hb
      try clear C
      try simp only [World.size_alloc, List.nil_append, List.cons_append, List.append_assoc] at H
      try clear w7
      have C := H.cells
      try simp only [cellsOf, cellsM, apartOf, apartM, and_true] at C
      dsimp only
      go_wp2_with fail
      refine (HM3.out _).mono ?_
      rintro _ w9 ⟨rfl, hb⟩
      replace H := H.below hb
      clear hb
      try clear C
      try simp only [World.size_alloc, List.nil_append, List.cons_append, List.append_assoc] at H
      try clear w8
      have C := H.cells
      try simp only [cellsOf, cellsM, apartOf, apartM, and_true] at C
      dsimp only
      go_wp2_with fail
      have hfr := r28free_any (F := F) (by omega) cf w9 (H.rowLies 1 frC_len rfl rfl)
      generalize freeI F = fi at hfr
      refine (hfr).mono ?_
      rintro _ w10 ⟨rfl, hb⟩
      replace H := H.below hb
      clear hb
      try clear C
      try simp only [World.size_alloc, List.nil_append, List.cons_append, List.append_assoc] at H
      try clear w9
      have C := H.cells
      try simp only [cellsOf, cellsM, apartOf, apartM, and_true] at C
      dsimp only
      clear hfr HM1 HM2 HM3 hm1 hm2
      go_upto_region 11 with fail
      generalize hwb : w10.alloc _ = w11
      replace H := HS.eqW hwb H.alloc
      try simp only [World.size_alloc, List.nil_append, List.cons_append, List.append_assoc] at H
      clear hwb
      generalize w10.heap.size = bL at H ⊢
      try clear C
      try clear w10
      have C := H.cells
      try simp only [cellsOf, cellsM, apartOf, apartM, and_true] at C
      generalize f = a0, tz = a1, m1 - 1 = b0, m2 - 1 = b1, m3 = c0, fi = c1 at H
      go_wp2_with fail
      go_loopw [82] (fun jj wr => ∃ (j : Nat), jj = .int .i64 j ∧ j ≤ 3 ∧ HS NoD w [.dice w.heap.size bd, .row (.slice sf F.length cf) 66 2 F.length (F.flatMap frC), Item.many (PsR u qs), .blk bL #[.int .i64 a0, .int .i64 a1, .int .i64 b0, .int .i64 b1, .int .i64 c0, .int .i64 c1] 67] wr) (fun jj _ => 3 - (intOf jj).toNat)
      case atStart => exact ⟨0, rfl, Nat.zero_le _, H⟩
      case round =>
        clear H C
        obtain ⟨j, rfl, hj, H⟩ := hrel
        skip
        try clear C
        try simp only [World.size_alloc, List.nil_append, List.cons_append, List.append_assoc] at H
        have C := H.cells
        try simp only [cellsOf, cellsM, apartOf, apartM, and_true] at C
        by_cases hlt : j < 3
        · obtain ⟨x0, x1, y0, y1⟩ : ∃ x0 x1, wr.cell? ⟨bL, j * 2, none⟩ = some (.int .i64 x0) ∧ wr.cell? ⟨bL, j * 2 + 1, none⟩ = some (.int .i64 x1) := by
            have hB : Blk wr bL _ _ := H.at 3 rfl
            rcases (show j = 0 ∨ j = 1 ∨ j = 2 by omega) with rfl | rfl | rfl
            · exact ⟨_, _, (hB.cell 0).trans rfl, (hB.cell 1).trans rfl⟩
            · exact ⟨_, _, (hB.cell 2).trans rfl, (hB.cell 3).trans rfl⟩
            · exact ⟨_, _, (hB.cell 4).trans rfl, (hB.cell 5).trans rfl⟩
          clear C
          go_upto_region 13 with fail
          clear y0 y1
          generalize hwb : wr.alloc _ = w12
          replace H := HS.eqW hwb H.alloc
          try simp only [World.size_alloc, List.nil_append, List.cons_append, List.append_assoc] at H
          clear hwb
          generalize wr.heap.size = bX at H ⊢
          try clear C
          try clear wr
          have C := H.cells
          try simp only [cellsOf, cellsM, apartOf, apartM, and_true] at C
          have HA := Lib.hid (fun w hl hp => HD1.out x0 x1 w hl hp)
          have HB := Lib.hid (fun w hl hp => HD2.out x0 x1 w hl hp)
          have hds := HDL.out x0 x1
          generalize decP (okB F (qs.map (·.p))) F (qs.map (·.p)) x0 x1 = R at HA HB hds
          obtain ⟨e, l⟩ := R
          dsimp only at hds
          go_wp2_with fail
          refine (HA.out _ (H.rowLies 1 frC_len rfl rfl) (H.ownPs 2 rfl)).mono ?_
          rintro _ w13 ⟨s5, d5, rfl, hr, hb⟩
          replace H := (H).getsRow hb hr
          clear hb hr
          try clear C
          try simp only [World.size_alloc, List.nil_append, List.cons_append, List.append_assoc] at H
          try clear w12
          have C := H.cells
          try simp only [cellsOf, cellsM, apartOf, apartM, and_true] at C
          dsimp only
          try dsimp only at H
          try dsimp only
          try clear C
          try simp only [World.size_alloc, List.nil_append, List.cons_append, List.append_assoc] at H
          have C := H.cells
          try simp only [cellsOf, cellsM, apartOf, apartM, and_true] at C
          go_wp2_with fail
          refine (HB.out _ (H.rowLies 1 frC_len rfl rfl) (H.ownPs 2 rfl)).mono ?_
          rintro _ w14 ⟨s6, d6, rfl, hr, hb⟩
          replace H := (H).getsRow hb hr
          clear hb hr
          try clear C
          try simp only [World.size_alloc, List.nil_append, List.cons_append, List.append_assoc] at H
          try clear w13
          have C := H.cells
          try simp only [cellsOf, cellsM, apartOf, apartM, and_true] at C
          dsimp only
          try dsimp only at H
          try dsimp only
          try clear C
          try simp only [World.size_alloc, List.nil_append, List.cons_append, List.append_assoc] at H
          have C := H.cells
          try simp only [cellsOf, cellsM, apartOf, apartM, and_true] at C
          go_wp2_with fail
          refine (same33_of (xs := l) (by omega) d5 d6 _ (H.rowLies 5 ddC_len rfl rfl) (H.rowLies 6 ddC_len rfl rfl)).mono ?_
          rintro _ w15 ⟨rfl, hb⟩
          replace H := H.below hb
          clear hb
          try clear C
          try simp only [World.size_alloc, List.nil_append, List.cons_append, List.append_assoc] at H
          try clear w14
          have C := H.cells
          try simp only [cellsOf, cellsM, apartOf, apartM, and_true] at C
          dsimp only
          go_wp2_with fail
          go_roundw
          case rel => exact ⟨j + 1, by go_num, by omega, HS.less (L' := [.dice w.heap.size bd, .row (.slice sf F.length cf) 66 2 F.length (F.flatMap frC), Item.many (PsR u qs), .blk bL #[.int .i64 a0, .int .i64 a1, .int .i64 b0, .int .i64 b1, .int .i64 c0, .int .i64 c1] 67]) H (by repeat (first | exact .slnil | refine .cons_cons _ ?_ | refine .cons _ ?_))⟩
          case measure => simp [intOf]; omega
        · go_wp2_with fail
          refine (HAW.out _).mono ?_
          rintro _ w16 ⟨rfl, hb⟩
          replace H := H.below hb
          clear hb
          try clear C
          try simp only [World.size_alloc, List.nil_append, List.cons_append, List.append_assoc] at H
          try clear w15
          have C := H.cells
          try simp only [cellsOf, cellsM, apartOf, apartM, and_true] at C
          dsimp only
          go_wp2_with fail
          go_ret
          exact ⟨rfl, H.done⟩
  · rw [decide_eq_false h400] at hli
    have HLI := Lib.hid hli
    clear hli
    go_enter Try.func8, Try.ntmps8
    have H := HS.start NoD w
    go_wp2_with fail
    refine (gives_ofD (HLI.out _)).mono ?_
    rintro _ w1 ⟨rfl, hb⟩
    replace H := H.below hb
    clear hb
    try clear C
    try simp only [World.size_alloc, List.nil_append, List.cons_append, List.append_assoc] at H
    have C := H.cells
    try simp only [cellsOf, cellsM, apartOf, apartM, and_true] at C
    dsimp only
    go_wp2_with fail
    refine (HAW.out _).mono ?_
    rintro _ w2 ⟨rfl, hb⟩
    replace H := H.below hb
    clear hb
    try clear C
    try simp only [World.size_alloc, List.nil_append, List.cons_append, List.append_assoc] at H
    try clear w1
    have C := H.cells
    try simp only [cellsOf, cellsM, apartOf, apartM, and_true] at C
    dsimp only
    go_wp2_with fail
    go_ret
    exact ⟨rfl, H.done⟩
end Go.Proofs.Ytmnddnlabdafcaa
