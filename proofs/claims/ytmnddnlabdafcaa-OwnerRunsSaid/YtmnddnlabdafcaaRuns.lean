/- The statement OwnerRuns: its walk. -/
import Derived.Test.YtmnddnlabdafcaaFrames
import Derived.Test.YtmnddnlabdafcaaRnLaw
namespace Go.Proofs.Ytmnddnlabdafcaa
set_option linter.unusedSimpArgs false
set_option linter.unusedVariables false
open Go.RowKit
set_option maxRecDepth 100000
attribute [local go_sem] lt_more ne_more ne_more'
attribute [local irreducible] wpX wpF Calls

set_option maxHeartbeats 16000000 in
theorem runs_walk (sa : Option Addr) (len cap : Nat) (hl : len ≤ maxLen) (w : World) (hI : Ints w sa len) :
    Calls Try.prog 7 #[.slice sa len cap] w (Gives (.bool true) w) := by
  have HI := Lib.hid hI
  clear hI
  have hli := light_any sa len cap hl
  clear hl
  have HAW := Lib.hid awake29_any
  by_cases h400 : len ≤ 400
  · rw [decide_eq_true h400] at hli
    have HLI := Lib.hid hli
    clear hli
    go_enter Try.func7, Try.ntmps7
    have H := HS.start NoD w
    go_wp2_with fail
    refine (gives_of (HLI.out _)).mono ?_
    rintro _ w1 ⟨rfl, hb⟩
    replace H := H.below hb
    clear hb
    try clear C
    try simp only [World.size_alloc, List.nil_append, List.cons_append, List.append_assoc] at H
    have C := H.cells
    try simp only [cellsOf, cellsM, apartOf, apartM, and_true] at C
    dsimp only
    go_wp2_with fail
    refine (roll_at w.heap.size _ _ _ h400 _ H.size (H.ints HI.out)).mono ?_
    rintro _ w2 ⟨bd, rfl, hd, hb, hbb⟩
    replace H := H.getsDice hb hd hbb (Nat.le_refl _)
    clear hb hd hbb
    try clear C
    try simp only [World.size_alloc, List.nil_append, List.cons_append, List.append_assoc] at H
    try clear w1
    have C := H.cells
    try simp only [cellsOf, cellsM, apartOf, apartM, and_true] at C
    dsimp only
    go_wp2_with fail
    refine (mprogs_any 8 (by decide) w.heap.size bd _ (H.at 0 rfl) H.size).mono ?_
    rintro _ w2 ⟨v1, qs, rfl, hmp, K⟩
    replace H := HS.joinDice H 0 rfl K (fun A hA => by cases List.mem_singleton.1 hA; rfl)
    clear K
    simp only [List.nil_append, List.cons_append] at H
    have hg64 : GoodP 64 (qs.map (·.p)) := hmp.good.mono (by decide)
    have h3 : 0 < qs.length := by have := hmp.three; rw [List.length_map] at this; omega
    have HG := Lib.hid hg64
    clear hmp hg64
    skip
    try clear C
    try simp only [World.size_alloc, List.nil_append, List.cons_append, List.append_assoc] at H
    have C := H.cells
    try simp only [cellsOf, cellsM, apartOf, apartM, and_true] at C
    dsimp only
    go_wp2_with fail
    go_loopw [4, 5] (fun u kk wr => ∃ (k : Int) (qs : List Pv), kk = .int .i64 k ∧ 0 ≤ k ∧ k ≤ 30 ∧ 0 < qs.length ∧ Hid (GoodP 64 (qs.map (·.p))) ∧ HS NoD w [.dice w.heap.size bd, Item.many (PsR u qs)] wr) (fun _ kk _ => (30 - intOf kk).toNat)
    case atStart => exact ⟨0, qs, rfl, by omega, by omega, h3, HG.out, H⟩
    case round =>
      clear H C h3 HG qs
      obtain ⟨k, qs, rfl, hk0, hk30, h3, HG, H⟩ := hrel
      skip
      try clear C
      try simp only [World.size_alloc, List.nil_append, List.cons_append, List.append_assoc] at H
      have C := H.cells
      try simp only [cellsOf, cellsM, apartOf, apartM, and_true] at C
      by_cases hk : k < 30
      · have hq8 : qs.length ≤ 8 := by have := HG.out.len; rwa [List.length_map] at this
        obtain ⟨g, d, rfl, hcap, H⟩ := H.openPs 1 rfl h3
        simp only [List.eraseIdx_cons_succ, List.eraseIdx_cons_zero, List.nil_append, List.cons_append] at H
        obtain ⟨ps, hps⟩ : ∃ ps, ps = qs.map (·.p) := ⟨_, rfl⟩
        have hpl : ps.length = qs.length := by rw [hps]; simp
        rw [← hps] at HG
        have HPS := Lib.hid hps.symm
        have HPL := Lib.hid hpl
        clear hps hpl
        try clear C
        try simp only [World.size_alloc, List.nil_append, List.cons_append, List.append_assoc] at H
        have C := H.cells
        try simp only [cellsOf, cellsM, apartOf, apartM, and_true] at C
        go_upto_region 8 with fail
        refine wp_region_xH (by kernel_rfl) (by kernel_rfl) (by kernel_rfl) (by kernel_rfl) (OneD bd) (H) ?_
        clear H; intro w3 H hz0 hs0
        try clear C
        try simp only [World.size_alloc, List.nil_append, List.cons_append, List.append_assoc] at H hz0
        clear hz0
        try clear wr
        have C := H.cells
        try simp only [cellsOf, cellsM, apartOf, apartM, and_true] at C
        have Z := H.zs
        try simp only [ltsOf, ltsM, and_true] at Z
        have hz0 := Nat.le_refl w3.heap.size
        have hgl : g < w3.heap.size := Item.lt (H.at 1 rfl) (k := g) rfl
        have hgd : (g = bd) = False := eq_false (H.apart (i := 1) (j := 0) rfl rfl (by decide) rfl)
        repeat (first | (refine wpX_skip rfl ?_; go_simp) | (refine wpX_free rfl rfl rfl (fun K hK => ?_); go_step; refine hK _ _ ?_; clear hK K) | (refine wpX_load rfl rfl rfl (by simp [Stay, OneD, NoD, *]) hs0 (by simp [*]) (fun K hK => ?_); go_step; refine hK _ _ ?_; clear hK K))
        refine wpX_eff rfl rfl (fun _ _ => ?_)
        go_step
        refine (next_any (qs.length : Int) (by omega) w.heap.size bd _ (H.at 0 rfl)).mono ?_
        rintro _ w4 ⟨iv, rfl, hiv, hd, hg⟩
        replace hs0 := hs0.chgS hz0 hg rfl
        replace hz0 := Nat.le_trans hz0 hg.size
        replace H := H.diceAt 0 rfl hg hd
        clear hg hd
        try clear C
        have C := H.cells
        try simp only [cellsOf, cellsM, apartOf, apartM, and_true] at C
        try clear w3
        dsimp only
        go_step
        refine ⟨hs0, ?_⟩
        replace hiv : 0 ≤ iv ∧ iv < qs.length := ⟨hiv.1, hiv.lt (by omega)⟩
        obtain ⟨ii, hii⟩ : ∃ n : Nat, iv = n := ⟨iv.toNat, by omega⟩
        subst hii
        have hil : ii < qs.length := by omega
        clear hiv
        have e0 : w4.cell? ⟨g, ii * 5, none⟩ = some (.int .i64 (qs[ii]!).p.id) := (H.outerCell 1 rfl rfl hil (m := 0) (by decide) rfl).1
        obtain ⟨pid, hpid⟩ : ∃ n, n = (qs[ii]!).p.id := ⟨_, rfl⟩
        rw [← hpid] at e0
        clear hpid
        repeat (first | (refine wpX_skip rfl ?_; go_simp) | (refine wpX_free rfl rfl rfl (fun K hK => ?_); go_step; refine hK _ _ ?_; clear hK K) | (refine wpX_load rfl rfl rfl (by simp [Stay, OneD, NoD, *]) hs0 (by simp [*]) (fun K hK => ?_); go_step; refine hK _ _ ?_; clear hK K))
        refine wpX_eff rfl rfl (fun _ _ => ?_)
        go_step
        refine (next_any 8 (by omega) w.heap.size bd _ (H.at 0 rfl)).mono ?_
        rintro _ w5 ⟨pgv, rfl, hpg, hd, hg⟩
        replace hs0 := hs0.chgS hz0 hg rfl
        replace hz0 := Nat.le_trans hz0 hg.size
        replace H := H.diceAt 0 rfl hg hd
        clear hg hd
        try clear C
        have C := H.cells
        try simp only [cellsOf, cellsM, apartOf, apartM, and_true] at C
        try clear w4
        dsimp only
        go_step
        refine ⟨hs0, ?_⟩
        repeat (first | (refine wpX_skip rfl ?_; go_simp) | (refine wpX_free rfl rfl rfl (fun K hK => ?_); go_step; refine hK _ _ ?_; clear hK K) | (refine wpX_load rfl rfl rfl (by simp [Stay, OneD, NoD, *]) hs0 (by simp [*]) (fun K hK => ?_); go_step; refine hK _ _ ?_; clear hK K))
        refine wpX_eff rfl rfl (fun _ _ => ?_)
        go_step
        refine (next_any 12 (by omega) w.heap.size bd _ (H.at 0 rfl)).mono ?_
        rintro _ w6 ⟨frv, rfl, hfr, hd, hg⟩
        replace hs0 := hs0.chgS hz0 hg rfl
        replace hz0 := Nat.le_trans hz0 hg.size
        replace H := H.diceAt 0 rfl hg hd
        clear hg hd
        try clear C
        have C := H.cells
        try simp only [cellsOf, cellsM, apartOf, apartM, and_true] at C
        try clear w5
        dsimp only
        go_step
        refine ⟨hs0, ?_⟩
        repeat (first | (refine wpX_skip rfl ?_; go_simp) | (refine wpX_free rfl rfl rfl (fun K hK => ?_); go_step; refine hK _ _ ?_; clear hK K) | (refine wpX_load rfl rfl rfl (by simp [Stay, OneD, NoD, *]) hs0 (by simp [*]) (fun K hK => ?_); go_step; refine hK _ _ ?_; clear hK K))
        (refine wpX_nil ?_; go_step)
        clear e0 hgl hgd
        replace hfr : 0 ≤ frv ∧ frv < 12 := ⟨hfr.1, hfr.lt (by decide)⟩
        try clear C
        try simp only [World.size_alloc, List.nil_append, List.cons_append, List.append_assoc] at H
        have C := H.cells
        try simp only [cellsOf, cellsM, apartOf, apartM, and_true] at C
        go_wp2_with fail
        refine (next_any 7 (by omega) w.heap.size bd _ (H.at 0 rfl)).mono ?_
        rintro _ w7 ⟨sv, rfl, hsv, hd, hg⟩
        replace H := (H).diceAt 0 rfl hg hd
        clear hg hd
        try clear C
        try simp only [World.size_alloc, List.nil_append, List.cons_append, List.append_assoc] at H
        try clear w6
        have C := H.cells
        try simp only [cellsOf, cellsM, apartOf, apartM, and_true] at C
        dsimp only
        replace hsv : 0 ≤ sv ∧ sv < 7 := ⟨hsv.1, hsv.lt (by decide)⟩


        go_upto_block 2 with fail
        go_cut [9, 10] from 46 to 118 (fun x e wx => ∃ (v' : Value) (rs : List Pv) (er : Int), x = v' ∧ e = .int .i64 er ∧ Hid (er = 0 → GoodP 64 (rs.map (·.p)) ∧ 0 < rs.length) ∧ HS NoD w [.dice w.heap.size bd, .row (.slice (some ⟨g, 0, none⟩) qs.length d) 31 5 qs.length (qs.flatMap pvC), Item.many (qs.flatMap innerR), Item.many (PsR v' rs)] wx)
        case first =>
          have hcs : sv = 0 ∨ sv = 1 ∨ sv = 2 ∨ sv = 3 ∨ sv = 4 ∨ sv = 5 ∨ sv = 6 := by omega
          rcases hcs with rfl | rfl | rfl | rfl | rfl | rfl | rfl
          · skip
            go_wp2_with fail
            have HOK := Lib.hid (show (mapP ps pid pgv frv).1 = 0 → GoodP 64 (mapP ps pid pgv frv).2 ∧ 0 < (mapP ps pid pgv frv).2.length from fun h => by
              have hR : mapP ps pid pgv frv = (0, (mapP ps pid pgv frv).2) := Prod.ext h rfl
              have h9 := HG.out.map (show frv < 64 by omega) hR
              exact ⟨h9.1, by rw [h9.2, HPL.out]; omega⟩)
            have HCT := Lib.hid (fun v w h => omap_any pid pgv frv (v := v) HG.out w h)
            generalize mapP ps pid pgv frv = R at HOK HCT
            refine (HCT.out _ _ (by have := H.ownPs2 1 2 rfl rfl rfl; rw [HPS.out] at this; exact this)).mono ?_
            rintro _ wx ⟨v', rs', rfl, hrs', K⟩
            replace H := H.join1 K
            clear K HCT
            simp only [List.nil_append, List.cons_append] at H
            skip
            try clear C
            try simp only [World.size_alloc, List.nil_append, List.cons_append, List.append_assoc] at H
            have C := H.cells
            try simp only [cellsOf, cellsM, apartOf, apartM, and_true] at C
            dsimp only
            go_wp2_with fail
            go_meet
            case rel => exact ⟨v', rs', R.1, rfl, rfl, fun h => by have h9 := HOK.out h; rw [← hrs', List.length_map] at h9; exact h9, H⟩
          · skip
            go_wp2_with fail
            have HOK := Lib.hid (show (mapP ps pid pgv frv).1 = 0 → GoodP 64 (mapP ps pid pgv frv).2 ∧ 0 < (mapP ps pid pgv frv).2.length from fun h => by
              have hR : mapP ps pid pgv frv = (0, (mapP ps pid pgv frv).2) := Prod.ext h rfl
              have h9 := HG.out.map (show frv < 64 by omega) hR
              exact ⟨h9.1, by rw [h9.2, HPL.out]; omega⟩)
            have HCT := Lib.hid (fun v w h => omap_any pid pgv frv (v := v) HG.out w h)
            generalize mapP ps pid pgv frv = R at HOK HCT
            refine (HCT.out _ _ (by have := H.ownPs2 1 2 rfl rfl rfl; rw [HPS.out] at this; exact this)).mono ?_
            rintro _ wx ⟨v', rs', rfl, hrs', K⟩
            replace H := H.join1 K
            clear K HCT
            simp only [List.nil_append, List.cons_append] at H
            skip
            try clear C
            try simp only [World.size_alloc, List.nil_append, List.cons_append, List.append_assoc] at H
            have C := H.cells
            try simp only [cellsOf, cellsM, apartOf, apartM, and_true] at C
            dsimp only
            go_wp2_with fail
            go_meet
            case rel => exact ⟨v', rs', R.1, rfl, rfl, fun h => by have h9 := HOK.out h; rw [← hrs', List.length_map] at h9; exact h9, H⟩
          · skip
            go_wp2_with fail
            have HOK := Lib.hid (show (dropP ps pid pgv).1 = 0 → GoodP 64 (dropP ps pid pgv).2.1 ∧ 0 < (dropP ps pid pgv).2.1.length from fun h => by
              have hR : dropP ps pid pgv = (0, (dropP ps pid pgv).2.1, (dropP ps pid pgv).2.2) := Prod.ext h rfl
              have h9 := HG.out.drop hR
              exact ⟨h9.1, by rw [h9.2, HPL.out]; omega⟩)
            have HCT := Lib.hid (fun v w h => odrop_any pid pgv (v := v) HG.out w h)
            generalize dropP ps pid pgv = R at HOK HCT
            refine (HCT.out _ _ (by have := H.ownPs2 1 2 rfl rfl rfl; rw [HPS.out] at this; exact this)).mono ?_
            rintro _ wx ⟨v', rs', rfl, hrs', K⟩
            replace H := H.join1 K
            clear K HCT
            simp only [List.nil_append, List.cons_append] at H
            skip
            try clear C
            try simp only [World.size_alloc, List.nil_append, List.cons_append, List.append_assoc] at H
            have C := H.cells
            try simp only [cellsOf, cellsM, apartOf, apartM, and_true] at C
            dsimp only
            go_wp2_with fail
            go_meet
            case rel => exact ⟨v', rs', R.1, rfl, rfl, fun h => by have h9 := HOK.out h; rw [← hrs', List.length_map] at h9; exact h9, H⟩
          · skip
            go_wp2_with fail
            refine (next_any 30 (by omega) w.heap.size bd _ (H.at 0 rfl)).mono ?_
            rintro _ w8 ⟨fv, rfl, hfv, hd, hg⟩
            replace H := (H).diceAt 0 rfl hg hd
            clear hg hd
            try clear C
            try simp only [World.size_alloc, List.nil_append, List.cons_append, List.append_assoc] at H
            try clear w7
            have C := H.cells
            try simp only [cellsOf, cellsM, apartOf, apartM, and_true] at C
            dsimp only
            replace hfv : 0 ≤ fv ∧ fv < 30 := ⟨hfv.1, hfv.lt (by decide)⟩
            go_wp2_with fail
            have HOK := Lib.hid (show (forkP ps pid (1 + fv)).1 = 0 → GoodP 64 (forkP ps pid (1 + fv)).2 ∧ 0 < (forkP ps pid (1 + fv)).2.length from fun h => by
              have hR : forkP ps pid (1 + fv) = (0, (forkP ps pid (1 + fv)).2) := Prod.ext h rfl
              have h9 := HG.out.fork hR
              exact ⟨h9.1, by rw [h9.2, HPL.out]; omega⟩)
            have HCT := Lib.hid (fun v w h => ofork_any pid (1 + fv) (v := v) HG.out w h)
            generalize forkP ps pid (1 + fv) = R at HOK HCT
            refine (HCT.out _ _ (by have := H.ownPs2 1 2 rfl rfl rfl; rw [HPS.out] at this; exact this)).mono ?_
            rintro _ wx ⟨v', rs', rfl, hrs', K⟩
            replace H := H.join1 K
            clear K HCT
            simp only [List.nil_append, List.cons_append] at H
            skip
            try clear C
            try simp only [World.size_alloc, List.nil_append, List.cons_append, List.append_assoc] at H
            have C := H.cells
            try simp only [cellsOf, cellsM, apartOf, apartM, and_true] at C
            dsimp only
            go_wp2_with fail
            go_meet
            case rel => exact ⟨v', rs', R.1, rfl, rfl, fun h => by have h9 := HOK.out h; rw [← hrs', List.length_map] at h9; exact h9, H⟩
          · skip
            go_wp2_with fail
            have HOK := Lib.hid (show (ownP ps pid pgv frv).1 = 0 → GoodP 64 (ownP ps pid pgv frv).2.1 ∧ 0 < (ownP ps pid pgv frv).2.1.length from fun h => by
              have hR : ownP ps pid pgv frv = (0, (ownP ps pid pgv frv).2.1, (ownP ps pid pgv frv).2.2) := Prod.ext h rfl
              have h9 := HG.out.own (show frv < 64 by omega) hR
              exact ⟨h9.1, by rw [h9.2, HPL.out]; omega⟩)
            have HCT := Lib.hid (fun v w h => oown_any pid pgv frv (v := v) HG.out w h)
            generalize ownP ps pid pgv frv = R at HOK HCT
            refine (HCT.out _ _ (by have := H.ownPs2 1 2 rfl rfl rfl; rw [HPS.out] at this; exact this)).mono ?_
            rintro _ wx ⟨v', rs', rfl, hrs', K⟩
            replace H := H.join1 K
            clear K HCT
            simp only [List.nil_append, List.cons_append] at H
            skip
            try clear C
            try simp only [World.size_alloc, List.nil_append, List.cons_append, List.append_assoc] at H
            have C := H.cells
            try simp only [cellsOf, cellsM, apartOf, apartM, and_true] at C
            dsimp only
            go_wp2_with fail
            go_meet
            case rel => exact ⟨v', rs', R.1, rfl, rfl, fun h => by have h9 := HOK.out h; rw [← hrs', List.length_map] at h9; exact h9, H⟩
          · skip
            go_wp2_with fail
            refine (next_any 12 (by omega) w.heap.size bd _ (H.at 0 rfl)).mono ?_
            rintro _ w9 ⟨tv, rfl, htv, hd, hg⟩
            replace H := (H).diceAt 0 rfl hg hd
            clear hg hd
            try clear C
            try simp only [World.size_alloc, List.nil_append, List.cons_append, List.append_assoc] at H
            try clear w7
            have C := H.cells
            try simp only [cellsOf, cellsM, apartOf, apartM, and_true] at C
            dsimp only
            replace htv : 0 ≤ tv ∧ tv < 12 := ⟨htv.1, htv.lt (by decide)⟩
            go_wp2_with fail
            have HOK := Lib.hid (show (replP ps frv tv).1 = 0 → GoodP 64 (replP ps frv tv).2 ∧ 0 < (replP ps frv tv).2.length from fun h => by
              have hR : replP ps frv tv = (0, (replP ps frv tv).2) := Prod.ext h rfl
              have h9 := HG.out.repl (show tv < 64 by omega) hR
              exact ⟨h9.1, by rw [h9.2, HPL.out]; omega⟩)
            have HCT := Lib.hid (fun v w h => orepl_any frv tv (v := v) HG.out.smallP w h)
            generalize replP ps frv tv = R at HOK HCT
            refine (HCT.out _ _ (by have := H.ownPs2 1 2 rfl rfl rfl; rw [HPS.out] at this; exact this)).mono ?_
            rintro _ wx ⟨v', rs', rfl, hrs', K⟩
            replace H := H.join1 K
            clear K HCT
            simp only [List.nil_append, List.cons_append] at H
            skip
            try clear C
            try simp only [World.size_alloc, List.nil_append, List.cons_append, List.append_assoc] at H
            have C := H.cells
            try simp only [cellsOf, cellsM, apartOf, apartM, and_true] at C
            dsimp only
            go_wp2_with fail
            go_meet
            case rel => exact ⟨v', rs', R.1, rfl, rfl, fun h => by have h9 := HOK.out h; rw [← hrs', List.length_map] at h9; exact h9, H⟩
          · skip
            go_wp2_with fail
            have HOK := Lib.hid (show (tellP ps pid pgv).1 = 0 → GoodP 64 (tellP ps pid pgv).2.1 ∧ 0 < (tellP ps pid pgv).2.1.length from fun h => by
              have hR : tellP ps pid pgv = (0, (tellP ps pid pgv).2.1, (tellP ps pid pgv).2.2) := Prod.ext h rfl
              have h9 := HG.out.tell hR
              exact ⟨h9.1, by rw [h9.2, HPL.out]; omega⟩)
            have HCT := Lib.hid (fun v w h => otell_any pid pgv (v := v) HG.out w h)
            generalize tellP ps pid pgv = R at HOK HCT
            refine (HCT.out _ _ (by have := H.ownPs2 1 2 rfl rfl rfl; rw [HPS.out] at this; exact this)).mono ?_
            rintro _ wx ⟨v', rs', rfl, hrs', K⟩
            replace H := H.join1 K
            clear K HCT
            simp only [List.nil_append, List.cons_append] at H
            skip
            try clear C
            try simp only [World.size_alloc, List.nil_append, List.cons_append, List.append_assoc] at H
            have C := H.cells
            try simp only [cellsOf, cellsM, apartOf, apartM, and_true] at C
            dsimp only
            go_wp2_with fail
            refine (next_any 6 (by omega) w.heap.size bd _ (H.at 0 rfl)).mono ?_
            rintro _ w10 ⟨ev, rfl, hev, hd, hg⟩
            replace H := (H).diceAt 0 rfl hg hd
            clear hg hd
            try clear C
            try simp only [World.size_alloc, List.nil_append, List.cons_append, List.append_assoc] at H
            try clear wx
            have C := H.cells
            try simp only [cellsOf, cellsM, apartOf, apartM, and_true] at C
            dsimp only
            by_cases he1 : ev = 1
            · subst he1
              go_wp2_with fail
              clear HOK
              have HOK9 := Lib.hid (show (endP ps pid).1 = 0 → GoodP 64 (endP ps pid).2.1 ∧ 0 < (endP ps pid).2.1.length from fun h => by
                have hR : endP ps pid = (0, (endP ps pid).2.1, (endP ps pid).2.2) := Prod.ext h rfl
                have h9 := HG.out.ends hR
                exact ⟨h9.1, by rw [h9.2, HPL.out]; omega⟩)
              have HCT := Lib.hid (fun v w h => oend_any pid (Int.le_refl 64) (v := v) HG.out w h)
              generalize endP ps pid = R9 at HOK9 HCT
              refine (HCT.out _ _ (by have := H.ownPs2 1 2 rfl rfl rfl; rw [HPS.out] at this; exact this)).mono ?_
              rintro _ wz ⟨v9, rs9, sg, cg, rfl, hrs9, K⟩
              replace H := H.join K (fun A hA => by simp only [List.mem_cons, List.mem_nil_iff, or_false] at hA; rcases hA with rfl | rfl <;> rfl)
              clear K HCT
              simp only [List.nil_append, List.cons_append] at H
              skip
              try clear C
              try simp only [World.size_alloc, List.nil_append, List.cons_append, List.append_assoc] at H
              have C := H.cells
              try simp only [cellsOf, cellsM, apartOf, apartM, and_true] at C
              dsimp only
              go_wp2_with fail
              go_meet
              case rel => exact ⟨v9, rs9, R9.1, rfl, rfl, fun h => by have h9 := HOK9.out h; rw [← hrs9, List.length_map] at h9; exact h9, H.less (by repeat (first | exact .slnil | refine .cons_cons _ ?_ | refine .cons _ ?_))⟩
            · have he2 : (ev == 1) = false := beq_eq_false_iff_ne.2 he1
              skip
              go_wp2_with fail
              go_meet
              case rel => exact ⟨v', rs', R.1, rfl, rfl, fun h => by have h9 := HOK.out h; rw [← hrs', List.length_map] at h9; exact h9, H⟩
        case rest =>
          clear H C hsv
          obtain ⟨v', rs, er, rfl, rfl, hok, H⟩ := hcut
          have HG8 : Hid (GoodP 64 (qs.map (·.p))) := by rw [HPS.out]; exact HG
          skip
          try clear C
          try simp only [World.size_alloc, List.nil_append, List.cons_append, List.append_assoc] at H
          have C := H.cells
          try simp only [cellsOf, cellsM, apartOf, apartM, and_true] at C
          by_cases he : er = 0
          · have hgx := hok.out he
            subst he
            clear hok
            have hx8 : rs.length ≤ 8 := by have := hgx.1.len; rwa [List.length_map] at this
            obtain ⟨X, hX⟩ : ∃ X, X = rs.map (·.p) := ⟨_, rfl⟩
            have hxl : X.length = rs.length := by rw [hX]; simp
            rw [← hX] at hgx
            have HXS := Lib.hid hX.symm
            have HXL := Lib.hid hxl
            have HGX := Lib.hid hgx.1
            have hr0 : 0 < rs.length := hgx.2
            clear hgx hX hxl
            obtain ⟨g2, d2, rfl, hcap2, H⟩ := H.openPs 3 rfl hr0
            simp only [List.eraseIdx_cons_succ, List.eraseIdx_cons_zero, List.nil_append, List.cons_append] at H
            have HVA := Lib.hid (fun v w h => ovalid_any (v := v) HGX.out w h)
            have hr0b : ((rs.length : Int) == 0) = false := beq_eq_false_iff_ne.2 (by omega)
            have HTOT := Lib.hid (sumC_good HGX.out)
            have hN : (allPg X).length ≤ 128 := by
              have := allPg_len HGX.out.one
              rw [HXL.out] at this
              omega
            try clear C
            try simp only [World.size_alloc, List.nil_append, List.cons_append, List.append_assoc] at H
            have C := H.cells
            try simp only [cellsOf, cellsM, apartOf, apartM, and_true] at C
            go_wp2_with fail
            refine (HVA.out _ _ (by have := H.ownPs2 3 4 rfl rfl rfl; rw [HXS.out] at this; exact this)).mono ?_
            rintro _ w11 ⟨rfl, hb⟩
            replace H := H.below hb
            clear hb
            try clear C
            try simp only [World.size_alloc, List.nil_append, List.cons_append, List.append_assoc] at H
            try clear wx
            have C := H.cells
            try simp only [cellsOf, cellsM, apartOf, apartM, and_true] at C
            dsimp only
            go_wp2_with fail
            go_loopw [11, 131] (fun nn jj wr => ∃ (j : Nat), jj = .int .i64 j ∧ j ≤ rs.length ∧ nn = .int .i64 ((allPg (X.take j)).length : Nat) ∧ HS NoD w [.dice w.heap.size bd, .row (.slice (some ⟨g, 0, none⟩) qs.length d) 31 5 qs.length (qs.flatMap pvC), Item.many (qs.flatMap innerR), .row (.slice (some ⟨g2, 0, none⟩) rs.length d2) 31 5 rs.length (rs.flatMap pvC), Item.many (rs.flatMap innerR)] wr) (fun _ jj _ => rs.length - (intOf jj).toNat)
            case atStart => exact ⟨0, rfl, Nat.zero_le _, rfl, H⟩
            case round =>
              clear H C
              obtain ⟨j, rfl, hj, rfl, H⟩ := hrel
              skip
              try clear C
              try simp only [World.size_alloc, List.nil_append, List.cons_append, List.append_assoc] at H
              have C := H.cells
              try simp only [cellsOf, cellsM, apartOf, apartM, and_true] at C
              by_cases hlt : j < rs.length
              · have hpf := H.pvForm 4 rfl hlt
                obtain ⟨pb, pc, tb, tc, hpf⟩ := hpf
                have hjx : j < X.length := by rw [HXL.out]; exact hlt
                have hpe : X[j]! = (rs[j]!).p := by rw [← HXS.out, map_at hlt]
                have hNS := allPg_succ_len hjx
                have hNle : (allPg (X.take j)).length ≤ 128 := by
                  have h2 : (allPg (X.take j)).length ≤ (allPg X).length := by
                    unfold allPg
                    have : X = X.take j ++ X.drop j := (List.take_append_drop j X).symm
                    conv => rhs; rw [this]
                    rw [List.flatMap_append, List.length_append]
                    omega
                  omega
                have HUI := Lib.hid (fun k (hk : k < (X[j]!).pages.length) => user_in hjx hk)
                have hg1 := HGX.out.one _ (at_mem hjx)
                rw [hpe] at hNS HUI hg1
                obtain ⟨p, hp⟩ : ∃ p, p = (rs[j]!).p := ⟨_, rfl⟩
                rw [← hp] at hNS HUI hpf hg1
                clear hp hpe hjx
                obtain ⟨pi, pt, pd, pg, td⟩ := p
                have hp16 : pg.length ≤ 16 := hg1.plen
                dsimp only at hNS HUI hpf
                have HPF := Lib.hid hpf
                have HNS := Lib.hid hNS
                generalize (allPg (X.take j)).length = N at *
                clear hpf hg1 hNS
                have k0 : wr.cell? ⟨g2, j * 5, none⟩ = some (.int .i64 pi) := (H.outerCell 3 rfl rfl hlt (m := 0) (by decide) (by rw [HPF.out]; rfl)).1
                have k1 := (H.outerCell 3 rfl rfl hlt (m := 1) (u := .bool pt) (by decide) (by rw [HPF.out]; rfl)).1
                have k2 := (H.outerCell 3 rfl rfl hlt (m := 2) (u := .bool pd) (by decide) (by rw [HPF.out]; rfl)).1
                have k3 := (H.outerCell 3 rfl rfl hlt (m := 3) (u := .slice pb pg.length pc) (by decide) (by rw [HPF.out]; rfl)).1
                have k4 := (H.outerCell 3 rfl rfl hlt (m := 4) (u := .slice tb td.length tc) (by decide) (by rw [HPF.out]; rfl)).1
                go_upto_region 34 with fail
                clear k0 k1 k2 k3 k4
                generalize hwb : wr.alloc _ = w12
                replace H := HS.eqW hwb H.alloc
                try simp only [World.size_alloc, List.nil_append, List.cons_append, List.append_assoc] at H
                clear hwb
                generalize wr.heap.size = b13 at H ⊢
                try clear C
                try clear wr
                have C := H.cells
                try simp only [cellsOf, cellsM, apartOf, apartM, and_true] at C
                go_wp2_with fail
                go_loopw [11, 138] (fun nn kk wr => ∃ (m : Nat), kk = .int .i64 m ∧ m ≤ pg.length ∧ nn = .int .i64 ((N : Int) + m) ∧ HS NoD w [.dice w.heap.size bd, .row (.slice (some ⟨g, 0, none⟩) qs.length d) 31 5 qs.length (qs.flatMap pvC), Item.many (qs.flatMap innerR), .row (.slice (some ⟨g2, 0, none⟩) rs.length d2) 31 5 rs.length (rs.flatMap pvC), Item.many (rs.flatMap innerR), .blk b13 #[.int .i64 pi, .bool pt, .bool pd, .slice pb pg.length pc, .slice tb td.length tc] 31] wr) (fun _ kk _ => pg.length - (intOf kk).toNat)
                case atStart => exact ⟨0, rfl, Nat.zero_le _, by simp, H⟩
                case round =>
                  clear H C
                  obtain ⟨m, rfl, hm, rfl, H⟩ := hrel
                  skip
                  try clear C
                  try simp only [World.size_alloc, List.nil_append, List.cons_append, List.append_assoc] at H
                  have C := H.cells
                  try simp only [cellsOf, cellsM, apartOf, apartM, and_true] at C
                  by_cases hlm : m < pg.length
                  · obtain ⟨bg, og, e9, hbg, hcg⟩ := (H.pagesLies 4 rfl hlt HPF.out).at hlm
                    obtain rfl : pb = some ⟨bg, og, none⟩ := e9
                    have hui := HUI.out m hlm
                    obtain ⟨xo, hxo⟩ : ∃ x, x = pg[m]! := ⟨_, rfl⟩
                    rw [← hxo] at hcg hui
                    clear hxo
                    obtain ⟨xn, xf, xs⟩ := xo
                    dsimp only at hui
                    have HUS := Lib.hid (fun v w h => ousers_any xf (v := v) HGX.out.smallP w h)
                    have hul : (usersL X xf).length ≤ 1000000 := by
                      have h1 := sumC_le X (show xf.toNat ≤ xf.toNat by omega)
                      have h2 : ∀ l : List Pr, (usersL l xf).length ≤ (allPg l).length := fun l => by
                        induction l with
                        | nil => exact Nat.le_refl _
                        | cons p l ih =>
                          have h3 := cnt_cons p l xf
                          unfold cnt at h3
                          have h4 : cf p.pages xf ≤ p.pages.length := List.length_filter_le _ _
                          unfold allPg at ih ⊢
                          rw [h3, List.flatMap_cons, List.length_append]
                          omega
                      have := h2 X
                      omega
                    generalize usersL X xf = us at HUS hui hul
                    have HFA := Lib.hid (foundM_all hui)
                    clear hui
                    have d0 : wr.cell? ⟨bg, og + m * 3, none⟩ = some (.int .i64 xn) := hcg 0 _ rfl
                    have d1 : wr.cell? ⟨bg, og + m * 3 + 1, none⟩ = some (.int .i64 xf) := hcg 1 _ rfl
                    have d2' : wr.cell? ⟨bg, og + m * 3 + 2, none⟩ = some (.bool xs) := hcg 2 _ rfl
                    clear hcg
                    go_upto_region 37 with fail
                    clear d0 d1 d2'
                    generalize hwb : wr.alloc _ = w13
                    replace H := HS.eqW hwb H.alloc
                    try simp only [World.size_alloc, List.nil_append, List.cons_append, List.append_assoc] at H
                    clear hwb
                    generalize wr.heap.size = b15 at H ⊢
                    try clear C
                    try clear wr
                    have C := H.cells
                    try simp only [cellsOf, cellsM, apartOf, apartM, and_true] at C
                    go_wp2_with fail
                    refine (HUS.out _ _ (by have := H.ownPs2 3 4 rfl rfl rfl; rw [HXS.out] at this; exact this)).mono ?_
                    rintro _ w14 ⟨su, cu, rfl, hr, hb⟩
                    replace H := (H).getsRow hb hr
                    clear hb hr
                    try clear C
                    try simp only [World.size_alloc, List.nil_append, List.cons_append, List.append_assoc] at H
                    try clear w13
                    have C := H.cells
                    try simp only [cellsOf, cellsM, apartOf, apartM, and_true] at C
                    dsimp only
                    go_wp2_with fail
                    go_loopw [16, 149] (fun ff mm wr => ∃ (n : Nat), mm = .int .i64 n ∧ n ≤ us.length ∧ ff = .bool (foundM us pi xn n) ∧ HS NoD w [.dice w.heap.size bd, .row (.slice (some ⟨g, 0, none⟩) qs.length d) 31 5 qs.length (qs.flatMap pvC), Item.many (qs.flatMap innerR), .row (.slice (some ⟨g2, 0, none⟩) rs.length d2) 31 5 rs.length (rs.flatMap pvC), Item.many (rs.flatMap innerR), .blk b13 #[.int .i64 pi, .bool pt, .bool pd, .slice (some ⟨bg, og, none⟩) pg.length pc, .slice tb td.length tc] 31, .blk b15 #[.int .i64 xn, .int .i64 xf, .bool xs] 37, .row (.slice su us.length cu) 61 2 us.length (us.flatMap uC)] wr) (fun _ mm _ => us.length - (intOf mm).toNat)
                    case atStart => exact ⟨0, rfl, Nat.zero_le _, rfl, H⟩
                    case round =>
                      clear H C
                      obtain ⟨n, rfl, hn, rfl, H⟩ := hrel
                      skip
                      try clear C
                      try simp only [World.size_alloc, List.nil_append, List.cons_append, List.append_assoc] at H
                      have C := H.cells
                      try simp only [cellsOf, cellsM, apartOf, apartM, and_true] at C
                      by_cases hln : n < us.length
                      · obtain ⟨gu, rfl, hgu, hcu⟩ := ownsRow_ptr (H.at 7 rfl) (by omega)
                        have HFS := Lib.hid (foundM_succ pi xn hln)
                        have u0 : wr.cell? ⟨gu, n * 2, none⟩ = some (.int .i64 (us[n]!).1) := (H.useCell 7 rfl rfl hln (m := 0) (by decide) rfl).1
                        have u1 := (H.useCell 7 rfl rfl hln (m := 1) (u := .int .i64 (us[n]!).2) (by decide) rfl).1
                        obtain ⟨a1, ha1⟩ : ∃ a, a = (us[n]!).1 := ⟨_, rfl⟩
                        obtain ⟨a2, ha2⟩ : ∃ a, a = (us[n]!).2 := ⟨_, rfl⟩
                        rw [← ha1] at u0 HFS
                        rw [← ha2] at u1 HFS
                        clear ha1 ha2
                        generalize foundM us pi xn n = fo at *
                        go_upto_region 42 with fail
                        clear u0 u1
                        generalize hwb : wr.alloc _ = w15
                        replace H := HS.eqW hwb H.alloc
                        try simp only [World.size_alloc, List.nil_append, List.cons_append, List.append_assoc] at H
                        clear hwb
                        generalize wr.heap.size = b18 at H ⊢
                        try clear C
                        try clear wr
                        have C := H.cells
                        try simp only [cellsOf, cellsM, apartOf, apartM, and_true] at C
                        cases fo with
                        | true =>
                          skip
                          go_wp2_with fail
                          go_roundw
                          case rel => exact ⟨n + 1, by go_num, by omega, by rw [HFS.out]; simp, H.less (by repeat (first | exact .slnil | refine .cons_cons _ ?_ | refine .cons _ ?_))⟩
                          case measure => simp [intOf]; omega
                        | false =>
                          by_cases e1 : a1 = pi
                          · by_cases e2 : a2 = xn
                            · skip
                              go_wp2_with fail
                              go_roundw
                              case rel => exact ⟨n + 1, by go_num, by omega, by rw [HFS.out]; simp [e1, e2], H.less (by repeat (first | exact .slnil | refine .cons_cons _ ?_ | refine .cons _ ?_))⟩
                              case measure => simp [intOf]; omega
                            · skip
                              go_wp2_with fail
                              go_roundw
                              case rel => exact ⟨n + 1, by go_num, by omega, by rw [HFS.out]; simp [e1, e2], H.less (by repeat (first | exact .slnil | refine .cons_cons _ ?_ | refine .cons _ ?_))⟩
                              case measure => simp [intOf]; omega
                          · skip
                            go_wp2_with fail
                            go_roundw
                            case rel => exact ⟨n + 1, by go_num, by omega, by rw [HFS.out]; simp [e1], H.less (by repeat (first | exact .slnil | refine .cons_cons _ ?_ | refine .cons _ ?_))⟩
                            case measure => simp [intOf]; omega
                      · have hne : n = us.length := by omega
                        subst hne
                        rw [HFA.out]
                        go_wp2_with fail
                        go_roundw
                        case rel => exact ⟨m + 1, by go_num, by omega, by go_num, H.less (by repeat (first | exact .slnil | refine .cons_cons _ ?_ | refine .cons _ ?_))⟩
                        case measure => simp [intOf]; omega
                  · have hme : m = pg.length := by omega
                    subst hme
                    go_wp2_with fail
                    go_roundw
                    case rel => exact ⟨j + 1, by go_num, by omega, by rw [HNS.out]; push_cast; rfl, H.less (by repeat (first | exact .slnil | refine .cons_cons _ ?_ | refine .cons _ ?_))⟩
                    case measure => simp [intOf]; omega
              · have htk : X.take j = X := List.take_of_length_le (by rw [HXL.out]; omega)
                rw [htk]
                clear htk
                go_wp2_with fail
                go_loopw [11, 168] (fun nn mm wr => ∃ (m : Nat), mm = .int .i64 m ∧ m ≤ 64 ∧ nn = .int .i64 (((allPg X).length : Int) - (sumC X m : Nat)) ∧ HS NoD w [.dice w.heap.size bd, .row (.slice (some ⟨g, 0, none⟩) qs.length d) 31 5 qs.length (qs.flatMap pvC), Item.many (qs.flatMap innerR), .row (.slice (some ⟨g2, 0, none⟩) rs.length d2) 31 5 rs.length (rs.flatMap pvC), Item.many (rs.flatMap innerR)] wr) (fun _ mm _ => 64 - (intOf mm).toNat)
                case atStart => exact ⟨0, rfl, Nat.zero_le _, by simp [sumC], H⟩
                case round =>
                  clear H C
                  obtain ⟨m, rfl, hm, rfl, H⟩ := hrel
                  skip
                  try clear C
                  try simp only [World.size_alloc, List.nil_append, List.cons_append, List.append_assoc] at H
                  have C := H.cells
                  try simp only [cellsOf, cellsM, apartOf, apartM, and_true] at C
                  by_cases hlm : m < 64
                  · obtain ⟨c1, hc1⟩ : ∃ n, n = cnt X (m : Int) := ⟨_, rfl⟩
                    have HU1 := Lib.hid (fun v w h => users_cnt (m : Int) (v := v) HGX.out.smallP w h hc1.symm)
                    have hs1 : sumC X (m + 1) = sumC X m + c1 := by rw [sumC, hc1]
                    have hs2 := sumC_le X (show m + 1 ≤ 64 by omega)
                    rw [HTOT.out] at hs2
                    have HS1 := Lib.hid hs1
                    have hb1 : (sumC X m : Nat) + c1 ≤ (allPg X).length := by omega
                    clear hc1 hs1 hs2
                    generalize sumC X m = S0 at *
                    generalize (allPg X).length = NN at *
                    go_wp2_with fail
                    refine (HU1.out _ _ (by have := H.ownPs2 3 4 rfl rfl rfl; rw [HXS.out] at this; exact this)).mono ?_
                    rintro _ w16 ⟨sa1, ca1, rfl, hb⟩
                    replace H := H.below hb
                    clear hb
                    try clear C
                    try simp only [World.size_alloc, List.nil_append, List.cons_append, List.append_assoc] at H
                    try clear wr
                    have C := H.cells
                    try simp only [cellsOf, cellsM, apartOf, apartM, and_true] at C
                    dsimp only
                    go_wp2_with fail
                    go_roundw
                    case rel => exact ⟨m + 1, by go_num, by omega, by rw [HS1.out]; push_cast; congr 1; omega, H⟩
                    case measure => simp [intOf]; omega
                  · have hme : m = 64 := by omega
                    subst hme
                    rw [HTOT.out, Int.sub_self]
                    have H8 := HS.less (L' := [.dice w.heap.size bd, .row (.slice (some ⟨g2, 0, none⟩) rs.length d2) 31 5 rs.length (rs.flatMap pvC), Item.many (rs.flatMap innerR)]) H (by repeat (first | exact .slnil | refine .cons_cons _ ?_ | refine .cons _ ?_))
                    replace H8 := HS.shutPs (L := [_]) H8
                    simp only [List.nil_append, List.cons_append] at H8
                    have HG9 : Hid (GoodP 64 (rs.map (·.p))) := by rw [HXS.out]; exact HGX
                    go_wp2_with fail
                    go_roundw
                    case rel => exact ⟨k + 1, rs, rfl, by omega, by omega, hr0, HG9, H8⟩
                    case measure => simp [intOf]; omega
          · have heb : (er == 0) = false := beq_eq_false_iff_ne.2 he
            have heb2 : (er != 0) = true := by simp [he]
            have H8 := HS.less (L' := [.dice w.heap.size bd, .row (.slice (some ⟨g, 0, none⟩) qs.length d) 31 5 qs.length (qs.flatMap pvC), Item.many (qs.flatMap innerR)]) H (by repeat (first | exact .slnil | refine .cons_cons _ ?_ | refine .cons _ ?_))
            replace H8 := HS.shutPs (L := [_]) H8
            simp only [List.nil_append, List.cons_append] at H8
            clear hok
            go_wp2_with fail
            go_roundw
            case rel => exact ⟨k + 1, qs, rfl, by omega, by omega, h3, HG8, H8⟩
            case measure => simp [intOf]; omega
      · go_wp2_with fail
        refine (HAW.out _).mono ?_
        rintro _ w17 ⟨rfl, hb⟩
        replace H := H.below hb
        clear hb
        try clear C
        try simp only [World.size_alloc, List.nil_append, List.cons_append, List.append_assoc] at H
        try clear w16
        have C := H.cells
        try simp only [cellsOf, cellsM, apartOf, apartM, and_true] at C
        dsimp only
        go_wp2_with fail
        go_ret
        exact ⟨rfl, H.done⟩
  · rw [decide_eq_false h400] at hli
    have HLI := Lib.hid hli
    clear hli
    go_enter Try.func7, Try.ntmps7
    have H := HS.start NoD w
    go_wp2_with fail
    refine (gives_of (HLI.out _)).mono ?_
    rintro _ w1 ⟨rfl, hb⟩
    replace H := H.below hb
    clear hb
    try clear C
    try simp only [World.size_alloc, List.nil_append, List.cons_append, List.append_assoc] at H
    have C := H.cells
    try simp only [cellsOf, cellsM, apartOf, apartM, and_true] at C
    dsimp only
    go_wp2_with fail
    refine (HAW.out _).mono ?_
    rintro _ w2 ⟨rfl, hb⟩
    replace H := H.below hb
    clear hb
    try clear C
    try simp only [World.size_alloc, List.nil_append, List.cons_append, List.append_assoc] at H
    try clear w1
    have C := H.cells
    try simp only [cellsOf, cellsM, apartOf, apartM, and_true] at C
    dsimp only
    go_wp2_with fail
    go_ret
    exact ⟨rfl, H.done⟩
end Go.Proofs.Ytmnddnlabdafcaa
