/- Programs (memfaultref29): Tell, Replace. -/
import Derived.Test.YtmnddnlabdafcaaO10
import Derived.Test.YtmnddnlabdafcaaOP6
namespace Go.Proofs.Ytmnddnlabdafcaa
set_option linter.unusedSimpArgs false
set_option linter.unusedVariables false
open Go.RowKit
set_option maxRecDepth 100000
attribute [local go_sem] lt_more ne_more ne_more'
attribute [local irreducible] wpX wpF Calls

set_option maxHeartbeats 4000000 in
theorem rtell_any (id n : Int) {F : Int} {v : Value} {ps : List Pr} (hg : GoodP F ps) (w : World) (hl : Ps w w.heap.size v ps) :
    Calls Try.prog 39 #[v, .int .i64 id, .int .i64 n] w (GivesP3 (tellP ps id n) w) := by
  have HA := Lib.hid (fun w h => rdrop_any id n (v := v) hg w h)
  have HPS := Lib.hid hl
  have HG := Lib.hid hg
  clear hl hg
  rcases findP_cases ps id n with ⟨i, k, hf, hi, hk⟩ | ⟨e, hf, he⟩
  rotate_left
  · rw [dropP_err hf he] at HA
    rw [tellP_err hf he]
    clear hf
    have hne : ((e : Int) == 0) = false := by rcases he with rfl | rfl <;> rfl
    clear he
    go_enter Try.func39, Try.ntmps39
    have H := HS.start NoD w
    go_wp2_with fail
    refine (HA.out _ (H.psUp HPS.out)).mono ?_
    rintro _ w4 ⟨v4, rs, rfl, hrs, K⟩
    replace H := H.join1 K
    clear K
    skip
    try clear C
    try simp only [World.size_alloc, List.nil_append, List.cons_append, List.append_assoc] at H
    have C := H.cells
    try simp only [cellsOf, cellsM, apartOf, apartM, and_true] at C
    dsimp only
    go_wp2_with fail
    refine bodyPost_ret (by simp [results, Try.results39, go_sem, C]; try rfl) rfl ?_
    exact givesP3_nil H _ _
  · rw [dropP_of hf] at HA
    obtain ⟨R, hR⟩ : ∃ R, R = tellP ps id n := ⟨_, rfl⟩
    rw [← hR]
    have HE := Lib.hid (hR.trans (tellP_of hf))
    have hkl := (findIdx_some hk).1
    have hil := (findIdx_some hi).1
    obtain ⟨po, hpo⟩ : ∃ p, p = ps[i]! := ⟨_, rfl⟩
    have HI := Lib.hid (live_set hi (q := { po with pages := po.pages.eraseIdx k }) (by rw [hpo]) (by rw [hpo]))
    rw [← hpo] at HA HE hkl
    have HPO := Lib.hid hpo
    have h6 := HG.out.one _ (at_mem hil)
    rw [← hpo] at h6
    obtain ⟨pi, pt, pd, pg, td⟩ := po
    have hs0 : pg.length ≤ 16 := h6.plen
    have ht0 : td.length ≤ 200 := h6.told
    dsimp only at HA HE HI
    replace hkl : k < pg.length := hkl
    clear hf hR hi hk hpo h6
    obtain ⟨os, hos⟩ : ∃ os, os = ps.set i ⟨pi, pt, pd, pg.eraseIdx k, td⟩ := ⟨_, rfl⟩
    have HOS := Lib.hid hos
    have hol : os.length ≤ 8 := by rw [hos, List.length_set]; exact HG.out.len
    have hio : i < os.length := by rw [hos, List.length_set]; exact hil
    have hoi : os[i]! = ⟨pi, pt, pd, pg.eraseIdx k, td⟩ := by rw [hos, set_bang _ hil]
    have hoo : ∀ q, os.set i q = ps.set i q := fun q => by rw [hos, List.set_set]
    rw [← hos] at HA HE HI
    have HOI := Lib.hid hoi
    have HOO := Lib.hid hoo
    clear hos hoi hoo
    obtain ⟨fl, hfl⟩ : ∃ f, f = leftP os (pg[k]!).f := ⟨_, rfl⟩
    rw [← hfl] at HA HE
    clear hfl
    have HPR := Lib.hid (fun v w h => rat_any id (v := v) (ps := os) (by omega) w h)
    rw [HI.out] at HPR
    dsimp only [idx?] at HPR
    clear HI
    go_enter Try.func39, Try.ntmps39
    have H := HS.start NoD w
    go_wp2_with fail
    refine (HA.out _ (H.psUp HPS.out)).mono ?_
    rintro _ w4 ⟨v4, rs, rfl, hrs, K⟩
    replace H := H.join1 K
    clear K HA
    simp only [List.nil_append] at H
    have HRS := Lib.hid (show rs.map (·.p) = os from hrs)
    clear hrs
    skip
    try clear C
    try simp only [World.size_alloc, List.nil_append, List.cons_append, List.append_assoc] at H
    have C := H.cells
    try simp only [cellsOf, cellsM, apartOf, apartM, and_true] at C
    dsimp only
    go_wp2_with fail
    refine (HPR.out _ _ (by have := H.ownPs 0 rfl; rw [HRS.out] at this; exact this)).mono ?_
    rintro _ w1 ⟨rfl, hb⟩
    replace H := H.below hb
    clear hb
    try clear C
    try simp only [World.size_alloc, List.nil_append, List.cons_append, List.append_assoc] at H
    try clear w4
    have C := H.cells
    try simp only [cellsOf, cellsM, apartOf, apartM, and_true] at C
    dsimp only
    clear HPR
    have hir : i < rs.length := by have := congrArg List.length HRS.out; simp at this; omega
    have hop := HS.openAt (L := []) H hir
    clear H
    obtain ⟨g, d, pb, pc, tb, tc, rfl, hcap, hpa, hta, H⟩ := hop
    simp only [List.nil_append, List.cons_append] at H
    obtain ⟨pv, hpv⟩ : ∃ q, q = rs[i]! := ⟨_, rfl⟩
    rw [← hpv] at H hpa hta
    have hpe : os[i]! = pv.p := by rw [← HRS.out, map_at hir, hpv]
    have HPV := Lib.hid hpv
    obtain ⟨p4, pa, ta⟩ := pv
    have f0 : p4 = ⟨pi, pt, pd, pg.eraseIdx k, td⟩ := hpe.symm.trans HOI.out
    subst f0
    have f1 : pa = .slice pb (pg.eraseIdx k).length pc := hpa
    have f2 : ta = .slice tb td.length tc := hta
    clear hpa hta hpv hpe
    subst f1 f2
    dsimp only at H ⊢
    have hrl : rs.length ≤ 8 := by have := congrArg List.length HRS.out; simp at this; omega
    have k4 := H.outerCell 0 rfl rfl hir (m := 4) (u := .slice tb td.length tc) (by decide) (by rw [← HPV.out]; rfl)
    obtain ⟨k4, k4f⟩ := k4
    by_cases ht : td.length < 200
    · have ht2 : (td.length : Int) < 200 := by omega
      have HTT := Lib.hid (show tellT td n = td ++ [n] from if_pos ht)
      go_upto_region 6 with fail
      go_wp2_with (at_builtin; refine wpList_append_H rfl (.tmp 40) (.tmp 42) 22 rfl elemN H.alloc 2 rfl rfl 4 rfl rfl rfl rfl (by decide) (by unfold maxLen; omega) (by omega) (fun g9 c9 wz HZ => ?_); clear H k4 k4f
                   simp only [List.nil_append, List.cons_append, List.append_assoc, List.set_cons_succ, List.set_cons_zero] at HZ
                   have k4 := HZ.outerCell 0 rfl rfl hir (m := 4) (u := .slice tb td.length tc) (by decide) (by rw [← HPV.out]; rfl)
                   obtain ⟨k4, k4f⟩ := k4)
      clear k4 k4f
      generalize hwb : World.setCell _ _ _ = wf
      have H9 := HS.eqW hwb (HZ.rowSet 0 rfl (i * 5 + 4) (.slice (some ⟨g9, 0, none⟩) (td.length + 1) c9))
      clear hwb HZ
      simp only [List.set_cons_zero] at H9
      obtain ⟨q', hq'⟩ : ∃ q' : Pv, q' = ⟨⟨pi, pt, pd, pg.eraseIdx k, td ++ [n]⟩, .slice pb (pg.eraseIdx k).length pc, .slice (some ⟨g9, 0, none⟩) (td.length + 1) c9⟩ := ⟨_, rfl⟩
      have hpv : pvC q' = (pvC rs[i]!).set 4 (.slice (some ⟨g9, 0, none⟩) (td.length + 1) c9) := by rw [hq', ← HPV.out]; rfl
      have hfl2 : (td ++ [n]).flatMap iC = td.flatMap iC ++ [.int .i64 n] := by rw [List.flatMap_append]; rfl
      have H := HS.shutAt (L := []) (g := g) (d := d) (rs := rs) (i := i) (cells := (rs.flatMap pvC).set (i * 5 + 4) (.slice (some ⟨g9, 0, none⟩) (td.length + 1) c9)) q' (by
        rw [hq']; unfold pagesR toldR; dsimp only; rw [List.length_append, hfl2]
        exact HS.less H9 (by repeat (first | exact .slnil | refine .cons_cons _ ?_ | refine .cons _ ?_))) hir (flat_set pvC_len rs i 4 _ _ hir (by decide) hpv).symm
      skip
      try clear C
      try simp only [World.size_alloc, List.nil_append, List.cons_append, List.append_assoc] at H
      have C := H.cells
      try simp only [cellsOf, cellsM, apartOf, apartM, and_true] at C
      refine bodyPost_ret (by simp [results, Try.results39, go_sem, C]; try rfl) rfl ?_
      rw [HE.out, HTT.out]
      exact ⟨.slice (some ⟨g, 0, none⟩) rs.length d, rs.set i q', rfl, by rw [List.map_set, HRS.out, HOO.out, hq'], H⟩
    · have ht2 : ¬ (td.length : Int) < 200 := by omega
      have HTT := Lib.hid (show tellT td n = td from if_neg ht)
      skip
      go_wp2_with fail
      clear k4 k4f
      obtain ⟨q', hq'⟩ : ∃ q' : Pv, q' = ⟨⟨pi, pt, pd, pg.eraseIdx k, td⟩, .slice pb (pg.eraseIdx k).length pc, .slice tb td.length tc⟩ := ⟨_, rfl⟩
      replace H := HS.shutAt (L := []) (g := g) (d := d) (rs := rs) (i := i) (cells := rs.flatMap pvC) q' (by rw [hq']; exact H) hir (by rw [flat_set_split hir, flat_split hir, hq', HPV.out])
      try clear C
      try simp only [World.size_alloc, List.nil_append, List.cons_append, List.append_assoc] at H
      have C := H.cells
      try simp only [cellsOf, cellsM, apartOf, apartM, and_true] at C
      refine bodyPost_ret (by simp [results, Try.results39, go_sem, C]; try rfl) rfl ?_
      rw [HE.out, HTT.out]
      exact ⟨.slice (some ⟨g, 0, none⟩) rs.length d, rs.set i q', rfl, by rw [List.map_set, HRS.out, HOO.out, hq'], H⟩
set_option maxHeartbeats 8000000 in
theorem rrepl_any (a b : Int) {v : Value} {ps : List Pr} (hx : SmallP ps) (w : World) (hl : Ps w w.heap.size v ps) :
    Calls Try.prog 40 #[v, .int .i64 a, .int .i64 b] w (GivesP (fun v => .tuple #[v, .int .i64 (replP ps a b).1]) (replP ps a b).2 w) := by
  have HU := Lib.hid (fun w h => runused_any b (v := v) hx w h)
  have HCP := Lib.hid (fun w h => rcopy_any (v := v) hx w h)
  have HPS := Lib.hid hl
  have HSM := Lib.hid hx
  obtain ⟨R, hR⟩ : ∃ R, R = replP ps a b := ⟨_, rfl⟩
  rw [← hR]
  have HR := Lib.hid (hR.trans (show _ = if a < 0 ∨ 64 ≤ a ∨ b < 0 ∨ 64 ≤ b then ((2 : Int), ([] : List Pr)) else if a ≠ b ∧ usedB ps b = true then (43, []) else (0, ps.map (moveP a b)) from rfl))
  clear hl hx hR
  by_cases hr : a < 0 ∨ 64 ≤ a ∨ b < 0 ∨ 64 ≤ b
  · have HE := Lib.hid (HR.out.trans (if_pos hr))
    have HRR := Lib.hid hr
    clear HR HU HCP hr
    by_cases r1 : a < 0
    · skip
      go_enter Try.func40, Try.ntmps40
      have H := HS.start NoD w
      go_wp2_with fail
      try clear C
      try simp only [World.size_alloc, List.nil_append, List.cons_append, List.append_assoc] at H
      have C := H.cells
      try simp only [cellsOf, cellsM, apartOf, apartM, and_true] at C
      refine bodyPost_ret (by simp [results, Try.results40, go_sem, C]; try rfl) rfl ?_
      rw [HE.out]
      exact givesP_nil H _
    · by_cases r2 : 64 ≤ a
      · skip
        go_enter Try.func40, Try.ntmps40
        have H := HS.start NoD w
        go_wp2_with fail
        try clear C
        try simp only [World.size_alloc, List.nil_append, List.cons_append, List.append_assoc] at H
        have C := H.cells
        try simp only [cellsOf, cellsM, apartOf, apartM, and_true] at C
        refine bodyPost_ret (by simp [results, Try.results40, go_sem, C]; try rfl) rfl ?_
        rw [HE.out]
        exact givesP_nil H _
      · by_cases r3 : b < 0
        · skip
          go_enter Try.func40, Try.ntmps40
          have H := HS.start NoD w
          go_wp2_with fail
          try clear C
          try simp only [World.size_alloc, List.nil_append, List.cons_append, List.append_assoc] at H
          have C := H.cells
          try simp only [cellsOf, cellsM, apartOf, apartM, and_true] at C
          refine bodyPost_ret (by simp [results, Try.results40, go_sem, C]; try rfl) rfl ?_
          rw [HE.out]
          exact givesP_nil H _
        · have r4 : 64 ≤ b := by have := HRR.out; omega
          go_enter Try.func40, Try.ntmps40
          have H := HS.start NoD w
          go_wp2_with fail
          try clear C
          try simp only [World.size_alloc, List.nil_append, List.cons_append, List.append_assoc] at H
          have C := H.cells
          try simp only [cellsOf, cellsM, apartOf, apartM, and_true] at C
          refine bodyPost_ret (by simp [results, Try.results40, go_sem, C]; try rfl) rfl ?_
          rw [HE.out]
          exact givesP_nil H _
  · have HR2 := Lib.hid (HR.out.trans (if_neg hr))
    have hr1 : 0 ≤ a ∧ a < 64 ∧ 0 ≤ b ∧ b < 64 := by omega
    clear HR hr
    by_cases hab : a = b
    · have HE := Lib.hid (HR2.out.trans (if_neg (fun h => h.1 hab)))
      have hab2 : ((a : Int) != b) = false := by simp [hab]
      clear hab HR2 HU
      go_enter Try.func40, Try.ntmps40
      have H := HS.start NoD w
      go_wp2_with fail
      refine (HCP.out _ (H.psUp HPS.out)).mono ?_
      rintro _ w4 ⟨v4, rs, rfl, hrs, K⟩
      replace H := H.join1 K
      clear K HCP
      try clear C
      have hrl : rs.length ≤ 1000 := by have := HSM.out.1; rw [← hrs] at this; simpa using this
      have HRS := Lib.hid hrs
      clear hrs
      obtain ⟨sb, d4, rfl⟩ : ∃ sb d, v4 = .slice sb rs.length d := by
        have H' := H.manyCons 0 rfl
        simp only [List.eraseIdx_cons_zero, List.nil_append, List.cons_append, outerR] at H'
        exact ownsRow_slice (H'.at 0 rfl)
      simp only [List.nil_append] at H
      skip
      dsimp only
      go_wp2_with fail
      go_loopw [40] (fun jj wr => ∃ (j : Nat), jj = .int .i64 j ∧ j ≤ rs.length ∧ HS NoD w [Item.many (PsR (.slice sb rs.length d4) (mix (moveV a b) j rs))] wr) (fun jj _ => rs.length - (intOf jj).toNat)
      case atStart => exact ⟨0, rfl, Nat.zero_le _, by rw [mix_zero]; exact H⟩
      case round =>
        clear H
        obtain ⟨j, rfl, hj, H⟩ := hrel
        skip
        by_cases hlt : j < rs.length
        · have hjm : j < (mix (moveV a b) j rs).length := by rw [mix_len]; exact hlt
          have hop := HS.openAt (L := []) H hjm
          clear H
          obtain ⟨g, d, pb, pc, tb, tc, e1, hcap, hpa, hta, H⟩ := hop
          simp only [List.nil_append, List.cons_append] at H
          rw [mix_len] at e1 hcap H
          injection e1 with e1 e2 e3
          subst e1 e3
          clear e2
          rw [mix_at hlt] at H hpa hta
          obtain ⟨pv, hpv⟩ : ∃ q, q = rs[j]! := ⟨_, rfl⟩
          rw [← hpv] at H hpa hta
          have HPV := Lib.hid hpv
          clear hpv
          obtain ⟨⟨pi, pt, pd, pg, td⟩, pa, ta⟩ := pv
          have f1 : pa = .slice pb pg.length pc := hpa
          have f2 : ta = .slice tb td.length tc := hta
          clear hpa hta
          subst f1 f2
          dsimp only at H
          have hs1 : pg.length ≤ 1000 := by
            have := (HSM.out.2 (rs[j]!).p (by rw [← HRS.out]; exact List.mem_map.2 ⟨_, mem_at hlt, rfl⟩)).1
            rw [← HPV.out] at this; exact this
          rw [moveV_flat] at H
          have k3 := (H.outerCell 0 rfl rfl hlt (m := 3) (u := .slice pb pg.length pc) (by decide) (by rw [← HPV.out]; rfl)).1
          try clear C
          try simp only [World.size_alloc, List.nil_append, List.cons_append, List.append_assoc] at H
          have C := H.cells
          try simp only [cellsOf, cellsM, apartOf, apartM, and_true] at C
          go_wp2_with fail
          clear k3
          go_loopw [49] (fun kk wr => ∃ (k : Nat), kk = .int .i64 k ∧ k ≤ pg.length ∧ HS NoD w [.row (.slice (some ⟨g, 0, none⟩) rs.length d4) 31 5 rs.length (rs.flatMap pvC), .row (.slice pb pg.length pc) 37 3 pg.length ((mix (mv1 a b) k pg).flatMap pgC), .row (.slice tb td.length tc) 3 1 td.length (td.flatMap iC), Item.many (restB (mix (moveV a b) j rs) j)] wr) (fun kk _ => pg.length - (intOf kk).toNat)
          case atStart => exact ⟨0, rfl, Nat.zero_le _, by rw [mix_zero]; exact H⟩
          case round =>
            clear H C
            obtain ⟨k, rfl, hk, H⟩ := hrel
            rename_i wk _ _
            skip
            try clear C
            try simp only [World.size_alloc, List.nil_append, List.cons_append, List.append_assoc] at H
            have C := H.cells
            try simp only [cellsOf, cellsM, apartOf, apartM, and_true] at C
            by_cases hlk : k < pg.length
            · obtain ⟨h, rfl, hh, hcp⟩ := ownsRow_ptr (H.at 1 rfl) (by omega)
              obtain ⟨xo, hxo⟩ : ∃ x, x = pg[k]! := ⟨_, rfl⟩
              have p1 := H.pageCell 1 rfl (mix_len (mv1 a b) k pg).symm (i := k) (m := 1) (u := .int .i64 xo.f) (by rw [mix_len]; exact hlk) (by decide) (by rw [mix_at hlk, hxo]; rfl)
              obtain ⟨p1, p1f⟩ := p1
              have k3 := (H.outerCell 0 rfl rfl hlt (m := 3) (u := .slice (some ⟨h, 0, none⟩) pg.length pc) (by decide) (by rw [← HPV.out]; rfl)).1
              have HXO := Lib.hid hxo
              clear hxo
              by_cases hq : xo.f = a
              · have hfl : (mix (mv1 a b) (k + 1) pg).flatMap pgC = ((mix (mv1 a b) k pg).flatMap pgC).set (k * 3 + 1) (.int .i64 b) := by
                  rw [mix_succ hlk]
                  exact flat_set pgC_len (mix (mv1 a b) k pg) k 1 _ (.int .i64 b) (by rw [mix_len]; exact hlk) (by decide) (by rw [mix_at hlk, ← HXO.out]; unfold mv1; rw [if_pos hq]; rfl)
                have HFL := Lib.hid hfl
                clear hfl
                go_wp2_with fail
                clear p1 p1f k3
                go_roundw
                case rel =>
                  refine ⟨k + 1, by go_num, by omega, ?_⟩
                  have H9 := H.rowSet 1 rfl (k * 3 + 1) (.int .i64 b)
                  rw [HFL.out]
                  exact H9
                case measure => simp [intOf]; omega
              · have HSA := Lib.hid (mix_same (g := mv1 a b) hlk (by rw [← HXO.out]; unfold mv1; rw [if_neg hq]))
                have hqb : (xo.f == a) = false := beq_eq_false_iff_ne.2 hq
                go_wp2_with fail
                clear p1 p1f k3
                go_roundw
                case rel => exact ⟨k + 1, by go_num, by omega, by rw [HSA.out]; exact H⟩
                case measure => simp [intOf]; omega
            · have hke : k = pg.length := by omega
              subst hke
              rw [mix_all (Nat.le_refl _)] at H
              go_wp2_with fail
              obtain ⟨q', hq'⟩ : ∃ q' : Pv, q' = ⟨⟨pi, pt, pd, pg.map (mv1 a b), td⟩, .slice pb pg.length pc, .slice tb td.length tc⟩ := ⟨_, rfl⟩
              have hqm : q' = moveV a b rs[j]! := by rw [hq', ← HPV.out]; rfl
              have H10 := HS.shutAt (L := []) (g := g) (d := d4) (rs := mix (moveV a b) j rs) (i := j) (cells := rs.flatMap pvC) q' (by rw [mix_len, hq']; unfold pagesR toldR; dsimp only; rw [List.length_map]; exact H) hjm (by rw [hqm, ← mix_succ hlt, moveV_flat])
              rw [mix_len, hqm, ← mix_succ hlt] at H10
              go_roundw
              case rel => exact ⟨j + 1, by go_num, by omega, H10⟩
              case measure => simp [intOf]; omega
        · have hje : j = rs.length := by omega
          subst hje
          rw [mix_all (Nat.le_refl _)] at H
          try clear C
          try simp only [World.size_alloc, List.nil_append, List.cons_append, List.append_assoc] at H
          have C := H.cells
          try simp only [cellsOf, cellsM, apartOf, apartM, and_true] at C
          go_wp2_with fail
          refine bodyPost_ret (by simp [results, Try.results40, go_sem, C]; try rfl) rfl ?_
          rw [HE.out]
          exact ⟨.slice sb rs.length d4, rs.map (moveV a b), rfl, by rw [← HRS.out, List.map_map, List.map_map]; rfl, H⟩
    · have hab2 : ((a : Int) != b) = true := bne_iff_ne.2 hab
      by_cases hu : usedB ps b = true
      · have HE := Lib.hid (HR2.out.trans (if_pos ⟨hab, hu⟩))
        rw [show leftP ps b = -1 by unfold leftP; rw [if_pos hu]] at HU
        clear HR2 HCP hu
        go_enter Try.func40, Try.ntmps40
        have H := HS.start NoD w
        go_wp2_with fail
        refine (HU.out _ (H.psUp HPS.out)).mono ?_
        rintro _ w1 ⟨rfl, hb⟩
        replace H := H.below hb
        clear hb
        try clear C
        try simp only [World.size_alloc, List.nil_append, List.cons_append, List.append_assoc] at H
        have C := H.cells
        try simp only [cellsOf, cellsM, apartOf, apartM, and_true] at C
        dsimp only
        go_wp2_with fail
        refine bodyPost_ret (by simp [results, Try.results40, go_sem, C]; try rfl) rfl ?_
        rw [HE.out]
        exact givesP_nil H _
      · have HE := Lib.hid (HR2.out.trans (if_neg (fun h => hu h.2)))
        rw [show leftP ps b = b by unfold leftP; rw [if_neg hu]] at HU
        clear HR2 hu
        go_enter Try.func40, Try.ntmps40
        have H := HS.start NoD w
        go_wp2_with fail
        refine (HU.out _ (H.psUp HPS.out)).mono ?_
        rintro _ w1 ⟨rfl, hb⟩
        replace H := H.below hb
        clear hb
        try clear C
        try simp only [World.size_alloc, List.nil_append, List.cons_append, List.append_assoc] at H
        have C := H.cells
        try simp only [cellsOf, cellsM, apartOf, apartM, and_true] at C
        dsimp only
        go_wp2_with fail
        refine (HCP.out _ (H.psUp HPS.out)).mono ?_
        rintro _ w4 ⟨v4, rs, rfl, hrs, K⟩
        replace H := H.join1 K
        clear K HCP
        try clear C
        have hrl : rs.length ≤ 1000 := by have := HSM.out.1; rw [← hrs] at this; simpa using this
        have HRS := Lib.hid hrs
        clear hrs
        obtain ⟨sb, d4, rfl⟩ : ∃ sb d, v4 = .slice sb rs.length d := by
          have H' := H.manyCons 0 rfl
          simp only [List.eraseIdx_cons_zero, List.nil_append, List.cons_append, outerR] at H'
          exact ownsRow_slice (H'.at 0 rfl)
        simp only [List.nil_append] at H
        skip
        dsimp only
        go_wp2_with fail
        go_loopw [40] (fun jj wr => ∃ (j : Nat), jj = .int .i64 j ∧ j ≤ rs.length ∧ HS NoD w [Item.many (PsR (.slice sb rs.length d4) (mix (moveV a b) j rs))] wr) (fun jj _ => rs.length - (intOf jj).toNat)
        case atStart => exact ⟨0, rfl, Nat.zero_le _, by rw [mix_zero]; exact H⟩
        case round =>
          clear H
          obtain ⟨j, rfl, hj, H⟩ := hrel
          skip
          by_cases hlt : j < rs.length
          · have hjm : j < (mix (moveV a b) j rs).length := by rw [mix_len]; exact hlt
            have hop := HS.openAt (L := []) H hjm
            clear H
            obtain ⟨g, d, pb, pc, tb, tc, e1, hcap, hpa, hta, H⟩ := hop
            simp only [List.nil_append, List.cons_append] at H
            rw [mix_len] at e1 hcap H
            injection e1 with e1 e2 e3
            subst e1 e3
            clear e2
            rw [mix_at hlt] at H hpa hta
            obtain ⟨pv, hpv⟩ : ∃ q, q = rs[j]! := ⟨_, rfl⟩
            rw [← hpv] at H hpa hta
            have HPV := Lib.hid hpv
            clear hpv
            obtain ⟨⟨pi, pt, pd, pg, td⟩, pa, ta⟩ := pv
            have f1 : pa = .slice pb pg.length pc := hpa
            have f2 : ta = .slice tb td.length tc := hta
            clear hpa hta
            subst f1 f2
            dsimp only at H
            have hs1 : pg.length ≤ 1000 := by
              have := (HSM.out.2 (rs[j]!).p (by rw [← HRS.out]; exact List.mem_map.2 ⟨_, mem_at hlt, rfl⟩)).1
              rw [← HPV.out] at this; exact this
            rw [moveV_flat] at H
            have k3 := (H.outerCell 0 rfl rfl hlt (m := 3) (u := .slice pb pg.length pc) (by decide) (by rw [← HPV.out]; rfl)).1
            try clear C
            try simp only [World.size_alloc, List.nil_append, List.cons_append, List.append_assoc] at H
            have C := H.cells
            try simp only [cellsOf, cellsM, apartOf, apartM, and_true] at C
            go_wp2_with fail
            clear k3
            go_loopw [49] (fun kk wr => ∃ (k : Nat), kk = .int .i64 k ∧ k ≤ pg.length ∧ HS NoD w [.row (.slice (some ⟨g, 0, none⟩) rs.length d4) 31 5 rs.length (rs.flatMap pvC), .row (.slice pb pg.length pc) 37 3 pg.length ((mix (mv1 a b) k pg).flatMap pgC), .row (.slice tb td.length tc) 3 1 td.length (td.flatMap iC), Item.many (restB (mix (moveV a b) j rs) j)] wr) (fun kk _ => pg.length - (intOf kk).toNat)
            case atStart => exact ⟨0, rfl, Nat.zero_le _, by rw [mix_zero]; exact H⟩
            case round =>
              clear H C
              obtain ⟨k, rfl, hk, H⟩ := hrel
              rename_i wk _ _
              skip
              try clear C
              try simp only [World.size_alloc, List.nil_append, List.cons_append, List.append_assoc] at H
              have C := H.cells
              try simp only [cellsOf, cellsM, apartOf, apartM, and_true] at C
              by_cases hlk : k < pg.length
              · obtain ⟨h, rfl, hh, hcp⟩ := ownsRow_ptr (H.at 1 rfl) (by omega)
                obtain ⟨xo, hxo⟩ : ∃ x, x = pg[k]! := ⟨_, rfl⟩
                have p1 := H.pageCell 1 rfl (mix_len (mv1 a b) k pg).symm (i := k) (m := 1) (u := .int .i64 xo.f) (by rw [mix_len]; exact hlk) (by decide) (by rw [mix_at hlk, hxo]; rfl)
                obtain ⟨p1, p1f⟩ := p1
                have k3 := (H.outerCell 0 rfl rfl hlt (m := 3) (u := .slice (some ⟨h, 0, none⟩) pg.length pc) (by decide) (by rw [← HPV.out]; rfl)).1
                have HXO := Lib.hid hxo
                clear hxo
                by_cases hq : xo.f = a
                · have hfl : (mix (mv1 a b) (k + 1) pg).flatMap pgC = ((mix (mv1 a b) k pg).flatMap pgC).set (k * 3 + 1) (.int .i64 b) := by
                    rw [mix_succ hlk]
                    exact flat_set pgC_len (mix (mv1 a b) k pg) k 1 _ (.int .i64 b) (by rw [mix_len]; exact hlk) (by decide) (by rw [mix_at hlk, ← HXO.out]; unfold mv1; rw [if_pos hq]; rfl)
                  have HFL := Lib.hid hfl
                  clear hfl
                  go_wp2_with fail
                  clear p1 p1f k3
                  go_roundw
                  case rel =>
                    refine ⟨k + 1, by go_num, by omega, ?_⟩
                    have H9 := H.rowSet 1 rfl (k * 3 + 1) (.int .i64 b)
                    rw [HFL.out]
                    exact H9
                  case measure => simp [intOf]; omega
                · have HSA := Lib.hid (mix_same (g := mv1 a b) hlk (by rw [← HXO.out]; unfold mv1; rw [if_neg hq]))
                  have hqb : (xo.f == a) = false := beq_eq_false_iff_ne.2 hq
                  go_wp2_with fail
                  clear p1 p1f k3
                  go_roundw
                  case rel => exact ⟨k + 1, by go_num, by omega, by rw [HSA.out]; exact H⟩
                  case measure => simp [intOf]; omega
              · have hke : k = pg.length := by omega
                subst hke
                rw [mix_all (Nat.le_refl _)] at H
                go_wp2_with fail
                obtain ⟨q', hq'⟩ : ∃ q' : Pv, q' = ⟨⟨pi, pt, pd, pg.map (mv1 a b), td⟩, .slice pb pg.length pc, .slice tb td.length tc⟩ := ⟨_, rfl⟩
                have hqm : q' = moveV a b rs[j]! := by rw [hq', ← HPV.out]; rfl
                have H10 := HS.shutAt (L := []) (g := g) (d := d4) (rs := mix (moveV a b) j rs) (i := j) (cells := rs.flatMap pvC) q' (by rw [mix_len, hq']; unfold pagesR toldR; dsimp only; rw [List.length_map]; exact H) hjm (by rw [hqm, ← mix_succ hlt, moveV_flat])
                rw [mix_len, hqm, ← mix_succ hlt] at H10
                go_roundw
                case rel => exact ⟨j + 1, by go_num, by omega, H10⟩
                case measure => simp [intOf]; omega
          · have hje : j = rs.length := by omega
            subst hje
            rw [mix_all (Nat.le_refl _)] at H
            try clear C
            try simp only [World.size_alloc, List.nil_append, List.cons_append, List.append_assoc] at H
            have C := H.cells
            try simp only [cellsOf, cellsM, apartOf, apartM, and_true] at C
            go_wp2_with fail
            refine bodyPost_ret (by simp [results, Try.results40, go_sem, C]; try rfl) rfl ?_
            rw [HE.out]
            exact ⟨.slice sb rs.length d4, rs.map (moveV a b), rfl, by rw [← HRS.out, List.map_map, List.map_map]; rfl, H⟩
end Go.Proofs.Ytmnddnlabdafcaa
