/- Package owner: Drop, Tell. -/
import Derived.Test.YtedbpmckgiifpaaGreatOP5
import Derived.Test.YtedbpmckgiifpaaGreatJ6
namespace Go.Proofs.YtedbpmckgiifpaaGreat
set_option linter.unusedSimpArgs false
set_option linter.unusedVariables false
open Go.RowKit
set_option maxRecDepth 100000
attribute [local go_sem] lt_more ne_more ne_more'
attribute [local irreducible] wpX wpF Calls

theorem dropP_err {ps : List Pr} {id n e : Int} (h : findP ps id n = (e, 0, 0)) (he : e = 41 ∨ e = 42) : dropP ps id n = (e, [], -1) := by
  unfold dropP; rw [h]; rcases he with rfl | rfl <;> rfl
theorem dropP_of {ps : List Pr} {id n : Int} {i k : Nat} (h : findP ps id n = (0, i, k)) : dropP ps id n = (0, ps.set i { ps[i]! with pages := (ps[i]!).pages.eraseIdx k }, leftP (ps.set i { ps[i]! with pages := (ps[i]!).pages.eraseIdx k }) ((ps[i]!).pages[k]!).f) := by
  unfold dropP; rw [h]; rfl
theorem erase_flat {pg : List Pg} {k : Nat} (hk : k < pg.length) : (pg.eraseIdx k).flatMap pgC = (pg.flatMap pgC).take (k * 3) ++ (pg.flatMap pgC).drop ((k + 1) * 3) ∧ (pg.eraseIdx k).length = pg.length - 1 := by
  refine ⟨?_, List.length_eraseIdx_of_lt hk⟩
  rw [List.eraseIdx_eq_take_drop_succ, List.flatMap_append, flatTake pgC_len, flatDrop pgC_len]
set_option maxHeartbeats 4000000 in
theorem odrop_any (id n : Int) {F : Int} {v : Value} {ps : List Pr} (hg : GoodP F ps) (w : World) (hl : Ps w w.heap.size v ps) :
    Calls Tryz.prog 79 #[v, .int .i64 id, .int .i64 n] w (GivesP3 (dropP ps id n) w) := by
  have HA := Lib.hid (fun w h => ofind_any id n (v := v) hg w h)
  have HCP := Lib.hid (fun w h => ocopy_any (v := v) hg.smallP w h)
  have HPS := Lib.hid hl
  have HG := Lib.hid hg
  clear hl hg
  rcases findP_cases ps id n with ⟨i, k, hf, hi, hk⟩ | ⟨e, hf, he⟩
  rotate_left
  · rw [ofindR_err hf he] at HA
    rw [dropP_err hf he]
    clear hf HCP
    have hne : ((e : Int) == 0) = false := by rcases he with rfl | rfl <;> rfl
    clear he
    go_enter Tryz.func79, Tryz.ntmps79
    have H := HS.start NoD w
    go_wp2_with fail
    refine (HA.out _ (H.psUp HPS.out)).mono ?_
    rintro _ w1 ⟨rfl, hb⟩
    replace H := H.below hb
    clear hb
    try clear C
    try simp only [World.size_alloc, List.nil_append, List.cons_append, List.append_assoc] at H
    have C := H.cells
    try simp only [cellsOf, cellsM, apartOf, apartM, and_true] at C
    dsimp only
    go_wp2_with fail
    refine bodyPost_ret (by simp [results, Tryz.results79, go_sem, C]; try rfl) rfl ?_
    exact givesP3_nil H _ _
  · rw [ofindR_ok hf] at HA
    obtain ⟨R, hR⟩ : ∃ R, R = dropP ps id n := ⟨_, rfl⟩
    rw [← hR]
    have HE := Lib.hid (hR.trans (dropP_of hf))
    have hkl := (findIdx_some hk).1
    have hil := (findIdx_some hi).1
    clear hf hR hi hk
    go_enter Tryz.func79, Tryz.ntmps79
    have H := HS.start NoD w
    go_wp2_with fail
    refine (HA.out _ (H.psUp HPS.out)).mono ?_
    rintro _ w1 ⟨rfl, hb⟩
    replace H := H.below hb
    clear hb
    try clear C
    try simp only [World.size_alloc, List.nil_append, List.cons_append, List.append_assoc] at H
    have C := H.cells
    try simp only [cellsOf, cellsM, apartOf, apartM, and_true] at C
    dsimp only
    go_wp2_with fail
    refine (HCP.out _ (H.psUp HPS.out)).mono ?_
    rintro _ w2 ⟨v4, rs, rfl, hrs, K⟩
    replace H := H.join1 K
    clear K HCP
    try clear C
    have hrl : rs.length = ps.length := by rw [← hrs]; simp
    have hir : i < rs.length := by omega
    have hop := HS.openAt (L := []) H hir
    clear H
    obtain ⟨g, d, pb, pc, tb, tc, rfl, hcap, hpa, hta, H⟩ := hop
    simp only [List.nil_append, List.cons_append] at H
    obtain ⟨pv, hpv⟩ : ∃ q, q = rs[i]! := ⟨_, rfl⟩
    rw [← hpv] at H hpa hta
    have hpe : ps[i]! = pv.p := by rw [← hrs, map_at hir, hpv]
    have HPV := Lib.hid hpv
    have HRS := Lib.hid hrs
    have HPE := Lib.hid hpe
    have HRL := Lib.hid hrl
    clear hpv hrs hpe
    obtain ⟨⟨pi, pt, pd, pg, td⟩, pa, ta⟩ := pv
    have f1 : pa = .slice pb pg.length pc := hpa
    have f2 : ta = .slice tb td.length tc := hta
    clear hpa hta
    subst f1 f2
    clear hrl
    dsimp only at H HPE ⊢
    rw [HPE.out] at HE hkl
    clear HA
    replace hkl : k < pg.length := hkl
    have hs0 : pg.length ≤ 16 := by have := (HG.out.one _ (at_mem hil)).plen; rw [HPE.out] at this; exact this
    obtain ⟨h, rfl, hh, hpc⟩ := ownsRow_ptr (H.at 1 rfl) (by omega)
    obtain ⟨xo, hxo⟩ : ∃ x, x = pg[k]! := ⟨_, rfl⟩
    have HXO := Lib.hid hxo
    have k3 := (H.outerCell 0 rfl rfl hir (m := 3) (u := .slice (some ⟨h, 0, none⟩) pg.length pc) (by decide) (by rw [← HPV.out]; rfl)).1
    have p1 := (H.pageCell 1 rfl rfl hkl (m := 1) (u := .int .i64 xo.f) (by decide) (by rw [hxo]; rfl)).1
    clear hxo
    go_wp2_with fail
    clear k3 p1
    refine (delete1Pg (cs := pg.flatMap pgC) hkl (by omega) (pgC_one pg) _ (H.at 1 rfl)).mono ?_
    rintro _ w9 ⟨g9, c9, rfl, h2, h3, h4⟩
    replace H := H.grewAt 1 rfl h2 h3 h4
    clear h2 h3 h4
    simp only [List.set_cons_succ, List.set_cons_zero] at H
    skip
    dsimp only
    have k3 := H.outerCell 0 rfl rfl hir (m := 3) (u := .slice (some ⟨h, 0, none⟩) pg.length pc) (by decide) (by rw [← HPV.out]; rfl)
    obtain ⟨k3, k3f⟩ := k3
    go_wp2_with fail
    clear k3 k3f
    generalize hwb : World.setCell _ _ _ = wf
    have H9 := HS.eqW hwb (H.rowSet 0 rfl (i * 5 + 3) (.slice (some ⟨g9, 0, none⟩) (pg.length - 1) c9))
    clear hwb H
    obtain ⟨q', hq'⟩ : ∃ q' : Pv, q' = ⟨⟨pi, pt, pd, pg.eraseIdx k, td⟩, .slice (some ⟨g9, 0, none⟩) (pg.length - 1) c9, .slice tb td.length tc⟩ := ⟨_, rfl⟩
    have hfl := erase_flat hkl
    have hpv : pvC q' = (pvC rs[i]!).set 3 (.slice (some ⟨g9, 0, none⟩) (pg.length - 1) c9) := by rw [hq', ← HPV.out]; rfl
    have H := HS.shutAt (L := []) (g := g) (d := d) (rs := rs) (i := i) (cells := (rs.flatMap pvC).set (i * 5 + 3) (.slice (some ⟨g9, 0, none⟩) (pg.length - 1) c9)) q' (by
      rw [hq']; unfold pagesR toldR; dsimp only; rw [hfl.1, hfl.2]; exact H9) hir (flat_set pvC_len rs i 3 _ _ hir (by decide) hpv).symm
    clear H9 hfl hpv
    obtain ⟨os, hos⟩ : ∃ os, os = ps.set i ⟨pi, pt, pd, pg.eraseIdx k, td⟩ := ⟨_, rfl⟩
    have HTS := Lib.hid (show (rs.set i q').map (·.p) = os by rw [List.map_set, HRS.out, hq', hos])
    have HE2 := Lib.hid (show R = (0, os, leftP os xo.f) by rw [HE.out, HXO.out, hos])
    have HSO := Lib.hid (show SmallP os by
      rw [hos]
      exact setSmallPg HG.out hil HPE.out (by have := List.length_eraseIdx_of_lt hkl; omega))
    clear hos HE HXO
    skip
    refine (oleft_any xo.f (v := .slice (some ⟨g, 0, none⟩) rs.length d) HSO.out _ (by have := H.ownPs 0 rfl; rw [HTS.out] at this; exact this)).mono ?_
    rintro _ w6 ⟨rfl, hb6⟩
    replace H := H.below hb6
    clear hb6 hq'
    dsimp only
    skip
    try clear C
    try simp only [World.size_alloc, List.nil_append, List.cons_append, List.append_assoc] at H
    have C := H.cells
    try simp only [cellsOf, cellsM, apartOf, apartM, and_true] at C
    go_wp2_with fail
    refine bodyPost_ret (by simp [results, Tryz.results79, go_sem, C]; try rfl) rfl ?_
    rw [HE2.out]
    exact ⟨.slice (some ⟨g, 0, none⟩) rs.length d, rs.set i q', rfl, HTS.out, H⟩
/-- What Tell answers. -/
def tellT (td : List Int) (n : Int) : List Int := if td.length < 200 then td ++ [n] else td
def tellP (ps : List Pr) (id n : Int) : Int × List Pr × Int :=
  match findP ps id n with
  | (0, i, k) => (0, ps.set i { ps[i]! with pages := (ps[i]!).pages.eraseIdx k, told := tellT (ps[i]!).told n }, leftP (ps.set i { ps[i]! with pages := (ps[i]!).pages.eraseIdx k }) ((ps[i]!).pages[k]!).f)
  | (e, _, _) => (e, [], -1)
theorem tellP_err {ps : List Pr} {id n e : Int} (h : findP ps id n = (e, 0, 0)) (he : e = 41 ∨ e = 42) : tellP ps id n = (e, [], -1) := by
  unfold tellP; rw [h]; rcases he with rfl | rfl <;> rfl
theorem tellP_of {ps : List Pr} {id n : Int} {i k : Nat} (h : findP ps id n = (0, i, k)) : tellP ps id n = (0, ps.set i { ps[i]! with pages := (ps[i]!).pages.eraseIdx k, told := tellT (ps[i]!).told n }, leftP (ps.set i { ps[i]! with pages := (ps[i]!).pages.eraseIdx k }) ((ps[i]!).pages[k]!).f) := by
  unfold tellP; rw [h]; rfl
theorem live_set {ps : List Pr} {id : Int} {i : Nat} (h : ps.findIdx? (live id) = some i) {q : Pr} (h1 : q.id = (ps[i]!).id) (h2 : q.dead = (ps[i]!).dead) : (ps.set i q).findIdx? (live id) = some i := by
  obtain ⟨a, b, c⟩ := List.findIdx?_eq_some_iff_getElem.1 h
  refine findIdx_first (by rw [List.length_set]; exact a) ?_ fun m hm => ?_
  · rw [set_bang _ a]
    unfold live at b ⊢
    rw [h1, h2, getElem!_pos ps i a]; exact b
  · rw [set_bang_ne _ (by omega) (by omega), getElem!_pos ps m (by omega)]
    have := c m hm
    cases hb : live id ps[m] with
    | true => exact absurd hb this
    | false => rfl
set_option maxHeartbeats 4000000 in
theorem otell_any (id n : Int) {F : Int} {v : Value} {ps : List Pr} (hg : GoodP F ps) (w : World) (hl : Ps w w.heap.size v ps) :
    Calls Tryz.prog 70 #[v, .int .i64 id, .int .i64 n] w (GivesP3 (tellP ps id n) w) := by
  have HA := Lib.hid (fun w h => odrop_any id n (v := v) hg w h)
  have HPS := Lib.hid hl
  have HG := Lib.hid hg
  clear hl hg
  rcases findP_cases ps id n with ⟨i, k, hf, hi, hk⟩ | ⟨e, hf, he⟩
  rotate_left
  · rw [dropP_err hf he] at HA
    rw [tellP_err hf he]
    clear hf
    have hne : ((e : Int) == 0) = false := by rcases he with rfl | rfl <;> rfl
    clear he
    go_enter Tryz.func70, Tryz.ntmps70
    have H := HS.start NoD w
    go_wp2_with fail
    refine (HA.out _ (H.psUp HPS.out)).mono ?_
    rintro _ w4 ⟨v4, rs, rfl, hrs, K⟩
    replace H := H.join1 K
    clear K
    skip
    try clear C
    try simp only [World.size_alloc, List.nil_append, List.cons_append, List.append_assoc] at H
    have C := H.cells
    try simp only [cellsOf, cellsM, apartOf, apartM, and_true] at C
    dsimp only
    go_wp2_with fail
    refine bodyPost_ret (by simp [results, Tryz.results70, go_sem, C]; try rfl) rfl ?_
    exact givesP3_nil H _ _
  · rw [dropP_of hf] at HA
    obtain ⟨R, hR⟩ : ∃ R, R = tellP ps id n := ⟨_, rfl⟩
    rw [← hR]
    have HE := Lib.hid (hR.trans (tellP_of hf))
    have hkl := (findIdx_some hk).1
    have hil := (findIdx_some hi).1
    obtain ⟨po, hpo⟩ : ∃ p, p = ps[i]! := ⟨_, rfl⟩
    have HI := Lib.hid (live_set hi (q := { po with pages := po.pages.eraseIdx k }) (by rw [hpo]) (by rw [hpo]))
    rw [← hpo] at HA HE hkl
    have HPO := Lib.hid hpo
    have h6 := HG.out.one _ (at_mem hil)
    rw [← hpo] at h6
    obtain ⟨pi, pt, pd, pg, td⟩ := po
    have hs0 : pg.length ≤ 16 := h6.plen
    have ht0 : td.length ≤ 200 := h6.told
    dsimp only at HA HE HI
    replace hkl : k < pg.length := hkl
    clear hf hR hi hk hpo h6
    obtain ⟨os, hos⟩ : ∃ os, os = ps.set i ⟨pi, pt, pd, pg.eraseIdx k, td⟩ := ⟨_, rfl⟩
    have HOS := Lib.hid hos
    have hol : os.length ≤ 8 := by rw [hos, List.length_set]; exact HG.out.len
    have hio : i < os.length := by rw [hos, List.length_set]; exact hil
    have hoi : os[i]! = ⟨pi, pt, pd, pg.eraseIdx k, td⟩ := by rw [hos, set_bang _ hil]
    have hoo : ∀ q, os.set i q = ps.set i q := fun q => by rw [hos, List.set_set]
    rw [← hos] at HA HE HI
    have HOI := Lib.hid hoi
    have HOO := Lib.hid hoo
    clear hos hoi hoo
    obtain ⟨fl, hfl⟩ : ∃ f, f = leftP os (pg[k]!).f := ⟨_, rfl⟩
    rw [← hfl] at HA HE
    clear hfl
    have HPR := Lib.hid (fun v w h => program_any id (v := v) (ps := os) (by omega) w h)
    rw [show progR os id = .tuple #[.int .i64 i, .int .i64 0] by unfold progR; rw [HI.out]] at HPR
    clear HI
    go_enter Tryz.func70, Tryz.ntmps70
    have H := HS.start NoD w
    go_wp2_with fail
    refine (HA.out _ (H.psUp HPS.out)).mono ?_
    rintro _ w4 ⟨v4, rs, rfl, hrs, K⟩
    replace H := H.join1 K
    clear K HA
    simp only [List.nil_append] at H
    have HRS := Lib.hid (show rs.map (·.p) = os from hrs)
    clear hrs
    skip
    try clear C
    try simp only [World.size_alloc, List.nil_append, List.cons_append, List.append_assoc] at H
    have C := H.cells
    try simp only [cellsOf, cellsM, apartOf, apartM, and_true] at C
    dsimp only
    go_wp2_with fail
    refine (HPR.out _ _ (by have := H.ownPs 0 rfl; rw [HRS.out] at this; exact this)).mono ?_
    rintro _ w1 ⟨rfl, hb⟩
    replace H := H.below hb
    clear hb
    try clear C
    try simp only [World.size_alloc, List.nil_append, List.cons_append, List.append_assoc] at H
    try clear w4
    have C := H.cells
    try simp only [cellsOf, cellsM, apartOf, apartM, and_true] at C
    dsimp only
    clear HPR
    have hir : i < rs.length := by have := congrArg List.length HRS.out; simp at this; omega
    have hop := HS.openAt (L := []) H hir
    clear H
    obtain ⟨g, d, pb, pc, tb, tc, rfl, hcap, hpa, hta, H⟩ := hop
    simp only [List.nil_append, List.cons_append] at H
    obtain ⟨pv, hpv⟩ : ∃ q, q = rs[i]! := ⟨_, rfl⟩
    rw [← hpv] at H hpa hta
    have hpe : os[i]! = pv.p := by rw [← HRS.out, map_at hir, hpv]
    have HPV := Lib.hid hpv
    obtain ⟨p4, pa, ta⟩ := pv
    have f0 : p4 = ⟨pi, pt, pd, pg.eraseIdx k, td⟩ := hpe.symm.trans HOI.out
    subst f0
    have f1 : pa = .slice pb (pg.eraseIdx k).length pc := hpa
    have f2 : ta = .slice tb td.length tc := hta
    clear hpa hta hpv hpe
    subst f1 f2
    dsimp only at H ⊢
    have hrl : rs.length ≤ 8 := by have := congrArg List.length HRS.out; simp at this; omega
    have k4 := H.outerCell 0 rfl rfl hir (m := 4) (u := .slice tb td.length tc) (by decide) (by rw [← HPV.out]; rfl)
    obtain ⟨k4, k4f⟩ := k4
    by_cases ht : td.length < 200
    · have ht2 : (td.length : Int) < 200 := by omega
      have HTT := Lib.hid (show tellT td n = td ++ [n] from if_pos ht)
      go_upto_region 6 with fail
      go_wp2_with (at_builtin; refine wpList_append_H rfl (.tmp 44) (.tmp 46) 22 rfl elemN H.alloc 2 rfl rfl 4 rfl rfl rfl rfl (by decide) (by unfold maxLen; omega) (by omega) (fun g9 c9 wz HZ => ?_); clear H k4 k4f
                   simp only [List.nil_append, List.cons_append, List.append_assoc, List.set_cons_succ, List.set_cons_zero] at HZ
                   have k4 := HZ.outerCell 0 rfl rfl hir (m := 4) (u := .slice tb td.length tc) (by decide) (by rw [← HPV.out]; rfl)
                   obtain ⟨k4, k4f⟩ := k4)
      clear k4 k4f
      generalize hwb : World.setCell _ _ _ = wf
      have H9 := HS.eqW hwb (HZ.rowSet 0 rfl (i * 5 + 4) (.slice (some ⟨g9, 0, none⟩) (td.length + 1) c9))
      clear hwb HZ
      simp only [List.set_cons_zero] at H9
      obtain ⟨q', hq'⟩ : ∃ q' : Pv, q' = ⟨⟨pi, pt, pd, pg.eraseIdx k, td ++ [n]⟩, .slice pb (pg.eraseIdx k).length pc, .slice (some ⟨g9, 0, none⟩) (td.length + 1) c9⟩ := ⟨_, rfl⟩
      have hpv : pvC q' = (pvC rs[i]!).set 4 (.slice (some ⟨g9, 0, none⟩) (td.length + 1) c9) := by rw [hq', ← HPV.out]; rfl
      have hfl2 : (td ++ [n]).flatMap iC = td.flatMap iC ++ [.int .i64 n] := by rw [List.flatMap_append]; rfl
      have H := HS.shutAt (L := []) (g := g) (d := d) (rs := rs) (i := i) (cells := (rs.flatMap pvC).set (i * 5 + 4) (.slice (some ⟨g9, 0, none⟩) (td.length + 1) c9)) q' (by
        rw [hq']; unfold pagesR toldR; dsimp only; rw [List.length_append, hfl2]
        exact HS.less H9 (by repeat (first | exact .slnil | refine .cons_cons _ ?_ | refine .cons _ ?_))) hir (flat_set pvC_len rs i 4 _ _ hir (by decide) hpv).symm
      skip
      try clear C
      try simp only [World.size_alloc, List.nil_append, List.cons_append, List.append_assoc] at H
      have C := H.cells
      try simp only [cellsOf, cellsM, apartOf, apartM, and_true] at C
      refine bodyPost_ret (by simp [results, Tryz.results70, go_sem, C]; try rfl) rfl ?_
      rw [HE.out, HTT.out]
      exact ⟨.slice (some ⟨g, 0, none⟩) rs.length d, rs.set i q', rfl, by rw [List.map_set, HRS.out, HOO.out, hq'], H⟩
    · have ht2 : ¬ (td.length : Int) < 200 := by omega
      have HTT := Lib.hid (show tellT td n = td from if_neg ht)
      skip
      go_wp2_with fail
      clear k4 k4f
      obtain ⟨q', hq'⟩ : ∃ q' : Pv, q' = ⟨⟨pi, pt, pd, pg.eraseIdx k, td⟩, .slice pb (pg.eraseIdx k).length pc, .slice tb td.length tc⟩ := ⟨_, rfl⟩
      replace H := HS.shutAt (L := []) (g := g) (d := d) (rs := rs) (i := i) (cells := rs.flatMap pvC) q' (by rw [hq']; exact H) hir (by rw [flat_set_split hir, flat_split hir, hq', HPV.out])
      try clear C
      try simp only [World.size_alloc, List.nil_append, List.cons_append, List.append_assoc] at H
      have C := H.cells
      try simp only [cellsOf, cellsM, apartOf, apartM, and_true] at C
      refine bodyPost_ret (by simp [results, Tryz.results70, go_sem, C]; try rfl) rfl ?_
      rw [HE.out, HTT.out]
      exact ⟨.slice (some ⟨g, 0, none⟩) rs.length d, rs.set i q', rfl, by rw [List.map_set, HRS.out, HOO.out, hq'], H⟩
end Go.Proofs.YtedbpmckgiifpaaGreat
