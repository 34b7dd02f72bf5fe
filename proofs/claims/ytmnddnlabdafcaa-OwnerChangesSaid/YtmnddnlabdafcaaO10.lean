/- Programs (memfaultref29): Own. -/
import Derived.Test.YtmnddnlabdafcaaO9
namespace Go.Proofs.Ytmnddnlabdafcaa
set_option linter.unusedSimpArgs false
set_option linter.unusedVariables false
open Go.RowKit
set_option maxRecDepth 100000
attribute [local go_sem] lt_more ne_more ne_more'
attribute [local irreducible] wpX wpF Calls

theorem flat_setPg2 {pg : List Pg} {k : Nat} (hk : k < pg.length) (f : Int) (s : Bool) : (((pg.flatMap pgC).set (k * 3 + 1) (.int .i64 f)).set (k * 3 + 2) (.bool s)) = (pg.set k ⟨(pg[k]!).n, f, s⟩).flatMap pgC := by
  have e2 := flat_set pgC_len pg k 1 { pg[k]! with f := f } (.int .i64 f) hk (by decide) rfl
  rw [← e2]
  have e3 := flat_set pgC_len (pg.set k { pg[k]! with f := f }) k 2 ⟨(pg[k]!).n, f, s⟩ (.bool s) (by rw [List.length_set]; exact hk) (by decide) (by rw [set_bang _ hk]; rfl)
  rw [← e3, List.set_set]
set_option maxHeartbeats 8000000 in
theorem rown_any (id n f : Int) {F : Int} {v : Value} {ps : List Pr} (hg : GoodP F ps) (w : World) (hl : Ps w w.heap.size v ps) :
    Calls Try.prog 37 #[v, .int .i64 id, .int .i64 n, .int .i64 f] w (GivesP3 (ownP ps id n f) w) := by
  have HA := Lib.hid (fun w h => rfind_any id n (v := v) hg.smallP w h)
  have HU := Lib.hid (fun w h => runused_any f (v := v) hg.smallP w h)
  have HCP := Lib.hid (fun w h => rcopy_any (v := v) hg.smallP w h)
  have HPS := Lib.hid hl
  have HG := Lib.hid hg
  obtain ⟨qs, hqs, ⟨sa, c, rfl, hc, hl⟩, hi⟩ := hl
  have HL := Lib.hid hl
  have HI := Lib.hid hi
  have HQS := Lib.hid hqs
  clear hl hg hqs hc hi
  rcases findP_cases ps id n with ⟨i, k, hf, hi, hk⟩ | ⟨e, hf, he⟩
  rotate_left
  · rw [rfindR_err hf he] at HA
    rw [ownP_err hf he]
    clear hf HU HCP
    have hne : ((e : Int) == 0) = false := by rcases he with rfl | rfl <;> rfl
    clear he
    go_enter Try.func37, Try.ntmps37
    have H := HS.start NoD w
    go_wp2_with fail
    refine (HA.out _ (H.psUp HPS.out)).mono ?_
    rintro _ w1 ⟨rfl, hb⟩
    replace H := H.below hb
    clear hb
    try clear C
    try simp only [World.size_alloc, List.nil_append, List.cons_append, List.append_assoc] at H
    have C := H.cells
    try simp only [cellsOf, cellsM, apartOf, apartM, and_true] at C
    dsimp only
    go_wp2_with fail
    refine bodyPost_ret (by simp [results, Try.results37, go_sem, C]; try rfl) rfl ?_
    exact givesP3_nil H _ _
  · rw [rfindR_ok hf] at HA
    obtain ⟨R, hR⟩ : ∃ R, R = ownP ps id n f := ⟨_, rfl⟩
    rw [← hR]
    have HR := Lib.hid (hR.trans (ownP_of hf f))
    have hkl := (findIdx_some hk).1
    have hil := (findIdx_some hi).1
    clear hf hR hi hk
    by_cases hr : f < 0 ∨ 64 ≤ f
    · have HE := Lib.hid (HR.out.trans (if_pos hr))
      have HRR := Lib.hid hr
      clear HR hr HU HCP
      by_cases r1 : f < 0
      · go_enter Try.func37, Try.ntmps37
        have H := HS.start NoD w
        go_wp2_with fail
        refine (HA.out _ (H.psUp HPS.out)).mono ?_
        rintro _ w1 ⟨rfl, hb⟩
        replace H := H.below hb
        clear hb
        try clear C
        try simp only [World.size_alloc, List.nil_append, List.cons_append, List.append_assoc] at H
        have C := H.cells
        try simp only [cellsOf, cellsM, apartOf, apartM, and_true] at C
        dsimp only
        go_wp2_with fail
        refine bodyPost_ret (by simp [results, Try.results37, go_sem, C]; try rfl) rfl ?_
        rw [HE.out]
        exact givesP3_nil H _ _
      · have r2 : 64 ≤ f := by have := HRR.out; omega
        go_enter Try.func37, Try.ntmps37
        have H := HS.start NoD w
        go_wp2_with fail
        refine (HA.out _ (H.psUp HPS.out)).mono ?_
        rintro _ w1 ⟨rfl, hb⟩
        replace H := H.below hb
        clear hb
        try clear C
        try simp only [World.size_alloc, List.nil_append, List.cons_append, List.append_assoc] at H
        have C := H.cells
        try simp only [cellsOf, cellsM, apartOf, apartM, and_true] at C
        dsimp only
        go_wp2_with fail
        refine bodyPost_ret (by simp [results, Try.results37, go_sem, C]; try rfl) rfl ?_
        rw [HE.out]
        exact givesP3_nil H _ _
    · have HR2 := Lib.hid (HR.out.trans (if_neg hr))
      have hr1 : 0 ≤ f ∧ f < 64 := by omega
      clear HR hr
      by_cases hu : usedB ps f = true
      · have HE := Lib.hid (HR2.out.trans (if_pos hu))
        rw [show leftP ps f = -1 by unfold leftP; rw [if_pos hu]] at HU
        clear HR2 hu HCP
        go_enter Try.func37, Try.ntmps37
        have H := HS.start NoD w
        go_wp2_with fail
        refine (HA.out _ (H.psUp HPS.out)).mono ?_
        rintro _ w1 ⟨rfl, hb⟩
        replace H := H.below hb
        clear hb
        try clear C
        try simp only [World.size_alloc, List.nil_append, List.cons_append, List.append_assoc] at H
        have C := H.cells
        try simp only [cellsOf, cellsM, apartOf, apartM, and_true] at C
        dsimp only
        go_wp2_with fail
        refine (HU.out _ (H.psUp HPS.out)).mono ?_
        rintro _ w2 ⟨rfl, hb⟩
        replace H := H.below hb
        clear hb
        try clear C
        try simp only [World.size_alloc, List.nil_append, List.cons_append, List.append_assoc] at H
        try clear w1
        have C := H.cells
        try simp only [cellsOf, cellsM, apartOf, apartM, and_true] at C
        dsimp only
        go_wp2_with fail
        refine bodyPost_ret (by simp [results, Try.results37, go_sem, C]; try rfl) rfl ?_
        rw [HE.out]
        exact givesP3_nil H _ _
      · have HE := Lib.hid (HR2.out.trans (if_neg hu))
        rw [show leftP ps f = f by unfold leftP; rw [if_neg hu]] at HU
        clear HR2 hu
        have hlt : i < qs.length := by have := hil; rw [← HQS.out] at this; simpa using this
        obtain ⟨b, o, e0, hb, hc⟩ := HL.out.at hlt
        cases e0
        have HM := Lib.hid (map_at hlt)
        have hpv := HI.out _ (mem_at hlt)
        obtain ⟨q, hxj⟩ : ∃ q, q = qs[i]! := ⟨_, rfl⟩
        rw [← hxj] at hc hpv
        have HX := Lib.hid hxj
        obtain ⟨⟨pi, pt, pd, pg, td⟩, pa, ta⟩ := q
        obtain ⟨⟨pb, pc, e1, hpc, hpl⟩, ⟨tb, tc, e2, htc, htl⟩⟩ := hpv
        have f1 : pa = .slice pb pg.length pc := e1
        have f2 : ta = .slice tb td.length tc := e2
        clear e1 e2
        subst f1 f2
        have HPG : Hid (Lies w w.heap.size pb 3 pg.length (fun j => pgC pg[j]!)) := hpl
        have HTD : Hid (Lies w w.heap.size tb 1 td.length (fun j => iC td[j]!)) := htl
        have HPC : Hid (pg.length ≤ pc ∧ (pb = none → pc = 0)) := hpc
        have HTC : Hid (td.length ≤ tc ∧ (tb = none → tc = 0)) := htc
        clear hpc htc
        clear hpl htl
        have HC0 : Hid (w.cell? ⟨b, o + i * 5, none⟩ = some (.int .i64 pi)) := hc 0 _ rfl
        have HC1 : Hid (w.cell? ⟨b, o + i * 5 + 1, none⟩ = some (.bool pt)) := hc 1 _ rfl
        have HC2 : Hid (w.cell? ⟨b, o + i * 5 + 2, none⟩ = some (.bool pd)) := hc 2 _ rfl
        have HC3 : Hid (w.cell? ⟨b, o + i * 5 + 3, none⟩ = some (.slice pb pg.length pc)) := hc 3 _ rfl
        have HC4 : Hid (w.cell? ⟨b, o + i * 5 + 4, none⟩ = some (.slice tb td.length tc)) := hc 4 _ rfl
        have HB := Lib.hid hb
        clear hc hxj hb
        have HP0 := Lib.hid (show ps[i]! = ⟨pi, pt, pd, pg, td⟩ by rw [← HQS.out, HM.out, ← HX.out])
        rw [HP0.out] at HE hkl
        replace hkl : k < pg.length := hkl
        have hs0 : pg.length ≤ 16 := by have := (HG.out.one _ (at_mem hil)).plen; rw [HP0.out] at this; exact this
        have hpl : ps.length = qs.length := by rw [← HQS.out]; simp
        go_enter Try.func37, Try.ntmps37
        have H := HS.start NoD w
        go_wp2_with fail
        refine (HA.out _ (H.psUp HPS.out)).mono ?_
        rintro _ w1 ⟨rfl, hb⟩
        replace H := H.below hb
        clear hb
        try clear C
        try simp only [World.size_alloc, List.nil_append, List.cons_append, List.append_assoc] at H
        have C := H.cells
        try simp only [cellsOf, cellsM, apartOf, apartM, and_true] at C
        dsimp only
        go_wp2_with fail
        refine (HU.out _ (H.psUp HPS.out)).mono ?_
        rintro _ w2 ⟨rfl, hb⟩
        replace H := H.below hb
        clear hb
        try clear C
        try simp only [World.size_alloc, List.nil_append, List.cons_append, List.append_assoc] at H
        try clear w1
        have C := H.cells
        try simp only [cellsOf, cellsM, apartOf, apartM, and_true] at C
        dsimp only
        go_wp2_with fail
        refine (HCP.out _ (H.psUp HPS.out)).mono ?_
        rintro _ w3 ⟨v4, rs, rfl, hrs, K⟩
        replace H := H.join1 K
        clear K HCP
        try clear C
        have hrl : rs.length = ps.length := by rw [← hrs]; simp
        have hir : i < rs.length := by omega
        have hop := HS.openAt (L := []) H hir
        clear H
        obtain ⟨g, d, pb, pc, tb, tc, rfl, hcap, hpa, hta, H⟩ := hop
        simp only [List.nil_append, List.cons_append] at H
        obtain ⟨pv, hpv⟩ : ∃ q, q = rs[i]! := ⟨_, rfl⟩
        rw [← hpv] at H hpa hta
        have hpe : ps[i]! = pv.p := by rw [← hrs, map_at hir, hpv]
        have HPV := Lib.hid hpv
        have HRS := Lib.hid hrs
        have HPE := Lib.hid hpe
        have HRL := Lib.hid hrl
        clear hpv hrs hpe
        obtain ⟨p4, pa, ta⟩ := pv
        have f0 : p4 = ⟨pi, pt, pd, pg, td⟩ := HPE.out.symm.trans HP0.out
        subst f0
        have f1 : pa = .slice pb pg.length pc := hpa
        have f2 : ta = .slice tb td.length tc := hta
        clear hpa hta
        subst f1 f2
        clear hrl
        dsimp only at H HPE ⊢
        clear HA HU
        obtain ⟨h, rfl, hh, hpc⟩ := ownsRow_ptr (H.at 1 rfl) (by omega)
        obtain ⟨xo, hxo⟩ : ∃ x, x = pg[k]! := ⟨_, rfl⟩
        have HXO := Lib.hid hxo
        have k3 := (H.outerCell 0 rfl rfl hir (m := 3) (u := .slice (some ⟨h, 0, none⟩) pg.length pc) (by decide) (by rw [← HPV.out]; rfl)).1
        have p1 := H.pageCell 1 rfl rfl hkl (m := 1) (u := .int .i64 xo.f) (by decide) (by rw [hxo]; rfl)
        have p2 := H.pageCell 1 rfl rfl hkl (m := 2) (u := .bool xo.s) (by decide) (by rw [hxo]; rfl)
        obtain ⟨p1, p1f⟩ := p1
        obtain ⟨p2, p2f⟩ := p2
        clear hxo
        go_upto_region 9 with fail
        go_region
        all_goals
          clear k3 p1 p1f p2 p2f
          generalize hwb : World.setCell _ _ _ = w5
          have H9 := HS.eqW hwb ((H.rowSet 1 rfl (k * 3 + 1) (.int .i64 f)).rowSet 1 rfl (k * 3 + 2) (.bool false))
          clear hwb H
          have hfl := flat_setPg2 hkl f false
          rw [← HXO.out] at hfl
          obtain ⟨q', hq'⟩ : ∃ q' : Pv, q' = ⟨⟨pi, pt, pd, pg.set k ⟨xo.n, f, false⟩, td⟩, .slice (some ⟨h, 0, none⟩) pg.length pc, .slice tb td.length tc⟩ := ⟨_, rfl⟩
          have H := HS.shutAt (L := []) (g := g) (d := d) (rs := rs) (i := i) (cells := rs.flatMap pvC) q' (by rw [hq']; unfold pagesR toldR; dsimp only; rw [List.length_set, ← hfl]; exact H9) hir (by rw [flat_set_split hir, flat_split hir, hq', ← HPV.out]; rfl)
          clear H9 hfl
          obtain ⟨os, hos⟩ : ∃ os, os = ps.set i ⟨pi, pt, pd, pg.set k ⟨xo.n, f, false⟩, td⟩ := ⟨_, rfl⟩
          have HTS := Lib.hid (show (rs.set i q').map (·.p) = os by rw [List.map_set, HRS.out, hq', hos])
          have HE2 := Lib.hid (show R = (0, os, leftP os xo.f) by rw [HE.out, hos, HXO.out])
          have HSO := Lib.hid (show SmallP os by
            rw [hos]
            have h1 := HG.out.smallP
            have h2 := h1.2 _ (at_mem hil)
            rw [HP0.out] at h2
            exact setSmall h1 i (p := ⟨pi, pt, pd, pg.set k ⟨xo.n, f, false⟩, td⟩) (by dsimp only at h2 ⊢; rw [List.length_set]; exact h2))
          clear hos HE hq'
          have hlk : k < pg.length := hkl
          skip
          try clear c0 c1 c2 c3 c4
          have c0 := (H.was HB.out (fun h => h)).trans HC0.out
          have c1 := (H.was HB.out (fun h => h)).trans HC1.out
          have c2 := (H.was HB.out (fun h => h)).trans HC2.out
          have c3 := (H.was HB.out (fun h => h)).trans HC3.out
          have c4 := (H.was HB.out (fun h => h)).trans HC4.out
          obtain ⟨bg, og, rfl, hbg, hcg⟩ := (H.lies HPG.out).at hlk
          obtain ⟨g, hxg⟩ : ∃ q, q = pg[k]! := ⟨_, rfl⟩
          rw [← hxg] at hcg
          have HG := Lib.hid hxg
          obtain ⟨xn, xf, xs⟩ := g
          have d0 : w5.cell? ⟨bg, og + k * 3, none⟩ = some (.int .i64 xn) := hcg 0 _ rfl
          have d1 : w5.cell? ⟨bg, og + k * 3 + 1, none⟩ = some (.int .i64 xf) := hcg 1 _ rfl
          have d2 : w5.cell? ⟨bg, og + k * 3 + 2, none⟩ = some (.bool xs) := hcg 2 _ rfl
          clear hcg hxg
          have HUN := Lib.hid (fun w h => runused_any xf (v := .slice (some ⟨g, 0, none⟩) rs.length d) HSO.out w h)
          have hxf : xo.f = xf := by rw [HXO.out, ← HG.out]
          go_wp2_with fail
          refine (HUN.out _ (by have := H.ownPs 0 rfl; rw [HTS.out] at this; exact this)).mono ?_
          rintro _ w6 ⟨rfl, hb6⟩
          replace H : HS NoD w [Item.many (PsR (.slice (some ⟨g, 0, none⟩) rs.length d) (rs.set i q'))] w6 := by first | exact H.below hb6 | exact H.drew.below hb6
          clear hb6 c0 c1 c2 c3 c4 d0 d1 d2
          dsimp only
          skip
          try clear C
          try simp only [World.size_alloc, List.nil_append, List.cons_append, List.append_assoc] at H
          have C := H.cells
          try simp only [cellsOf, cellsM, apartOf, apartM, and_true] at C
          go_wp2_with fail
          refine bodyPost_ret (by simp [results, Try.results37, go_sem, C]; try rfl) rfl ?_
          rw [HE2.out, hxf]
          exact ⟨.slice (some ⟨g, 0, none⟩) rs.length d, rs.set i q', rfl, HTS.out, H⟩
end Go.Proofs.Ytmnddnlabdafcaa
