/- Package owner: End. -/
import Derived.Test.YtedbpmckgiifpaaGreatSort1
namespace Go.Proofs.YtedbpmckgiifpaaGreat
set_option linter.unusedSimpArgs false
set_option linter.unusedVariables false
open Go.RowKit
set_option maxRecDepth 100000
attribute [local go_sem] lt_more ne_more ne_more'
attribute [local irreducible] wpX wpF Calls

/-- Of the first k pages: the frames that nobody has any more. -/
def goneP (os : List Pr) (pg : List Pg) (k : Nat) : List Int := ((pg.take k).filter fun x => !usedB os x.f).map (·.f)
theorem goneP_succ (os : List Pr) {pg : List Pg} {k : Nat} (h : k < pg.length) : goneP os pg (k + 1) = goneP os pg k ++ (if usedB os (pg[k]!).f = true then [] else [(pg[k]!).f]) := by
  unfold goneP
  rw [take_snoc h, List.filter_append, List.map_append]
  congr 1
  generalize pg[k]! = x
  cases e : usedB os x.f <;> simp [e]
theorem goneP_len (os : List Pr) (pg : List Pg) (k : Nat) : (goneP os pg k).length ≤ k := by
  unfold goneP
  rw [List.length_map]
  exact Nat.le_trans (List.length_filter_le _ _) (by rw [List.length_take]; omega)
set_option maxHeartbeats 8000000 in
theorem oend_any (id : Int) {F : Int} (hF : F ≤ 64) {v : Value} {ps : List Pr} (hg : GoodP F ps) (w : World) (hl : Ps w w.heap.size v ps) :
    Calls Tryz.prog 72 #[v, .int .i64 id] w (GivesE (endP ps id) w) := by
  have HA := Lib.hid (fun w h => program_any id (v := v) hg.smallP.1 w h)
  have HCP := Lib.hid (fun w h => ocopy_any (v := v) hg.smallP w h)
  have HPS := Lib.hid hl
  have HG := Lib.hid hg
  clear hl hg
  cases hi : ps.findIdx? (live id) with
  | none =>
    rw [show progR ps id = .tuple #[.int .i64 0, .int .i64 42] by unfold progR; rw [hi]] at HA
    rw [show endP ps id = ((42 : Int), ([] : List Pr), ([] : List Int)) by unfold endP; rw [hi]]
    clear hi HCP
    go_enter Tryz.func72, Tryz.ntmps72
    have H := HS.start NoD w
    go_wp2_with fail
    refine (HA.out _ (H.psUp HPS.out)).mono ?_
    rintro _ w1 ⟨rfl, hb⟩
    replace H := H.below hb
    clear hb
    try clear C
    try simp only [World.size_alloc, List.nil_append, List.cons_append, List.append_assoc] at H
    have C := H.cells
    try simp only [cellsOf, cellsM, apartOf, apartM, and_true] at C
    dsimp only
    go_wp2_with fail
    refine bodyPost_ret (by simp [results, Tryz.results72, go_sem, C]; try rfl) rfl ?_
    exact ⟨.slice none 0 0, [], none, 0, rfl, rfl, HS.less (H.nilPs.nilRow 3 1) (by simp)⟩
  | some i =>
    rw [show progR ps id = .tuple #[.int .i64 i, .int .i64 0] by unfold progR; rw [hi]] at HA
    have hil := (findIdx_some hi).1
    obtain ⟨R, hR⟩ : ∃ R, R = endP ps id := ⟨_, rfl⟩
    rw [← hR]
    have HE := Lib.hid (hR.trans (endP_of hi))
    have HGP := Lib.hid (goneL_perm HG.out hF hil)
    clear hR hi
    go_enter Tryz.func72, Tryz.ntmps72
    have H := HS.start NoD w
    go_wp2_with fail
    refine (HA.out _ (H.psUp HPS.out)).mono ?_
    rintro _ w1 ⟨rfl, hb⟩
    replace H := H.below hb
    clear hb
    try clear C
    try simp only [World.size_alloc, List.nil_append, List.cons_append, List.append_assoc] at H
    have C := H.cells
    try simp only [cellsOf, cellsM, apartOf, apartM, and_true] at C
    dsimp only
    go_wp2_with fail
    refine (HCP.out _ (H.psUp HPS.out)).mono ?_
    rintro _ w2 ⟨v4, rs, rfl, hrs, K⟩
    replace H := H.join1 K
    clear K HCP
    try clear C
    have hrl : rs.length = ps.length := by rw [← hrs]; simp
    have hir : i < rs.length := by omega
    have hop := HS.openAt (L := []) H hir
    clear H
    obtain ⟨g, d, pb, pc, tb, tc, rfl, hcap, hpa, hta, H⟩ := hop
    simp only [List.nil_append, List.cons_append] at H
    obtain ⟨pv, hpv⟩ : ∃ q, q = rs[i]! := ⟨_, rfl⟩
    rw [← hpv] at H hpa hta
    have hpe : ps[i]! = pv.p := by rw [← hrs, map_at hir, hpv]
    have HPV := Lib.hid hpv
    have HRS := Lib.hid hrs
    have HPE := Lib.hid hpe
    have HRL := Lib.hid hrl
    clear hpv hrs hpe
    obtain ⟨⟨pi, pt, pd, pg, td⟩, pa, ta⟩ := pv
    have f1 : pa = .slice pb pg.length pc := hpa
    have f2 : ta = .slice tb td.length tc := hta
    clear hpa hta
    subst f1 f2
    clear hrl
    dsimp only at H HPE ⊢
    clear HA
    have hs0 : pg.length ≤ 16 := by have := (HG.out.one _ (at_mem hil)).plen; rw [HPE.out] at this; exact this
    have hs1 : pg.length ≤ 1000 := by omega
    have k2 := H.outerCell 0 rfl rfl hir (m := 2) (u := .bool pd) (by decide) (by rw [← HPV.out]; rfl)
    have k3 := H.outerCell 0 rfl rfl hir (m := 3) (u := .slice pb pg.length pc) (by decide) (by rw [← HPV.out]; rfl)
    obtain ⟨k2, k2f⟩ := k2
    obtain ⟨k3, k3f⟩ := k3
    go_upto_region 7 with fail
    clear k2 k2f k3 k3f
    generalize hwb : World.setCell _ _ _ = w5
    have H9 := HS.eqW hwb ((H.rowSet 0 rfl (i * 5 + 2) (.bool true)).rowSet 0 rfl (i * 5 + 3) (.slice none 0 0))
    clear hwb H
    simp only [List.set_cons_zero] at H9
    obtain ⟨q', hq'⟩ : ∃ q' : Pv, q' = ⟨⟨pi, pt, true, [], td⟩, .slice none 0 0, .slice tb td.length tc⟩ := ⟨_, rfl⟩
    have hset : (rs.set i q').flatMap pvC = ((rs.flatMap pvC).set (i * 5 + 2) (.bool true)).set (i * 5 + 3) (.slice none 0 0) := by
      have e1 := flat_set pvC_len rs i 2 ⟨⟨pi, pt, true, pg, td⟩, .slice pb pg.length pc, .slice tb td.length tc⟩ (.bool true) hir (by decide) (by rw [← HPV.out]; rfl)
      rw [← e1]
      have e2 := flat_set pvC_len (rs.set i ⟨⟨pi, pt, true, pg, td⟩, .slice pb pg.length pc, .slice tb td.length tc⟩) i 3 q' (.slice none 0 0) (by rw [List.length_set]; exact hir) (by decide) (by rw [getElem!_pos _ i (by rw [List.length_set]; exact hir), List.getElem_set_self, hq']; rfl)
      rw [← e2, List.set_set]
    replace H9 := H9.nilRow 49 3
    simp only [List.nil_append, List.cons_append] at H9
    have H10 := H9.permu (L' := [.row (.slice pb pg.length pc) 49 3 pg.length (pg.flatMap pgC)] ++ [.row (.slice (some ⟨g, 0, none⟩) rs.length d) 52 5 rs.length (((rs.flatMap pvC).set (i * 5 + 2) (.bool true)).set (i * 5 + 3) (.slice none 0 0)), .row (.slice none 0 0) 49 3 0 [], .row (.slice tb td.length tc) 3 1 td.length (td.flatMap iC), Item.many (restB rs i)]) (by
      refine (List.Perm.swap _ _ _).trans (List.Perm.cons _ (List.Perm.cons _ ?_))
      exact (List.perm_append_comm (l₁ := [_, _]) (l₂ := [_])))
    have H := HS.shutAt (L := [_]) (g := g) (d := d) (rs := rs) (i := i) q' (by rw [hq']; exact H10) hir hset.symm
    clear H9 H10 hset
    simp only [List.nil_append, List.cons_append] at H
    obtain ⟨os, hos⟩ : ∃ os, os = endX ps i := ⟨_, rfl⟩
    have HTS := Lib.hid (show (rs.set i q').map (·.p) = os by rw [List.map_set, HRS.out, hq', hos]; unfold endX; rw [HPE.out])
    have HSO := Lib.hid (show SmallP os by
      rw [hos]; unfold endX; rw [HPE.out]
      exact setSmallPg HG.out hil HPE.out (Nat.zero_le _))
    have HGL := Lib.hid (show goneP os pg pg.length = goneL ps i by unfold goneP goneL; rw [hos, HPE.out, List.take_length])
    rw [← hos] at HE HGP
    obtain ⟨ts, hte⟩ : ∃ ts, ts = rs.set i q' := ⟨_, rfl⟩
    have htl : rs.length = ts.length := by rw [hte, List.length_set]
    rw [← hte] at H HTS
    rw [htl] at H
    have HUN := Lib.hid (fun f v w h => ounused_any f (v := v) HSO.out w h)
    clear hos hq' hte HPV HRS HPE HRL
    rw [htl]
    rw [htl] at hcap hir
    generalize rs.length = rl at *
    clear htl
    replace H := H.nilRow 3 1
    simp only [List.nil_append, List.cons_append] at H
    skip
    try clear C
    try simp only [World.size_alloc, List.nil_append, List.cons_append, List.append_assoc] at H
    have C := H.cells
    try simp only [cellsOf, cellsM, apartOf, apartM, and_true] at C
    go_wp2_with fail
    go_loopw [11, 40] (fun u kk wr => ∃ (k : Nat), kk = .int .i64 k ∧ k ≤ pg.length ∧ HS NoD w [.row (.slice pb pg.length pc) 49 3 pg.length (pg.flatMap pgC), Item.many (PsR (.slice (some ⟨g, 0, none⟩) ts.length d) ts), .row u 3 1 (goneP os pg k).length ((goneP os pg k).flatMap iC)] wr) (fun _ kk _ => pg.length - (intOf kk).toNat)
    case atStart => exact ⟨0, rfl, Nat.zero_le _, H⟩
    case round =>
      clear H C
      obtain ⟨k, rfl, hk, H⟩ := hrel
      skip
      try clear C
      try simp only [World.size_alloc, List.nil_append, List.cons_append, List.append_assoc] at H
      have C := H.cells
      try simp only [cellsOf, cellsM, apartOf, apartM, and_true] at C
      by_cases hlk : k < pg.length
      · obtain ⟨bg, og, e9, hbg, hcg⟩ := (H.rowLies 0 pgC_len rfl rfl).at hlk
        obtain rfl : pb = some ⟨bg, og, none⟩ := e9
        have HSU := Lib.hid (goneP_succ os hlk)
        have hgl := goneP_len os pg k
        obtain ⟨xo, hxo⟩ : ∃ x, x = pg[k]! := ⟨_, rfl⟩
        rw [← hxo] at hcg HSU
        clear hxo
        obtain ⟨xn, xf, xs⟩ := xo
        dsimp only at HSU
        have HUX := Lib.hid (fun v w h => HUN.out xf v w h)
        have d0 : wr.cell? ⟨bg, og + k * 3, none⟩ = some (.int .i64 xn) := hcg 0 _ rfl
        have d1 : wr.cell? ⟨bg, og + k * 3 + 1, none⟩ = some (.int .i64 xf) := hcg 1 _ rfl
        have d2 : wr.cell? ⟨bg, og + k * 3 + 2, none⟩ = some (.bool xs) := hcg 2 _ rfl
        clear hcg
        generalize goneP os pg k = gk at *
        cases hu : usedB os xf with
        | true =>
          rw [hu, if_pos rfl] at HSU
          rw [hu] at HUX
          clear hu
          go_upto_region 11 with fail
          clear d0 d1 d2
          generalize hwb : wr.alloc _ = w3
          replace H := HS.eqW hwb H.alloc
          try simp only [World.size_alloc, List.nil_append, List.cons_append, List.append_assoc] at H
          clear hwb
          generalize wr.heap.size = bY at H ⊢
          try clear C
          try clear wr
          have C := H.cells
          try simp only [cellsOf, cellsM, apartOf, apartM, and_true] at C
          go_wp2_with fail
          refine (HUX.out _ _ (by have := H.ownPs 1 rfl; rw [HTS.out] at this; exact this)).mono ?_
          rintro _ w4 ⟨rfl, hb⟩
          replace H := H.below hb
          clear hb
          try clear C
          try simp only [World.size_alloc, List.nil_append, List.cons_append, List.append_assoc] at H
          try clear w3
          have C := H.cells
          try simp only [cellsOf, cellsM, apartOf, apartM, and_true] at C
          dsimp only
          go_wp2_with fail
          go_roundw
          case rel => exact ⟨k + 1, by go_num, by omega, by rw [HSU.out, List.append_nil]; exact H.less (by repeat (first | exact .slnil | refine .cons_cons _ ?_ | refine .cons _ ?_))⟩
          case measure => simp [intOf]; omega
        | false =>
          skip
          rw [hu, if_neg (by decide)] at HSU
          rw [hu] at HUX
          clear hu
          go_upto_region 11 with fail
          clear d0 d1 d2
          generalize hwb : wr.alloc _ = w5
          replace H := HS.eqW hwb H.alloc
          try simp only [World.size_alloc, List.nil_append, List.cons_append, List.append_assoc] at H
          clear hwb
          generalize wr.heap.size = bY at H ⊢
          try clear C
          try clear wr
          have C := H.cells
          try simp only [cellsOf, cellsM, apartOf, apartM, and_true] at C
          go_wp2_with fail
          refine (HUX.out _ _ (by have := H.ownPs 1 rfl; rw [HTS.out] at this; exact this)).mono ?_
          rintro _ w6 ⟨rfl, hb⟩
          replace H := H.below hb
          clear hb
          try clear C
          try simp only [World.size_alloc, List.nil_append, List.cons_append, List.append_assoc] at H
          try clear w5
          have C := H.cells
          try simp only [cellsOf, cellsM, apartOf, apartM, and_true] at C
          dsimp only
          go_upto_region 12 with fail
          go_wp2_with (at_builtin; refine wpList_append_H rfl (.tmp 48) (.tmp 51) 22 rfl elemN H.alloc 2 rfl rfl 4 rfl rfl rfl rfl (by decide) (by unfold maxLen; omega) (by omega) (fun g9 c9 wz HZ => ?_); clear H C)
          go_roundw
          case rel =>
            refine ⟨k + 1, by go_num, by omega, ?_⟩
            rw [HSU.out, List.length_append, List.flatMap_append]
            exact HZ.less (by repeat (first | exact .slnil | refine .cons_cons _ ?_ | refine .cons _ ?_))
          case measure => simp [intOf]; omega
      · have hke : k = pg.length := by omega
        subst hke
        have hgl := goneP_len os pg pg.length
        rw [HGL.out] at H hgl
        obtain ⟨G, hG⟩ : ∃ G, G = goneK ps os 64 := ⟨_, rfl⟩
        rw [← hG] at HE HGP
        have hGA : G.Pairwise (· < ·) := by rw [hG]; exact goneK_asc _ _ _
        obtain ⟨L0, hL0⟩ : ∃ L, L = goneL ps i := ⟨_, rfl⟩
        rw [← hL0] at H hgl HGP
        have hsort : sortI L0 = G := sorted_same ((sortI_perm L0).trans HGP.out) (sortI_le L0) hGA
        have hlen : L0.length = G.length := by rw [← hsort, (sortI_perm L0).length_eq]
        have HST := Lib.hid hsort
        have HGA := Lib.hid hGA
        have HLE := Lib.hid hlen
        clear hL0 hG hsort hGA hlen
        obtain ⟨sb, d5, rfl⟩ := ownsRow_slice (H.at 2 rfl)
        try clear C
        try simp only [World.size_alloc, List.nil_append, List.cons_append, List.append_assoc] at H
        have C := H.cells
        try simp only [cellsOf, cellsM, apartOf, apartM, and_true] at C
        go_wp2_with fail
        refine (osort_any (by omega) _ (H.at 2 rfl)).mono ?_
        rintro _ w8 ⟨rfl, hr8, hg8⟩
        replace H := H.sortAt 2 rfl hr8 hg8
        clear hr8 hg8
        simp only [List.set_cons_succ, List.set_cons_zero] at H
        rw [HST.out, HLE.out] at H
        have hGl : G.length ≤ 1000 := by have := HLE.out; omega
        rw [HLE.out]
        clear hgl HST
        generalize L0.length = ll at *
        skip
        try clear C
        try simp only [World.size_alloc, List.nil_append, List.cons_append, List.append_assoc] at H
        have C := H.cells
        try simp only [cellsOf, cellsM, apartOf, apartM, and_true] at C
        dsimp only
        go_wp2_with fail
        refine (ocompact_any d5 hGl HGA.out _ (H.rowLies 2 iC_len rfl rfl)).mono ?_
        rintro _ w7 ⟨rfl, hb⟩
        replace H := H.below hb
        clear hb
        try clear C
        try simp only [World.size_alloc, List.nil_append, List.cons_append, List.append_assoc] at H
        try clear w8
        have C := H.cells
        try simp only [cellsOf, cellsM, apartOf, apartM, and_true] at C
        dsimp only
        go_wp2_with fail
        refine bodyPost_ret (by simp [results, Tryz.results72, go_sem, C]; try rfl) rfl ?_
        rw [HE.out]
        exact ⟨_, ts, sb, d5, rfl, HTS.out, H.less (by repeat (first | exact .slnil | refine .cons_cons _ ?_ | refine .cons _ ?_))⟩
end Go.Proofs.YtedbpmckgiifpaaGreat
