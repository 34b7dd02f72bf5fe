/- Package owner: Fork. -/
import Derived.Test.YtmnddnlabdafcaaOP6
import Derived.Test.YtmnddnlabdafcaaJ6
namespace Go.Proofs.Ytmnddnlabdafcaa
set_option linter.unusedSimpArgs false
set_option linter.unusedVariables false
open Go.RowKit
set_option maxRecDepth 100000
attribute [local go_sem] lt_more ne_more ne_more'
attribute [local irreducible] wpX wpF Calls

def shr (x : Pg) : Pg := { x with s := true }
theorem HS.shutB {D : Nat → Prop} {W w : World} {L : List Item} {rs : List Pv} {i : Nat} (q : Pv) (h : HS D W (L ++ [pagesR q, toldR q, Item.many (restB rs i)]) w) (hi : i < rs.length) : HS D W (L ++ [Item.many ((rs.set i q).flatMap innerR)]) w := by
  have h1 : HS D W ((L ++ [pagesR q, toldR q]) ++ [Item.many (restB rs i)]) w := by simpa using h
  have h2 := h1.ofMany
  have h3 : HS D W (L ++ (pagesR q :: toldR q :: restB rs i)) w := by simpa using h2
  exact (h3.permu ((inner_set_permB hi q).symm.append_left _)).toMany inner_low
theorem pos_pr {qs : List Pv} {o : Int} (hs : qs.Pairwise (·.p.id < ·.p.id)) {i : Nat} (h0 : i ≤ qs.length) (h1 : ∀ k, k < i → (qs[k]!).p.id < o) (h2 : ∀ k, i ≤ k → k < qs.length → o ≤ (qs[k]!).p.id) : decide (i < qs.length ∧ (qs[i]!).p.id = o) = (qs.map (·.p)).any (fun p => decide (p.id = o)) := by
  rw [Bool.eq_iff_iff, decide_eq_true_eq, List.any_eq_true]
  constructor
  · rintro ⟨a, b⟩
    exact ⟨_, List.mem_map.2 ⟨_, mem_at a, rfl⟩, decide_eq_true b⟩
  · rintro ⟨x, hx, h⟩
    obtain ⟨q, hq, rfl⟩ := List.mem_map.1 hx
    obtain ⟨m, hm, rfl⟩ := List.getElem_of_mem hq
    have h := of_decide_eq_true h
    rw [← getElem!_pos qs m hm] at h
    have hmi : i ≤ m := by
      refine Nat.le_of_not_lt fun hlt => ?_
      have := h1 m hlt; omega
    have hlt : i < qs.length := by omega
    refine ⟨hlt, ?_⟩
    rcases Nat.lt_or_eq_of_le hmi with h4 | rfl
    · have h5 := List.pairwise_iff_getElem.1 hs i m hlt hm h4
      rw [← getElem!_pos qs m hm, ← getElem!_pos qs i hlt] at h5
      have := h2 i (Nat.le_refl _) hlt
      omega
    · exact h
set_option maxHeartbeats 8000000 in
theorem ofork_any (id ot : Int) {F : Int} {v : Value} {ps : List Pr} (hg : GoodP F ps) (w : World) (hl : Ps w w.heap.size v ps) :
    Calls Try.prog 18 #[v, .int .i64 id, .int .i64 ot] w (GivesP (fun v => .tuple #[v, .int .i64 (forkP ps id ot).1]) (forkP ps id ot).2 w) := by
  have HA := Lib.hid (fun w h => program_any id (v := v) hg.smallP.1 w h)
  have HCP := Lib.hid (fun w h => ocopy_any (v := v) hg.smallP w h)
  have HW1 := Lib.hid (fun w => within_any ot 1 999 w)
  have HPS := Lib.hid hl
  obtain ⟨qs, hqs, ⟨sa, c, rfl, hc, hl⟩, hi⟩ := hl
  have hx0 : qs.length ≤ 8 := by have := hg.len; rw [← hqs] at this; simpa using this
  have HQA := Lib.hid (show qs.Pairwise (·.p.id < ·.p.id) by have := hg.asc; rw [← hqs, List.pairwise_map] at this; exact this)
  have HGD := Lib.hid (fun j => goodAt (j := j) hg hqs)
  have HL := Lib.hid hl
  have HQS := Lib.hid hqs
  obtain ⟨R, hR⟩ : ∃ R, R = forkP ps id ot := ⟨_, rfl⟩
  rw [← hR]
  have HR := Lib.hid hR
  clear hl hi hqs hc hR hg
  cases hi : ps.findIdx? (live id) with
  | none =>
    rw [show progR ps id = .tuple #[.int .i64 0, .int .i64 42] by unfold progR; rw [hi]] at HA
    have HE := Lib.hid (HR.out.trans (show _ = ((42 : Int), ([] : List Pr)) by unfold forkP; rw [hi]))
    clear hi HR HCP HW1 HGD
    go_enter Try.func18, Try.ntmps18
    have H := HS.start NoD w
    go_wp2_with fail
    refine (HA.out _ (H.psUp HPS.out)).mono ?_
    rintro _ w1 ⟨rfl, hb⟩
    replace H := H.below hb
    clear hb
    try clear C
    try simp only [World.size_alloc, List.nil_append, List.cons_append, List.append_assoc] at H
    have C := H.cells
    try simp only [cellsOf, cellsM, apartOf, apartM, and_true] at C
    dsimp only
    go_wp2_with fail
    refine bodyPost_ret (by simp [results, Try.results18, go_sem, C]; try rfl) rfl ?_
    rw [HE.out]
    exact givesP_nil H _
  | some i =>
    rw [show progR ps id = .tuple #[.int .i64 i, .int .i64 0] by unfold progR; rw [hi]] at HA
    have hil := (findIdx_some hi).1
    have hlt : i < qs.length := by have := hil; rw [← HQS.out] at this; simpa using this
    have hsm := HGD.out i hlt
    have hpq := map_at hlt
    rw [HQS.out] at hpq
    obtain ⟨q0, hq0⟩ : ∃ q, q = (qs[i]!).p := ⟨_, rfl⟩
    rw [← hq0] at hsm hpq
    obtain ⟨pi, pt, pd, pg, td⟩ := q0
    have hs0 : pg.length ≤ 16 := hsm.plen
    clear hsm HGD hq0
    have HP0 := Lib.hid hpq
    have HF := Lib.hid (show R = (if ot < 1 ∨ 999 < ot then (2, []) else if ps.any (fun p => decide (p.id = ot)) = true then (8, []) else if 8 ≤ ps.length then (16, []) else (0, insPr (ps.set i ⟨pi, pt, pd, pg.map shr, td⟩) ⟨ot, pt, false, pg.map shr, []⟩)) by rw [HR.out]; unfold forkP; rw [hi]; dsimp only; rw [hpq]; rfl)
    clear hi HR hpq
    have HBS := Lib.hid (fun w h => bsearchPr ot (sa := sa) c (show qs.length ≤ 100000 by omega) HQA.out w h)
    have hpl : ps.length = qs.length := by rw [← HQS.out]; simp
    go_enter Try.func18, Try.ntmps18
    have H := HS.start NoD w
    go_wp2_with fail
    refine (HA.out _ (H.psUp HPS.out)).mono ?_
    rintro _ w1 ⟨rfl, hb⟩
    replace H := H.below hb
    clear hb
    try clear C
    try simp only [World.size_alloc, List.nil_append, List.cons_append, List.append_assoc] at H
    have C := H.cells
    try simp only [cellsOf, cellsM, apartOf, apartM, and_true] at C
    dsimp only
    go_wp2_with fail
    refine (HBS.out _ (H.liesUp HL.out)).mono ?_
    rintro _ w2 ⟨k, hk0, hk1, hk2, rfl, hb⟩
    replace H := H.below hb
    have HPB := Lib.hid (pos_pr HQA.out hk0 hk1 hk2)
    rw [HPB.out, HQS.out]
    have HK1 := Lib.hid hk1
    have HK2 := Lib.hid hk2
    clear hb hk1 hk2 HBS HA
    dsimp only
    by_cases hr : ot < 1 ∨ 999 < ot
    · have HE := Lib.hid (HF.out.trans (if_pos hr))
      rw [show (decide (1 ≤ ot) && decide (ot ≤ 999)) = false by rw [Bool.and_eq_false_iff, decide_eq_false_iff_not, decide_eq_false_iff_not]; omega] at HW1
      generalize ps.any (fun p => decide (p.id = ot)) = bo
      clear HF hr HCP
      skip
      go_wp2_with fail
      refine (HW1.out _).mono ?_
      rintro _ w2 ⟨rfl, hb⟩
      replace H := H.below hb
      clear hb
      try clear C
      try simp only [World.size_alloc, List.nil_append, List.cons_append, List.append_assoc] at H
      try clear w2
      have C := H.cells
      try simp only [cellsOf, cellsM, apartOf, apartM, and_true] at C
      dsimp only
      go_wp2_with fail
      refine bodyPost_ret (by simp [results, Try.results18, go_sem, C]; try rfl) rfl ?_
      rw [HE.out]
      exact givesP_nil H _
    · have HF2 := Lib.hid (HF.out.trans (if_neg hr))
      rw [show (decide (1 ≤ ot) && decide (ot ≤ 999)) = true by rw [Bool.and_eq_true, decide_eq_true_iff, decide_eq_true_iff]; omega] at HW1
      clear HF hr
      cases hany : ps.any (fun p => decide (p.id = ot)) with
      | true =>
        have HE := Lib.hid (HF2.out.trans (if_pos hany))
        clear HF2 hany HCP
        skip
        go_wp2_with fail
        refine (HW1.out _).mono ?_
        rintro _ w3 ⟨rfl, hb⟩
        replace H := H.below hb
        clear hb
        try clear C
        try simp only [World.size_alloc, List.nil_append, List.cons_append, List.append_assoc] at H
        try clear w2
        have C := H.cells
        try simp only [cellsOf, cellsM, apartOf, apartM, and_true] at C
        dsimp only
        go_wp2_with fail
        refine bodyPost_ret (by simp [results, Try.results18, go_sem, C]; try rfl) rfl ?_
        rw [HE.out]
        exact givesP_nil H _
      | false =>
        have HF3 := Lib.hid (HF2.out.trans (if_neg (by rw [hany]; decide)))
        rw [hpl] at HF3
        have HAN := Lib.hid hany
        clear HF2 hany
        by_cases hfu : 8 ≤ qs.length
        · have HE := Lib.hid (HF3.out.trans (if_pos hfu))
          have hfu2 : (8 : Int) ≤ qs.length := by omega
          clear HF3 HCP hpl
          skip
          go_wp2_with fail
          refine (HW1.out _).mono ?_
          rintro _ w4 ⟨rfl, hb⟩
          replace H := H.below hb
          clear hb
          try clear C
          try simp only [World.size_alloc, List.nil_append, List.cons_append, List.append_assoc] at H
          try clear w2
          have C := H.cells
          try simp only [cellsOf, cellsM, apartOf, apartM, and_true] at C
          dsimp only
          go_wp2_with fail
          refine bodyPost_ret (by simp [results, Try.results18, go_sem, C]; try rfl) rfl ?_
          rw [HE.out]
          exact givesP_nil H _
        · have HE := Lib.hid (HF3.out.trans (if_neg hfu))
          have hfu2 : ¬ (8 : Int) ≤ qs.length := by omega
          have hpl2 : ps.length < 8 := by omega
          have HPL := Lib.hid hpl
          have hk8 : k ≤ ps.length := by omega
          clear HF3 hpl
          skip
          go_wp2_with fail
          refine (HW1.out _).mono ?_
          rintro _ w5 ⟨rfl, hb⟩
          replace H := H.below hb
          clear hb
          try clear C
          try simp only [World.size_alloc, List.nil_append, List.cons_append, List.append_assoc] at H
          try clear w2
          have C := H.cells
          try simp only [cellsOf, cellsM, apartOf, apartM, and_true] at C
          dsimp only
          go_wp2_with fail
          clear hfu hfu2 HL HW1
          refine (HCP.out _ (H.psUp HPS.out)).mono ?_
          rintro _ w6 ⟨v4, rs, rfl, hrs, K⟩
          replace H := H.join1 K
          clear K HCP
          try clear C
          have hrl : rs.length = ps.length := by rw [← hrs]; simp
          have hir : i < rs.length := by omega
          have hop := HS.openAt (L := []) H hir
          clear H
          obtain ⟨g, d, pb, pc, tb, tc, rfl, hcap, hpa, hta, H⟩ := hop
          simp only [List.nil_append, List.cons_append] at H
          obtain ⟨pv, hpv⟩ : ∃ q, q = rs[i]! := ⟨_, rfl⟩
          rw [← hpv] at H hpa hta
          have hpe : ps[i]! = pv.p := by rw [← hrs, map_at hir, hpv]
          have HPV := Lib.hid hpv
          have HRS := Lib.hid hrs
          have HPE := Lib.hid hpe
          have HRL := Lib.hid hrl
          clear hpv hrs hpe
          obtain ⟨p4, pa, ta⟩ := pv
          have f0 : p4 = ⟨pi, pt, pd, pg, td⟩ := HPE.out.symm.trans HP0.out
          subst f0
          have f1 : pa = .slice pb pg.length pc := hpa
          have f2 : ta = .slice tb td.length tc := hta
          clear hpa hta
          subst f1 f2
          clear hrl
          dsimp only at H HPE ⊢
          have hs1 : pg.length ≤ 1000 := by omega
          have k3 := (H.outerCell 0 rfl rfl hir (m := 3) (u := .slice pb pg.length pc) (by decide) (by rw [← HPV.out]; rfl)).1
          go_wp2_with fail
          clear k3
          go_loopw [48] (fun kk wr => ∃ (m : Nat), kk = .int .i64 m ∧ m ≤ pg.length ∧ HS NoD w [.row (.slice (some ⟨g, 0, none⟩) rs.length d) 31 5 rs.length (rs.flatMap pvC), .row (.slice pb pg.length pc) 37 3 pg.length ((mix shr m pg).flatMap pgC), .row (.slice tb td.length tc) 3 1 td.length (td.flatMap iC), Item.many (restB rs i)] wr) (fun kk _ => pg.length - (intOf kk).toNat)
          case atStart => exact ⟨0, rfl, Nat.zero_le _, by rw [mix_zero]; exact H⟩
          case round =>
            clear H
            obtain ⟨m, rfl, hm, H⟩ := hrel
            skip
            have k3 := (H.outerCell 0 rfl rfl hir (m := 3) (u := .slice pb pg.length pc) (by decide) (by rw [← HPV.out]; rfl)).1
            by_cases hlm : m < pg.length
            · obtain ⟨gp, rfl, hgp, hcp⟩ := ownsRow_ptr (H.at 1 rfl) (by omega)
              obtain ⟨p2, p2f⟩ := H.pageCell 1 rfl (mix_len shr m pg).symm (i := m) (m := 2) (u := .bool (pg[m]!).s) (by rw [mix_len]; exact hlm) (by decide) (by rw [mix_at hlm]; rfl)
              have HFL := Lib.hid (show (mix shr (m + 1) pg).flatMap pgC = ((mix shr m pg).flatMap pgC).set (m * 3 + 2) (.bool true) by
                rw [mix_succ hlm]
                exact flat_set pgC_len (mix shr m pg) m 2 _ (.bool true) (by rw [mix_len]; exact hlm) (by decide) (by rw [mix_at hlm]; rfl))
              generalize (pg[m]!).s = sm at p2
              go_wp2_with fail
              go_roundw
              case rel =>
                refine ⟨m + 1, by go_num, by omega, ?_⟩
                have H9 := H.rowSet 1 rfl (m * 3 + 2) (.bool true)
                rw [HFL.out]
                exact H9
              case measure => simp [intOf]; omega
            · have hme : m = pg.length := by omega
              subst hme
              rw [mix_all (Nat.le_refl _)] at H
              obtain ⟨mg, hmg⟩ : ∃ mg, mg = pg.map shr := ⟨_, rfl⟩
              have hml : pg.length = mg.length := by rw [hmg, List.length_map]
              rw [← hmg] at H HE
              have HML := Lib.hid hml
              clear hmg hml
              have k1 := (H.outerCell 0 rfl rfl hir (m := 1) (u := .bool pt) (by decide) (by rw [← HPV.out]; rfl)).1
              go_upto_region 17 with fail
              have HC17 : Hid (∀ w, Lies w w.heap.size pb 3 pg.length (fun j => pgC mg[j]!) → Calls Try.prog 58 #[.slice pb pg.length pc] w (GivesS (fun v => v) 37 3 pg.length (mg.flatMap pgC) w)) := fun w h => by
                have := clonePg pc (by rw [← HML.out]; exact hs1) (pgC_one mg) w (by rw [← HML.out]; exact h)
                rw [← HML.out] at this
                exact this
              have hgl : g < wr.heap.size := Item.lt (H.at 0 rfl) (k := g) rfl
              have q1 : (g = wr.heap.size) = False := eq_false (by omega)
              have q2 : (wr.heap.size = g) = False := eq_false (by omega)
              go_cut [14] from 60 to 72 (fun y wx => ∃ (bx : Nat) (s1 : Option Addr) (e1 : Nat), y = .pointer (some ⟨bx, 0, none⟩) ∧ HS NoD w [.row (.slice (some ⟨g, 0, none⟩) rs.length d) 31 5 rs.length (rs.flatMap pvC), .row (.slice pb pg.length pc) 37 3 pg.length (mg.flatMap pgC), .row (.slice tb td.length tc) 3 1 td.length (td.flatMap iC), Item.many (restB rs i), .row (.slice s1 pg.length e1) 37 3 pg.length (mg.flatMap pgC), .blk bx #[.int .i64 ot, .bool pt, .bool false, .slice s1 pg.length e1, .slice none 0 0] 31] wx)
              case first =>
                go_region_law (go_simp; go_at_call 58
                               first
                                | (refine (HC17.out _ (H.drew.rowLies 1 pgC_len rfl HML.out)).mono ?_; have H0 := H.drew)
                                | (refine (HC17.out _ (H.drew.alloc.rowLies 1 pgC_len rfl HML.out)).mono ?_; have H0 := H.drew.alloc (cs := #[.int .i64 0, .bool false, .bool false, .slice none 0 0, .slice none 0 0]) (t := 31); rw [show (World.drew wr).heap.size = (wr).heap.size from rfl] at H0)
                               rintro _ wa ⟨s1, e1, rfl, hr, hb⟩
                               have H1 := H0.getsRow hb hr
                               have C1 := H1.cells
                               simp only [List.nil_append, List.cons_append, List.append_assoc] at H1 C1
                               simp only [cellsOf, cellsM, apartOf, apartM, and_true] at C1
                               have k1' := (H1.outerCell 0 rfl rfl hir (m := 1) (u := .bool pt) (by decide) (by rw [← HPV.out]; rfl)).1
                               have hgl' : g < wa.heap.size := Item.lt (H1.at 0 rfl) (k := g) rfl
                               have q1' : (g = wa.heap.size) = False := eq_false (by omega)
                               have q2' : (wa.heap.size = g) = False := eq_false (by omega)
                               clear hr hb H0)
                all_goals clear k1' k1 k3
                all_goals go_wp2_with fail
                all_goals go_meet
                all_goals refine ⟨_, s1, e1, rfl, ?_⟩
                all_goals first
                  | exact H1.alloc
                  | (show HS NoD w ([.row (.slice (some ⟨g, 0, none⟩) rs.length d) 31 5 rs.length (rs.flatMap pvC), .row (.slice pb pg.length pc) 37 3 pg.length (mg.flatMap pgC), .row (.slice tb td.length tc) 3 1 td.length (td.flatMap iC), Item.many (restB rs i)] ++ [.row (.slice s1 pg.length e1) 37 3 pg.length (mg.flatMap pgC), .blk _ #[.int .i64 ot, .bool pt, .bool false, .slice s1 pg.length e1, .slice none 0 0] 31]) _
                     exact HS.permu (H1.putAll (i := 4) rfl (vs := [.int .i64 ot, .bool pt, .bool false, .slice s1 pg.length e1, .slice none 0 0]) rfl rfl) (List.Perm.append_left [_, _, _, _] (List.Perm.swap _ _ [])))
              case rest =>
                clear H k1 k3 hgl q1 q2 HC17
                obtain ⟨bx, s1, e1, rfl, H⟩ := hcut
                skip
                try clear C
                try simp only [World.size_alloc, List.nil_append, List.cons_append, List.append_assoc] at H
                have C := H.cells
                try simp only [cellsOf, cellsM, apartOf, apartM, and_true] at C
                replace H := H.permu (L' := [.row (.slice (some ⟨g, 0, none⟩) rs.length d) 31 5 rs.length (rs.flatMap pvC), .row (.slice s1 pg.length e1) 37 3 pg.length (mg.flatMap pgC), .blk bx #[.int .i64 ot, .bool pt, .bool false, .slice s1 pg.length e1, .slice none 0 0] 31] ++ [.row (.slice pb pg.length pc) 37 3 pg.length (mg.flatMap pgC), .row (.slice tb td.length tc) 3 1 td.length (td.flatMap iC), Item.many (restB rs i)]) (List.Perm.cons _ (List.perm_append_comm (l₁ := [_, _, _]) (l₂ := [_, _])))
                obtain ⟨q', hq'⟩ : ∃ q' : Pv, q' = ⟨⟨pi, pt, pd, mg, td⟩, .slice pb pg.length pc, .slice tb td.length tc⟩ := ⟨_, rfl⟩
                replace H := HS.shutB q' (by rw [hq']; unfold pagesR toldR; dsimp only; rw [← HML.out]; exact H) hir
                have hpv : pvC q' = pvC rs[i]! := by rw [hq', ← HPV.out]; rfl
                have hsame : (rs.set i q').flatMap pvC = rs.flatMap pvC := by rw [flat_set_split hir, hpv, ← flat_split hir]
                have hts : (rs.set i q').map (·.p) = ps.set i ⟨pi, pt, pd, mg, td⟩ := by rw [List.map_set, HRS.out, hq']
                have htl : rs.length = (rs.set i q').length := by rw [List.length_set]
                have hid : ∀ m, m < qs.length → ((rs.set i q')[m]!).p.id = (qs[m]!).p.id := fun m hm => by
                  have e : (qs[m]!).p = ps[m]! := by rw [← HQS.out, map_at hm]
                  have hmr : m < rs.length := by rw [HRL.out, HPL.out]; exact hm
                  rw [e]
                  by_cases hme : i = m
                  · subst hme; rw [set_bang _ hir, HPE.out, hq']
                  · rw [set_bang_ne _ hmr hme, ← HRS.out, map_at hmr]
                have hrq : rs.length = qs.length := by rw [HRL.out, HPL.out]
                rw [← hsame, htl] at H
                obtain ⟨ts, hte⟩ : ∃ ts, ts = rs.set i q' := ⟨_, rfl⟩
                rw [← hte] at H hts htl hid
                have htq : ts.length = qs.length := by rw [← htl]; exact hrq
                have HTS := Lib.hid hts
                have HTW := Lib.hid (takeWhile_at (xs := ts) (k := k) (p := fun y => decide (y.p.id < ot)) (by omega) (fun m hm => decide_eq_true (by rw [hid m (by omega)]; exact HK1.out m hm)) (fun hm => decide_eq_false (by rw [hid k (by omega)]; have := HK2.out k (Nat.le_refl _) (by omega); omega)))
                have hkt : k ≤ ts.length := by omega
                have ht8 : ts.length < 8 := by omega
                have hcp : ts.length ≤ d := by omega
                have HPL2 := Lib.hid HML.out
                rw [htl]
                generalize rs.length = rl at *
                clear hte hts hsame hpv hq' HPV HRS HRL HK1 HK2 hid htq hrq hir hk0 hk8
                subst htl
                simp only [List.nil_append, List.cons_append] at H
                try clear C
                try simp only [World.size_alloc, List.nil_append, List.cons_append, List.append_assoc] at H
                have C := H.cells
                try simp only [cellsOf, cellsM, apartOf, apartM, and_true] at C
                go_wp2_with fail
                refine (insert_anyPr (cs := ts.flatMap pvC) (X := [.int .i64 ot, .bool pt, .bool false, .slice s1 pg.length e1, .slice none 0 0]) rfl (fun u hu => by simp only [List.mem_cons, List.mem_nil_iff, or_false] at hu; rcases hu with rfl | rfl | rfl | rfl | rfl <;> rfl) hkt (by omega) (fun g' e => ?hne) (pv_one (H.manyOks 3 rfl)) _ (H.alloc.at 0 rfl) (H.alloc.at 4 rfl)).mono ?_
                case hne =>
                  have hgl := (World.ownsRow.lt (H.at 0 rfl) g rfl).2
                  injection e with e
                  injection e with e
                  omega
                rintro _ w9 ⟨g9, c9, rfl, h2, h3, h4⟩
                replace H := H.alloc.grewAt 0 rfl h2 h3 h4
                clear h2 h3 h4
                simp only [List.nil_append, List.cons_append, List.append_assoc, List.set_cons_succ, List.set_cons_zero] at H
                skip
                dsimp only
                obtain ⟨x, hx⟩ : ∃ x : Pv, x = ⟨⟨ot, pt, false, mg, []⟩, .slice s1 pg.length e1, .slice none 0 0⟩ := ⟨_, rfl⟩
                have hzl : (ts.take k ++ x :: ts.drop k).length = ts.length + 1 := by rw [List.length_append, List.length_cons, List.length_take, List.length_drop]; omega
                have hzf : (ts.take k ++ x :: ts.drop k).flatMap pvC = (ts.flatMap pvC).take (k * 5) ++ (Value.int .i64 ot :: Value.bool pt :: Value.bool false :: Value.slice s1 pg.length e1 :: Value.slice none 0 0 :: (ts.flatMap pvC).drop (k * 5)) := by
                  rw [flatTake pvC_len, flatDrop pvC_len, List.flatMap_append, List.flatMap_cons, hx]; rfl
                replace H := H.nilRow 3 1
                simp only [List.nil_append, List.cons_append] at H
                rw [← hzf, ← hzl] at H
                have H9 := HS.less (L' := [.row (.slice (some ⟨g9, 0, none⟩) (ts.take k ++ x :: ts.drop k).length c9) 31 5 (ts.take k ++ x :: ts.drop k).length ((ts.take k ++ x :: ts.drop k).flatMap pvC), .row (.slice s1 pg.length e1) 37 3 pg.length (mg.flatMap pgC), Item.many (ts.flatMap innerR), .row (.slice none 0 0) 3 1 0 []]) H (by repeat (first | exact .slnil | refine .cons_cons _ ?_ | refine .cons _ ?_))
                have H10 := H9.permu (L' := [.row (.slice (some ⟨g9, 0, none⟩) (ts.take k ++ x :: ts.drop k).length c9) 31 5 (ts.take k ++ x :: ts.drop k).length ((ts.take k ++ x :: ts.drop k).flatMap pvC)] ++ [.row (.slice s1 pg.length e1) 37 3 pg.length (mg.flatMap pgC), .row (.slice none 0 0) 3 1 0 [], Item.many (ts.flatMap innerR)]) (List.Perm.cons _ (List.Perm.cons _ (List.Perm.swap _ _ [])))
                have H11 := HS.insertPv (L := [.row (.slice (some ⟨g9, 0, none⟩) (ts.take k ++ x :: ts.drop k).length c9) 31 5 (ts.take k ++ x :: ts.drop k).length ((ts.take k ++ x :: ts.drop k).flatMap pvC)]) (ts := ts) x k (by rw [hx]; unfold pagesR; dsimp only; rw [← HPL2.out]; rw [hx] at H10; exact H10)
                clear H H9 H10
                have H := HS.shutPs (L := []) H11
                clear H11
                try clear C
                try simp only [World.size_alloc, List.nil_append, List.cons_append, List.append_assoc] at H
                have C := H.cells
                try simp only [cellsOf, cellsM, apartOf, apartM, and_true] at C
                go_wp2_with fail
                refine bodyPost_ret (by simp [results, Try.results18, go_sem, C]; try rfl) rfl ?_
                rw [HE.out]
                refine ⟨.slice (some ⟨g9, 0, none⟩) (ts.take k ++ x :: ts.drop k).length c9, ts.take k ++ x :: ts.drop k, by rw [hzl], ?_, H⟩
                have hm := ins_map (k := k) (x := x) HTS.out (by rw [hx]; exact HTW.out)
                rw [hx] at hm
                rw [hx]
                exact hm
end Go.Proofs.Ytmnddnlabdafcaa
