/- Programs (memfaultref29): End. -/
import Derived.Test.YtedbpmckgiifpaaGreatO6
namespace Go.Proofs.YtedbpmckgiifpaaGreat
set_option linter.unusedSimpArgs false
set_option linter.unusedVariables false
open Go.RowKit
set_option maxRecDepth 100000
attribute [local go_sem] lt_more ne_more ne_more'
attribute [local irreducible] wpX wpF Calls

/-- Which of the frames below k are had in the one list and not in the other. -/
def goneK (ps out : List Pr) (k : Nat) : List Int := ((List.range k).map fun (k : Nat) => (k : Int)).filter fun f => usedB ps f && !usedB out f
theorem goneK_succ (ps out : List Pr) (k : Nat) : goneK ps out (k + 1) = goneK ps out k ++ (if (usedB ps k && !usedB out k) = true then [(k : Int)] else []) := by
  unfold goneK
  rw [List.range_succ, List.map_append, List.filter_append]
  congr 1
  by_cases e : (usedB ps k && !usedB out k) = true <;> simp [e]
theorem goneK_len (ps out : List Pr) (k : Nat) : (goneK ps out k).length ≤ k := by
  unfold goneK
  exact Nat.le_trans (List.length_filter_le _ _) (by simp)
theorem setSmall {ps : List Pr} (h : SmallP ps) (i : Nat) {p : Pr} (hp : p.pages.length ≤ 1000 ∧ p.told.length ≤ 1000) : SmallP (ps.set i p) := by
  refine ⟨by rw [List.length_set]; exact h.1, fun x hx => ?_⟩
  rcases List.mem_or_eq_of_mem_set hx with hx | rfl
  · exact h.2 x hx
  · exact hp
theorem iC_flat (l : List Int) : l.flatMap iC = l.map fun x => Value.int .i64 x := by
  induction l with
  | nil => rfl
  | cons x l ih => rw [List.flatMap_cons, List.map_cons, ih]; rfl
/-- What End hands back: programs, and the frames that nobody has any more. -/
def GivesE (R : Int × List Pr × List Int) (w : World) (x : Ending) (w' : World) : Prop :=
  ∃ v qs sa c, x = .returned (.tuple #[v, .slice sa R.2.2.length c, .int .i64 R.1]) ∧ qs.map (·.p) = R.2.1 ∧ HS NoD w [Item.many (PsR v qs), .row (.slice sa R.2.2.length c) 3 1 R.2.2.length (R.2.2.flatMap iC)] w'
set_option maxHeartbeats 8000000 in
theorem rend_any (id : Int) {v : Value} {ps : List Pr} (hx : SmallP ps) (w : World) (hl : Ps w w.heap.size v ps) :
    Calls Tryz.prog 33 #[v, .int .i64 id] w (GivesE (endP ps id) w) := by
  have HA := Lib.hid (fun w h => rat_any id (v := v) hx.1 w h)
  have HCP := Lib.hid (fun w h => rcopy_any (v := v) hx w h)
  have HPS := Lib.hid hl
  have HSP := Lib.hid hx
  obtain ⟨qs, hqs, ⟨sa, c, rfl, hc, hl⟩, hi⟩ := hl
  have hx1 : qs.length ≤ 1000 := by have := hx.1; rw [← hqs] at this; simpa using this
  have HL := Lib.hid hl
  have HI := Lib.hid hi
  have HQS := Lib.hid hqs
  obtain ⟨R, hR⟩ : ∃ R, R = endP ps id := ⟨_, rfl⟩
  rw [← hR]
  have HR := Lib.hid hR
  clear hl hi hx hqs hc hR
  cases hi : ps.findIdx? (live id) with
  | none =>
    rw [hi] at HA
    dsimp only [idx?] at HA
    have HE := Lib.hid (HR.out.trans (show _ = ((42 : Int), ([] : List Pr), ([] : List Int)) by unfold endP; rw [hi]))
    clear hi HR HCP
    go_enter Tryz.func33, Tryz.ntmps33
    have H := HS.start NoD w
    go_wp2_with fail
    refine (HA.out _ (H.psUp HPS.out)).mono ?_
    rintro _ w1 ⟨rfl, hb⟩
    replace H := H.below hb
    clear hb
    try clear C
    try simp only [World.size_alloc, List.nil_append, List.cons_append, List.append_assoc] at H
    have C := H.cells
    try simp only [cellsOf, cellsM, apartOf, apartM, and_true] at C
    dsimp only
    go_wp2_with fail
    refine bodyPost_ret (by simp [results, Tryz.results33, go_sem, C]; try rfl) rfl ?_
    rw [HE.out]
    exact ⟨.slice none 0 0, [], none, 0, rfl, rfl, HS.less (H.nilPs.nilRow 3 1) (by simp)⟩
  | some i =>
    rw [hi] at HA
    dsimp only [idx?] at HA
    have hlt : i < qs.length := by have := (findIdx_some hi).1; rw [← HQS.out] at this; simpa using this
    obtain ⟨b, o, e0, hb, hc⟩ := HL.out.at hlt
    cases e0
    have HM := Lib.hid (map_at hlt)
    have hpv := HI.out _ (mem_at hlt)
    obtain ⟨q, hxj⟩ : ∃ q, q = qs[i]! := ⟨_, rfl⟩
    rw [← hxj] at hc hpv
    have HX := Lib.hid hxj
    obtain ⟨⟨pi, pt, pd, pg, td⟩, pa, ta⟩ := q
    obtain ⟨⟨pb, pc, e1, hpc, hpl⟩, ⟨tb, tc, e2, htc, htl⟩⟩ := hpv
    have f1 : pa = .slice pb pg.length pc := e1
    have f2 : ta = .slice tb td.length tc := e2
    clear e1 e2
    subst f1 f2
    have HPG : Hid (Lies w w.heap.size pb 3 pg.length (fun j => pgC pg[j]!)) := hpl
    have HTD : Hid (Lies w w.heap.size tb 1 td.length (fun j => iC td[j]!)) := htl
    have HPC : Hid (pg.length ≤ pc ∧ (pb = none → pc = 0)) := hpc
    have HTC : Hid (td.length ≤ tc ∧ (tb = none → tc = 0)) := htc
    clear hpc htc
    clear hpl htl
    have HC0 : Hid (w.cell? ⟨b, o + i * 5, none⟩ = some (.int .i64 pi)) := hc 0 _ rfl
    have HC1 : Hid (w.cell? ⟨b, o + i * 5 + 1, none⟩ = some (.bool pt)) := hc 1 _ rfl
    have HC2 : Hid (w.cell? ⟨b, o + i * 5 + 2, none⟩ = some (.bool pd)) := hc 2 _ rfl
    have HC3 : Hid (w.cell? ⟨b, o + i * 5 + 3, none⟩ = some (.slice pb pg.length pc)) := hc 3 _ rfl
    have HC4 : Hid (w.cell? ⟨b, o + i * 5 + 4, none⟩ = some (.slice tb td.length tc)) := hc 4 _ rfl
    have HB := Lib.hid hb
    clear hc hxj hb
    have HPE := Lib.hid (show ps[i]! = ⟨pi, pt, pd, pg, td⟩ by rw [← HQS.out, HM.out, ← HX.out])
    have htd := (HSP.out.2 _ (mem_at (show i < ps.length by rw [← HQS.out]; simpa using hlt))).2
    rw [HPE.out] at htd
    have htd : td.length ≤ 1000 := htd
    have HSO := Lib.hid (setSmall HSP.out i (p := ⟨pi, pt, true, [], td⟩) ⟨Nat.zero_le _, htd⟩)
    have HE := Lib.hid (show R = (0, ps.set i ⟨pi, pt, true, [], td⟩, goneK ps (ps.set i ⟨pi, pt, true, [], td⟩) 64) by rw [HR.out]; unfold endP; rw [hi]; dsimp only; rw [HPE.out]; rfl)
    clear hi HR
    go_enter Tryz.func33, Tryz.ntmps33
    have H := HS.start NoD w
    go_wp2_with fail
    refine (HA.out _ (H.psUp HPS.out)).mono ?_
    rintro _ w1 ⟨rfl, hb⟩
    replace H := H.below hb
    clear hb
    try clear C
    try simp only [World.size_alloc, List.nil_append, List.cons_append, List.append_assoc] at H
    have C := H.cells
    try simp only [cellsOf, cellsM, apartOf, apartM, and_true] at C
    dsimp only
    go_wp2_with fail
    refine (HCP.out _ (H.psUp HPS.out)).mono ?_
    rintro _ w4 ⟨v4, rs, rfl, hrs, K⟩
    replace H := H.join1 K
    clear K HCP HA
    replace H := H.manyCons 0 rfl
    simp only [List.eraseIdx_cons_zero, List.nil_append, List.cons_append, outerR] at H
    have hrl : rs.length = qs.length := by have := congrArg List.length (hrs.trans HQS.out.symm); simpa using this
    have hir : i < rs.length := by omega
    have hrle : rs.length ≤ 1000 := by omega
    have HRS := Lib.hid hrs
    have HRL := Lib.hid hrl
    clear hrs hrl
    obtain ⟨sb, d4, rfl⟩ := ownsRow_slice (H.at 0 rfl)
    obtain ⟨g4, rfl, hg4, hcap4⟩ := ownsRow_ptr (H.at 0 rfl) (by omega)
    clear hg4
    have hrp : (rs[i]!).p = ⟨pi, pt, pd, pg, td⟩ := by rw [← map_at hir, HRS.out]; exact HPE.out
    obtain ⟨k2, k2f⟩ := H.outerCell 0 rfl rfl hir (m := 2) (u := .bool pd) (by decide) (by unfold pvC; rw [hrp]; rfl)
    obtain ⟨k3, k3f⟩ := H.outerCell 0 rfl rfl hir (m := 3) (u := (rs[i]!).pa) (by decide) rfl
    have HRP := Lib.hid hrp
    clear hrp
    generalize hpa : (rs[i]!).pa = pa4 at k3
    have HPA := Lib.hid hpa
    clear hpa
    skip
    dsimp only
    go_upto_region 6 with fail
    clear k2 k2f k3 k3f
    obtain ⟨q', hq'⟩ : ∃ q' : Pv, q' = ⟨⟨pi, pt, true, [], td⟩, .slice none 0 0, (rs[i]!).ta⟩ := ⟨_, rfl⟩
    generalize hwb : World.setCell _ _ _ = w5
    have H9 := HS.eqW hwb ((H.rowSet 0 rfl (i * 5 + 2) (.bool true)).rowSet 0 rfl (i * 5 + 3) (.slice none 0 0))
    have hset : (rs.set i q').flatMap pvC = ((rs.flatMap pvC).set (i * 5 + 2) (.bool true)).set (i * 5 + 3) (.slice none 0 0) := by
      have e1 := flat_set pvC_len rs i 2 ⟨⟨pi, pt, true, pg, td⟩, (rs[i]!).pa, (rs[i]!).ta⟩ (.bool true) hir (by decide) (by unfold pvC; rw [HRP.out]; rfl)
      rw [← e1]
      have e2 := flat_set pvC_len (rs.set i ⟨⟨pi, pt, true, pg, td⟩, (rs[i]!).pa, (rs[i]!).ta⟩) i 3 q' (.slice none 0 0) (by rw [List.length_set]; exact hir) (by decide) (by rw [getElem!_pos _ i (by rw [List.length_set]; exact hir), List.getElem_set_self, hq']; rfl)
      rw [← e2, List.set_set]
    have H10 : HS NoD w ([.row (.slice (some ⟨g4, 0, none⟩) rs.length d4) 52 5 rs.length ((rs.set i q').flatMap pvC)] ++ [Item.many (rs.flatMap innerR)]) w5 := by rw [hset]; exact H9
    replace H10 := H10.nilRow 49 3
    replace H10 := HS.pageSwap (L := [_]) q' (by rw [hq']; exact H10) hir (by rw [hq']) (by rw [hq', HRP.out])
    have hts : (rs.set i q').map (·.p) = ps.set i ⟨pi, pt, true, [], td⟩ := by rw [List.map_set, HRS.out, hq']
    have htl : rs.length = (rs.set i q').length := by rw [List.length_set]
    rw [htl] at H10
    obtain ⟨ts, hte⟩ : ∃ ts, ts = rs.set i q' := ⟨_, rfl⟩
    rw [← hte] at H10 hts htl
    have HTS := Lib.hid hts
    rw [htl] at hrle hcap4 hir
    rw [htl]
    clear H hwb H9 hset hq' hts hte HRS HRL HPA HRP
    replace H := (HS.shutPs (L := []) H10).nilRow 3 1
    clear H10
    simp only [List.nil_append, List.cons_append] at H
    obtain ⟨os, hos⟩ : ∃ os, os = ps.set i ⟨pi, pt, true, [], td⟩ := ⟨_, rfl⟩
    rw [← hos] at HE HTS HSO
    clear hos
    skip
    go_wp2_with fail
    go_loopw [9, 26] (fun u kk wr => ∃ (k : Nat), kk = .int .i64 k ∧ k ≤ 64 ∧ HS NoD w [Item.many (PsR (.slice (some ⟨g4, 0, none⟩) ts.length d4) ts), .row u 3 1 (goneK ps os k).length ((goneK ps os k).flatMap iC)] wr) (fun _ kk _ => 64 - (intOf kk).toNat)
    case atStart => exact ⟨0, rfl, Nat.zero_le _, H⟩
    case round =>
      clear H
      obtain ⟨k, rfl, hk, H⟩ := hrel
      rename_i u _ _
      skip
      have HSU := Lib.hid (goneK_succ ps os k)
      have hgl := goneK_len ps os k
      by_cases hlk : k < 64
      · have HUS := Lib.hid (rusers_any k HSP.out wr (H.psUp HPS.out))
        have HUI := Lib.hid (used_iff ps k)
        generalize (usersL ps k).flatMap uC = us at HUS
        generalize (usersL ps k).length = n at HUS HUI
        generalize goneK ps os k = gk at *
        have HUN := Lib.hid (fun w h => runused_any (k : Int) (v := .slice (some ⟨g4, 0, none⟩) ts.length d4) HSO.out w h)
        by_cases h1 : usedB ps k = true
        · have hn : 0 < n := HUI.out.1 h1
          have hn2 : (0 : Int) < n := by omega
          rw [h1, Bool.true_and] at HSU
          cases h2 : usedB os k with
          | true =>
            rw [h2] at HSU
            have e2 : leftP os k = -1 := by unfold leftP; rw [if_pos h2]
            rw [e2] at HUN
            clear HUI h1 h2 e2
            go_wp2_with fail
            refine HUS.out.mono ?_
            rintro _ w6 ⟨s6, c6, rfl, hr6, hb6⟩
            replace H := H.below hb6
            clear hr6 hb6 HUS
            dsimp only
            go_wp2_with fail
            refine (HUN.out _ (by have := H.ownPs 0 rfl; rw [HTS.out] at this; exact this)).mono ?_
            rintro _ w7 ⟨rfl, hb7⟩
            replace H := H.below hb7
            clear hb7 HUN
            dsimp only
            go_wp2_with fail
            go_roundw
            case rel => exact ⟨k + 1, by go_num, by omega, by rw [HSU.out]; simpa using H⟩
            case measure => simp [intOf]; omega
          | false =>
            rw [h2] at HSU
            have e2 : leftP os k = k := by unfold leftP; rw [if_neg (by rw [h2]; decide)]
            rw [e2] at HUN
            clear HUI h1 h2 e2
            go_wp2_with fail
            refine HUS.out.mono ?_
            rintro _ w6 ⟨s6, c6, rfl, hr6, hb6⟩
            replace H := H.below hb6
            clear hr6 hb6 HUS
            dsimp only
            go_wp2_with fail
            refine (HUN.out _ (by have := H.ownPs 0 rfl; rw [HTS.out] at this; exact this)).mono ?_
            rintro _ w7 ⟨rfl, hb7⟩
            replace H := H.below hb7
            clear hb7 HUN
            dsimp only
            skip
            try clear C
            try simp only [World.size_alloc, List.nil_append, List.cons_append, List.append_assoc] at H
            have C := H.cells
            try simp only [cellsOf, cellsM, apartOf, apartM, and_true] at C
            go_upto_region 11 with fail
            go_wp2_with (at_builtin; refine wpList_append_H rfl (.tmp 40) (.tmp 42) 22 rfl elemN H.alloc 1 rfl rfl 2 rfl rfl rfl rfl (by decide) (by unfold maxLen; omega) (by omega) (fun g cap wz HZ => ?_); clear H C)
            go_roundw
            case rel =>
              refine ⟨k + 1, by go_num, by omega, ?_⟩
              rw [HSU.out, List.length_append, List.flatMap_append]
              exact HZ.less (by repeat (first | exact .slnil | refine .cons_cons _ ?_ | refine .cons _ ?_))
            case measure => simp [intOf]; omega
        · have hn : n = 0 := by
            rcases Nat.eq_zero_or_pos n with h | h
            · exact h
            · exact absurd (HUI.out.2 h) h1
          subst hn
          rw [show usedB ps k = false by cases h : usedB ps k with | true => exact absurd h h1 | false => rfl] at HSU
          clear HUI h1
          go_wp2_with fail
          refine HUS.out.mono ?_
          rintro _ w6 ⟨s6, c6, rfl, hr6, hb6⟩
          replace H := H.below hb6
          clear hr6 hb6 HUS
          dsimp only
          go_wp2_with fail
          go_roundw
          case rel => exact ⟨k + 1, by go_num, by omega, by rw [HSU.out]; simpa using H⟩
          case measure => simp [intOf]; omega
      · obtain rfl : k = 64 := by omega
        obtain ⟨sb, d5, rfl⟩ := ownsRow_slice (H.at 1 rfl)
        try clear C
        try simp only [World.size_alloc, List.nil_append, List.cons_append, List.append_assoc] at H
        have C := H.cells
        try simp only [cellsOf, cellsM, apartOf, apartM, and_true] at C
        go_wp2_with fail
        refine bodyPost_ret (by simp [results, Tryz.results33, go_sem, C]; try rfl) rfl ?_
        rw [HE.out]
        exact ⟨_, ts, sb, d5, rfl, HTS.out, H⟩
end Go.Proofs.YtedbpmckgiifpaaGreat
