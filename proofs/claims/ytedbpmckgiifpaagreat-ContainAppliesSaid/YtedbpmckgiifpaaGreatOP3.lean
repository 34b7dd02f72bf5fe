/- Package owner: Copy. -/
import Derived.Test.YtedbpmckgiifpaaGreatOP2
import Derived.Test.YtedbpmckgiifpaaGreatO6
namespace Go.Proofs.YtedbpmckgiifpaaGreat
set_option linter.unusedSimpArgs false
set_option linter.unusedVariables false
open Go.RowKit
set_option maxRecDepth 100000
attribute [local go_sem] lt_more ne_more ne_more'
attribute [local irreducible] wpX wpF Calls

theorem mid_at {α : Type} [Inhabited α] {rs qs : List α} {j : Nat} (hr : rs.length = j) (hj : j < qs.length) : (rs ++ qs.drop j)[j]! = qs[j]! ∧ (rs ++ qs.drop j).length = qs.length ∧ ∀ q, (rs ++ qs.drop j).set j q = rs ++ [q] ++ qs.drop (j + 1) := by
  subst hr
  refine ⟨?_, by rw [List.length_append, List.length_drop]; omega, fun q => ?_⟩
  · rw [getElem!_pos _ _ (by rw [List.length_append, List.length_drop]; omega), getElem!_pos qs _ hj, List.getElem_append_right (Nat.le_refl _)]
    simp
  · rw [List.set_append_right _ _ (Nat.le_refl _), Nat.sub_self, List.drop_eq_getElem_cons hj, List.set_cons_zero, List.append_assoc]; rfl
theorem pvs_one {w : World} {B : Nat} {qs : List Pv} (h : ∀ q ∈ qs, PvAt w B q) : ∀ y ∈ qs.flatMap pvC, y.oneCell' = true := fun y hy => by
  obtain ⟨q, hq, hy⟩ := List.mem_flatMap.1 hy
  obtain ⟨⟨a, c, e1, -, -⟩, ⟨a', c', e2, -, -⟩⟩ := h q hq
  simp only [pvC, List.mem_cons, List.mem_nil_iff, or_false] at hy
  rcases hy with rfl | rfl | rfl | rfl | rfl
  · rfl
  · rfl
  · rfl
  · rw [e1]; rfl
  · rw [e2]; rfl
set_option maxHeartbeats 4000000 in
theorem ocopy_any {v : Value} {ps : List Pr} (hx : SmallP ps) (w : World) (hl : Ps w w.heap.size v ps) :
    Calls Tryz.prog 21 #[v] w (GivesP (fun v => v) ps w) := by
  obtain ⟨qs, hqs, ⟨sa, c, rfl, hc, hl⟩, hi⟩ := hl
  have hx1 : qs.length ≤ 1000 := by have := hx.1; rw [← hqs] at this; simpa using this
  have HSM := Lib.hid (fun j => smallQ (j := j) hx hqs)
  have HCL := Lib.hid (clonePr c hx1 (pvs_one hi) w hl)
  have HL := Lib.hid hl
  have HI := Lib.hid hi
  have HQS := Lib.hid hqs
  clear hl hi hx hqs hc
  go_enter Tryz.func21, Tryz.ntmps21
  have H := HS.start NoD w
  go_wp2_with fail
  refine (HCL.out).mono ?_
  rintro _ w1 ⟨s0, d0, rfl, hr, hb⟩
  replace H := (H).getsRow hb hr
  clear hb hr
  try clear C
  try simp only [World.size_alloc, List.nil_append, List.cons_append, List.append_assoc] at H
  have C := H.cells
  try simp only [cellsOf, cellsM, apartOf, apartM, and_true] at C
  dsimp only
  have hn := H.toMany (R := []) (L := [_]) (fun A hA => by cases hA)
  clear H
  have H := hn
  clear hn HCL
  try simp only [List.nil_append, List.cons_append] at H
  go_wp2_with fail
  go_loopw [10] (fun i wr => ∃ (j : Nat) (rs : List Pv), i = .int .i64 j ∧ j ≤ qs.length ∧ Hid (rs.length = j) ∧ Hid (rs.map (·.p) = (qs.take j).map (·.p)) ∧ HS NoD w [.row (.slice s0 qs.length d0) 52 5 qs.length ((rs ++ qs.drop j).flatMap pvC), Item.many (rs.flatMap innerR)] wr) (fun i _ => qs.length - (intOf i).toNat)
  case atStart => exact ⟨0, [], rfl, Nat.zero_le _, rfl, rfl, by simpa using H⟩
  case round =>
    clear H
    obtain ⟨j, rs, rfl, hj, hrl, HR, H⟩ := hrel
    skip
    by_cases hlt : j < qs.length
    · have hsm := HSM.out j hlt
      obtain ⟨b, o, e0, hb, hc⟩ := (H.lies HL.out).at hlt
      cases e0
      have HM := Lib.hid (map_at hlt)
      have hpv := HI.out _ (mem_at hlt)
      obtain ⟨q, hxj⟩ : ∃ q, q = qs[j]! := ⟨_, rfl⟩
      rw [← hxj] at hc hpv
      have HX := Lib.hid hxj
      obtain ⟨⟨pi, pt, pd, pg, td⟩, pa, ta⟩ := q
      obtain ⟨⟨pb, pc, e1, hpc, hpl⟩, ⟨tb, tc, e2, htc, htl⟩⟩ := hpv
      have f1 : pa = .slice pb pg.length pc := e1
      have f2 : ta = .slice tb td.length tc := e2
      clear e1 e2
      subst f1 f2
      have HPG : Hid (Lies w w.heap.size pb 3 pg.length (fun j => pgC pg[j]!)) := hpl
      have HTD : Hid (Lies w w.heap.size tb 1 td.length (fun j => iC td[j]!)) := htl
      have HPC : Hid (pg.length ≤ pc ∧ (pb = none → pc = 0)) := hpc
      have HTC : Hid (td.length ≤ tc ∧ (tb = none → tc = 0)) := htc
      clear hpc htc
      clear hpl htl
      have c0 : wr.cell? ⟨b, o + j * 5, none⟩ = some (.int .i64 pi) := hc 0 _ rfl
      have c1 : wr.cell? ⟨b, o + j * 5 + 1, none⟩ = some (.bool pt) := hc 1 _ rfl
      have c2 : wr.cell? ⟨b, o + j * 5 + 2, none⟩ = some (.bool pd) := hc 2 _ rfl
      have c3 : wr.cell? ⟨b, o + j * 5 + 3, none⟩ = some (.slice pb pg.length pc) := hc 3 _ rfl
      have c4 : wr.cell? ⟨b, o + j * 5 + 4, none⟩ = some (.slice tb td.length tc) := hc 4 _ rfl
      clear hc hxj
      clear c0 c1 c2 c3 c4
      rw [← HX.out] at hsm
      have hs1 : pg.length ≤ 1000 := hsm.1
      have hs2 : td.length ≤ 1000 := hsm.2
      have HMI := Lib.hid (mid_at hrl.out hlt)
      clear hsm
      obtain ⟨g, rfl, hg, hcap⟩ := ownsRow_ptr (H.at 0 rfl) (by omega)
      have hjz : j < (rs ++ qs.drop j).length := by rw [HMI.out.2.1]; exact hlt
      have HZ := Lib.hid (show (rs ++ qs.drop j)[j]! = (⟨⟨pi, pt, pd, pg, td⟩, .slice pb pg.length pc, .slice tb td.length tc⟩ : Pv) by rw [HMI.out.1, ← HX.out])
      have k0 : wr.cell? ⟨g, j * 5, none⟩ = some (.int .i64 pi) := (H.outerCell 0 rfl HMI.out.2.1.symm hjz (m := 0) (u := .int .i64 pi) (by decide) (by rw [HZ.out]; rfl)).1
      have k1 := (H.outerCell 0 rfl HMI.out.2.1.symm hjz (m := 1) (u := .bool pt) (by decide) (by rw [HZ.out]; rfl)).1
      have k2 := (H.outerCell 0 rfl HMI.out.2.1.symm hjz (m := 2) (u := .bool pd) (by decide) (by rw [HZ.out]; rfl)).1
      have k3 := (H.outerCell 0 rfl HMI.out.2.1.symm hjz (m := 3) (u := .slice pb pg.length pc) (by decide) (by rw [HZ.out]; rfl)).1
      have k4 := (H.outerCell 0 rfl HMI.out.2.1.symm hjz (m := 4) (u := .slice tb td.length tc) (by decide) (by rw [HZ.out]; rfl)).1
      go_upto_region 5 with fail
      clear k0 k1 k2 k3 k4
      generalize hwb : wr.alloc _ = w2
      replace H := HS.eqW hwb H.alloc
      try simp only [World.size_alloc, List.nil_append, List.cons_append, List.append_assoc] at H
      clear hwb
      generalize wr.heap.size = bP at H ⊢
      try clear C
      try clear wr
      have C := H.cells
      try simp only [cellsOf, cellsM, apartOf, apartM, and_true] at C
      go_region_law (first
        | (go_simp; go_at_call 40; refine (clonePg pc hs1 (pgC_one _) _ (H.drew.liesUp HPG.out)).mono ?_; rintro _ wa ⟨s1, d1, rfl, hr, hb⟩; have H1 := H.drew.getsRow hb hr; have C1 := H1.cells; simp only [List.nil_append, List.cons_append, List.append_assoc, cellsOf, cellsM, apartOf, apartM, and_true] at H1 C1; clear hr hb)
        | (go_simp; go_at_call 41; refine (cloneN tc hs2 (iC_one _) _ (H1.liesUp HTD.out)).mono ?_; rintro _ wb ⟨s2, d2, rfl, hr, hb⟩; have H2 := H1.getsRow hb hr; have C2 := H2.cells; simp only [List.nil_append, List.cons_append, List.append_assoc, cellsOf, cellsM, apartOf, apartM, and_true] at H2 C2; clear hr hb
           have k3 := H2.outerCell 0 rfl HMI.out.2.1.symm hjz (m := 3) (u := .slice pb pg.length pc) (by decide) (by rw [HZ.out]; rfl)
           have k4 := H2.outerCell 0 rfl HMI.out.2.1.symm hjz (m := 4) (u := .slice tb td.length tc) (by decide) (by rw [HZ.out]; rfl)
           obtain ⟨k3, k3f⟩ := k3
           obtain ⟨k4, k4f⟩ := k4))
      all_goals
        clear C C1 C2 H H1 k3 k3f k4 k4f
        go_step
        generalize hwb : World.setCell (World.setCell _ _ _) _ _ = w9
        have H9 : HS NoD w [.row (.slice (some ⟨g, 0, none⟩) qs.length d0) 52 5 qs.length ((((rs ++ qs.drop j).flatMap pvC).set (j * 5 + 3) (.slice s1 pg.length d1)).set (j * 5 + 4) (.slice s2 td.length d2)), Item.many (rs.flatMap innerR), .blk bP #[.int .i64 pi, .bool pt, .bool pd, .slice pb pg.length pc, .slice tb td.length tc] 52, .row (.slice s1 pg.length d1) 49 3 pg.length (pg.flatMap pgC), .row (.slice s2 td.length d2) 3 1 td.length (td.flatMap iC)] w9 := by
          first
            | exact HS.eqW hwb ((H2.rowSet 0 rfl (j * 5 + 3) (.slice s1 pg.length d1)).rowSet 0 rfl (j * 5 + 4) (.slice s2 td.length d2))
            | (rw [List.set_comm _ _ (by omega)]; exact HS.eqW hwb ((H2.rowSet 0 rfl (j * 5 + 4) (.slice s2 td.length d2)).rowSet 0 rfl (j * 5 + 3) (.slice s1 pg.length d1)))
        clear hwb H2
        obtain ⟨q', hq'⟩ : ∃ q' : Pv, q' = ⟨⟨pi, pt, pd, pg, td⟩, .slice s1 pg.length d1, .slice s2 td.length d2⟩ := ⟨_, rfl⟩
        have hset : ((((rs ++ qs.drop j).flatMap pvC).set (j * 5 + 3) (.slice s1 pg.length d1)).set (j * 5 + 4) (.slice s2 td.length d2)) = (rs ++ [q'] ++ qs.drop (j + 1)).flatMap pvC := by
          rw [← HMI.out.2.2 q']
          have e1 := flat_set pvC_len (rs ++ qs.drop j) j 3 ⟨⟨pi, pt, pd, pg, td⟩, .slice s1 pg.length d1, .slice tb td.length tc⟩ (.slice s1 pg.length d1) hjz (by decide) (by rw [HZ.out]; rfl)
          rw [← e1]
          have e2 := flat_set pvC_len ((rs ++ qs.drop j).set j ⟨⟨pi, pt, pd, pg, td⟩, .slice s1 pg.length d1, .slice tb td.length tc⟩) j 4 q' (.slice s2 td.length d2) (by rw [List.length_set]; exact hjz) (by decide) (by rw [getElem!_pos _ j (by rw [List.length_set]; exact hjz), List.getElem_set_self, hq']; rfl)
          rw [← e2, List.set_set]
        rw [hset] at H9
        clear hset
        have H := HS.less (L' := [.row (.slice (some ⟨g, 0, none⟩) qs.length d0) 52 5 qs.length ((rs ++ [q'] ++ qs.drop (j + 1)).flatMap pvC), Item.many (rs.flatMap innerR), .row (.slice s1 pg.length d1) 49 3 pg.length (pg.flatMap pgC), .row (.slice s2 td.length d2) 3 1 td.length (td.flatMap iC)]) H9 (by repeat (first | exact .slnil | refine .cons_cons _ ?_ | refine .cons _ ?_))
        clear H9
        replace H := HS.toMany (L := [_, _]) (R := [_, _]) H (fun A hA => by simp only [List.mem_cons, List.mem_nil_iff, or_false] at hA; rcases hA with rfl | rfl <;> rfl)
        replace H := HS.manyJoin (L := [_]) H
        skip
        go_wp2_with fail
        go_roundw
        case rel =>
          refine ⟨j + 1, rs ++ [q'], by go_num, by omega, (show Hid _ from by show List.length _ = _; simp [hrl.out]), (show Hid _ from ?_), ?_⟩
          · show List.map _ _ = _
            rw [take_snoc hlt, List.map_append, List.map_append, HR.out, ← HX.out, hq']
            rfl
          · rw [flat_one (f := innerR), hq']
            rw [hq'] at H
            exact H
        case measure => simp [intOf]; omega
    · have hje : j = qs.length := by omega
      have e : rs.map (·.p) = ps := by rw [HR.out, List.take_of_length_le (by omega), HQS.out]
      have hrl2 : rs.length = qs.length := by rw [hrl.out]; exact hje
      have hdr : rs ++ qs.drop j = rs := by rw [List.drop_eq_nil_of_le (by omega), List.append_nil]
      rw [hdr] at H
      go_wp2_with fail
      go_ret
      refine ⟨.slice s0 qs.length d0, rs, rfl, e, HS.shutPs (L := []) ?_⟩
      unfold outerR
      rw [hrl2]
      exact H
end Go.Proofs.YtedbpmckgiifpaaGreat
