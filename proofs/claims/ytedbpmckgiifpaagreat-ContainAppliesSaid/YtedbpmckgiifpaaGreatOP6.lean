/- Package owner: Replace. -/
import Derived.Test.YtedbpmckgiifpaaGreatOP5
namespace Go.Proofs.YtedbpmckgiifpaaGreat
set_option linter.unusedSimpArgs false
set_option linter.unusedVariables false
open Go.RowKit
set_option maxRecDepth 100000
attribute [local go_sem] lt_more ne_more ne_more'
attribute [local irreducible] wpX wpF Calls

/-- The first k things turned. -/
def mix {α : Type} (g : α → α) (k : Nat) (l : List α) : List α := (l.take k).map g ++ l.drop k
section
variable {α : Type} [Inhabited α] {g : α → α} {k : Nat} {l : List α}
omit [Inhabited α] in
theorem mix_len (g : α → α) (k : Nat) (l : List α) : (mix g k l).length = l.length := by unfold mix; rw [List.length_append, List.length_map, List.length_take, List.length_drop]; omega
omit [Inhabited α] in
theorem mix_zero (g : α → α) (l : List α) : mix g 0 l = l := by simp [mix]
omit [Inhabited α] in
theorem mix_all (h : l.length ≤ k) : mix g k l = l.map g := by
  unfold mix; rw [List.take_of_length_le h, List.drop_eq_nil_of_le h, List.append_nil]
theorem mix_at (h : k < l.length) : (mix g k l)[k]! = l[k]! := by
  have hl : ((l.take k).map g).length = k := by rw [List.length_map, List.length_take]; omega
  unfold mix
  rw [getElem!_pos _ k (by rw [List.length_append, hl, List.length_drop]; omega), getElem!_pos l k h, List.getElem_append_right (by omega)]
  simp only [List.getElem_drop]
  congr 1
  omega
theorem mix_succ (h : k < l.length) : mix g (k + 1) l = (mix g k l).set k (g l[k]!) := by
  have hl : ((l.take k).map g).length = k := by rw [List.length_map, List.length_take]; omega
  unfold mix
  rw [take_snoc h, List.map_append, List.set_append_right _ _ (by omega), hl, Nat.sub_self, List.drop_eq_getElem_cons h, List.append_assoc]
  rfl
theorem mix_same (h : k < l.length) (e : g l[k]! = l[k]!) : mix g (k + 1) l = mix g k l := by
  rw [mix_succ h, e]
  have h2 : (mix g k l)[k]! = l[k]! := mix_at h
  rw [← h2, getElem!_pos _ k (by rw [mix_len]; exact h), List.set_getElem_self]
end
def mv1 (a b : Int) (x : Pg) : Pg := if x.f = a then { x with f := b } else x
def moveV (a b : Int) (q : Pv) : Pv := { q with p := moveP a b q.p }
theorem mv1_map (a b : Int) (p : Pr) : (moveP a b p).pages = p.pages.map (mv1 a b) := rfl
theorem moveV_flat (a b : Int) (j : Nat) (rs : List Pv) : (mix (moveV a b) j rs).flatMap pvC = rs.flatMap pvC := by
  have e : ∀ l : List Pv, (l.map (moveV a b)).flatMap pvC = l.flatMap pvC := fun l => by
    induction l with
    | nil => rfl
    | cons x l ih => rw [List.map_cons, List.flatMap_cons, List.flatMap_cons, ih]; rfl
  unfold mix
  rw [List.flatMap_append, e, ← List.flatMap_append, List.take_append_drop]
set_option maxHeartbeats 8000000 in
theorem orepl_any (a b : Int) {v : Value} {ps : List Pr} (hx : SmallP ps) (w : World) (hl : Ps w w.heap.size v ps) :
    Calls Tryz.prog 69 #[v, .int .i64 a, .int .i64 b] w (GivesP (fun v => .tuple #[v, .int .i64 (replP ps a b).1]) (replP ps a b).2 w) := by
  have HU := Lib.hid (fun w h => ounused_any b (v := v) hx w h)
  have HCP := Lib.hid (fun w h => ocopy_any (v := v) hx w h)
  have HW1 := Lib.hid (fun w => within_any a 0 63 w)
  have HW2 := Lib.hid (fun w => within_any b 0 63 w)
  have HPS := Lib.hid hl
  have HSM := Lib.hid hx
  obtain ⟨R, hR⟩ : ∃ R, R = replP ps a b := ⟨_, rfl⟩
  rw [← hR]
  have HR := Lib.hid (hR.trans (show _ = if a < 0 ∨ 64 ≤ a ∨ b < 0 ∨ 64 ≤ b then ((2 : Int), ([] : List Pr)) else if a ≠ b ∧ usedB ps b = true then (43, []) else (0, ps.map (moveP a b)) from rfl))
  clear hl hx hR
  by_cases hr : a < 0 ∨ 64 ≤ a ∨ b < 0 ∨ 64 ≤ b
  · have HE := Lib.hid (HR.out.trans (if_pos hr))
    clear HR HU HCP
    by_cases hn : a < 0 ∨ 64 ≤ a
    · rw [show (decide (0 ≤ a) && decide (a ≤ 63)) = false by rw [Bool.and_eq_false_iff, decide_eq_false_iff_not, decide_eq_false_iff_not]; omega] at HW1
      clear hr hn HW2
      go_enter Tryz.func69, Tryz.ntmps69
      have H := HS.start NoD w
      go_wp2_with fail
      refine (HW1.out _).mono ?_
      rintro _ w1 ⟨rfl, hb⟩
      replace H := H.below hb
      clear hb
      try clear C
      try simp only [World.size_alloc, List.nil_append, List.cons_append, List.append_assoc] at H
      have C := H.cells
      try simp only [cellsOf, cellsM, apartOf, apartM, and_true] at C
      dsimp only
      go_wp2_with fail
      refine bodyPost_ret (by simp [results, Tryz.results69, go_sem, C]; try rfl) rfl ?_
      rw [HE.out]
      exact givesP_nil H _
    · rw [show (decide (0 ≤ a) && decide (a ≤ 63)) = true by rw [Bool.and_eq_true, decide_eq_true_iff, decide_eq_true_iff]; omega] at HW1
      rw [show (decide (0 ≤ b) && decide (b ≤ 63)) = false by rw [Bool.and_eq_false_iff, decide_eq_false_iff_not, decide_eq_false_iff_not]; omega] at HW2
      clear hr hn
      go_enter Tryz.func69, Tryz.ntmps69
      have H := HS.start NoD w
      go_wp2_with fail
      refine (HW1.out _).mono ?_
      rintro _ w1 ⟨rfl, hb⟩
      replace H := H.below hb
      clear hb
      try clear C
      try simp only [World.size_alloc, List.nil_append, List.cons_append, List.append_assoc] at H
      have C := H.cells
      try simp only [cellsOf, cellsM, apartOf, apartM, and_true] at C
      dsimp only
      go_wp2_with fail
      refine (HW2.out _).mono ?_
      rintro _ w2 ⟨rfl, hb⟩
      replace H := H.below hb
      clear hb
      try clear C
      try simp only [World.size_alloc, List.nil_append, List.cons_append, List.append_assoc] at H
      try clear w1
      have C := H.cells
      try simp only [cellsOf, cellsM, apartOf, apartM, and_true] at C
      dsimp only
      go_wp2_with fail
      refine bodyPost_ret (by simp [results, Tryz.results69, go_sem, C]; try rfl) rfl ?_
      rw [HE.out]
      exact givesP_nil H _
  · have HR2 := Lib.hid (HR.out.trans (if_neg hr))
    rw [show (decide (0 ≤ a) && decide (a ≤ 63)) = true by rw [Bool.and_eq_true, decide_eq_true_iff, decide_eq_true_iff]; omega] at HW1
    rw [show (decide (0 ≤ b) && decide (b ≤ 63)) = true by rw [Bool.and_eq_true, decide_eq_true_iff, decide_eq_true_iff]; omega] at HW2
    clear HR hr
    by_cases hab : a = b
    · have HE := Lib.hid (HR2.out.trans (if_neg (fun h => h.1 hab)))
      have hab2 : ((a : Int) != b) = false := by simp [hab]
      clear hab

      clear HR2 HU
      go_enter Tryz.func69, Tryz.ntmps69
      have H := HS.start NoD w
      go_wp2_with fail
      refine (HW1.out _).mono ?_
      rintro _ w1 ⟨rfl, hb⟩
      replace H := H.below hb
      clear hb
      try clear C
      try simp only [World.size_alloc, List.nil_append, List.cons_append, List.append_assoc] at H
      have C := H.cells
      try simp only [cellsOf, cellsM, apartOf, apartM, and_true] at C
      dsimp only
      go_wp2_with fail
      refine (HW2.out _).mono ?_
      rintro _ w2 ⟨rfl, hb⟩
      replace H := H.below hb
      clear hb
      try clear C
      try simp only [World.size_alloc, List.nil_append, List.cons_append, List.append_assoc] at H
      try clear w1
      have C := H.cells
      try simp only [cellsOf, cellsM, apartOf, apartM, and_true] at C
      dsimp only
      go_wp2_with fail
      refine (HCP.out _ (H.psUp HPS.out)).mono ?_
      rintro _ w4 ⟨v4, rs, rfl, hrs, K⟩
      replace H := H.join1 K
      clear K HCP HW1 HW2 C
      have hrl : rs.length ≤ 1000 := by have := HSM.out.1; rw [← hrs] at this; simpa using this
      have HRS := Lib.hid hrs
      clear hrs
      obtain ⟨sb, d4, rfl⟩ : ∃ sb d, v4 = .slice sb rs.length d := by
        have H' := H.manyCons 0 rfl
        simp only [List.eraseIdx_cons_zero, List.nil_append, List.cons_append, outerR] at H'
        exact ownsRow_slice (H'.at 0 rfl)
      simp only [List.nil_append] at H
      skip
      dsimp only
      go_wp2_with fail
      go_loopw [35] (fun jj wr => ∃ (j : Nat), jj = .int .i64 j ∧ j ≤ rs.length ∧ HS NoD w [Item.many (PsR (.slice sb rs.length d4) (mix (moveV a b) j rs))] wr) (fun jj _ => rs.length - (intOf jj).toNat)
      case atStart => exact ⟨0, rfl, Nat.zero_le _, by rw [mix_zero]; exact H⟩
      case round =>
        clear H
        obtain ⟨j, rfl, hj, H⟩ := hrel
        skip
        by_cases hlt : j < rs.length
        · have hjm : j < (mix (moveV a b) j rs).length := by rw [mix_len]; exact hlt
          have hop := HS.openAt (L := []) H hjm
          clear H
          obtain ⟨g, d, pb, pc, tb, tc, e1, hcap, hpa, hta, H⟩ := hop
          simp only [List.nil_append, List.cons_append] at H
          rw [mix_len] at e1 hcap H
          injection e1 with e1 e2 e3
          subst e1 e3
          clear e2
          rw [mix_at hlt] at H hpa hta
          obtain ⟨pv, hpv⟩ : ∃ q, q = rs[j]! := ⟨_, rfl⟩
          rw [← hpv] at H hpa hta
          have HPV := Lib.hid hpv
          clear hpv
          obtain ⟨⟨pi, pt, pd, pg, td⟩, pa, ta⟩ := pv
          have f1 : pa = .slice pb pg.length pc := hpa
          have f2 : ta = .slice tb td.length tc := hta
          clear hpa hta
          subst f1 f2
          dsimp only at H
          have hs1 : pg.length ≤ 1000 := by
            have := (HSM.out.2 (rs[j]!).p (by rw [← HRS.out]; exact List.mem_map.2 ⟨_, mem_at hlt, rfl⟩)).1
            rw [← HPV.out] at this; exact this
          rw [moveV_flat] at H
          have k0 : wr.cell? ⟨g, j * 5, none⟩ = some (.int .i64 pi) := (H.outerCell 0 rfl rfl hlt (m := 0) (by decide) (by rw [← HPV.out]; rfl)).1
          have k1 := (H.outerCell 0 rfl rfl hlt (m := 1) (u := .bool pt) (by decide) (by rw [← HPV.out]; rfl)).1
          have k2 := (H.outerCell 0 rfl rfl hlt (m := 2) (u := .bool pd) (by decide) (by rw [← HPV.out]; rfl)).1
          have k3 := (H.outerCell 0 rfl rfl hlt (m := 3) (u := .slice pb pg.length pc) (by decide) (by rw [← HPV.out]; rfl)).1
          have k4 := (H.outerCell 0 rfl rfl hlt (m := 4) (u := .slice tb td.length tc) (by decide) (by rw [← HPV.out]; rfl)).1
          go_upto_region 9 with fail
          clear k0 k1 k2 k3 k4
          generalize hwb : wr.alloc _ = w3
          replace H := HS.eqW hwb H.alloc
          try simp only [World.size_alloc, List.nil_append, List.cons_append, List.append_assoc] at H
          clear hwb
          generalize wr.heap.size = bP at H ⊢
          try clear C
          try clear wr
          have C := H.cells
          try simp only [cellsOf, cellsM, apartOf, apartM, and_true] at C
          go_wp2_with fail
          go_loopw [42] (fun kk wr => ∃ (k : Nat), kk = .int .i64 k ∧ k ≤ pg.length ∧ HS NoD w [.row (.slice (some ⟨g, 0, none⟩) rs.length d4) 52 5 rs.length (rs.flatMap pvC), .row (.slice pb pg.length pc) 49 3 pg.length ((mix (mv1 a b) k pg).flatMap pgC), .row (.slice tb td.length tc) 3 1 td.length (td.flatMap iC), Item.many (restB (mix (moveV a b) j rs) j), .blk bP #[.int .i64 pi, .bool pt, .bool pd, .slice pb pg.length pc, .slice tb td.length tc] 52] wr) (fun kk _ => pg.length - (intOf kk).toNat)
          case atStart => exact ⟨0, rfl, Nat.zero_le _, by rw [mix_zero]; exact H⟩
          case round =>
            clear H C
            obtain ⟨k, rfl, hk, H⟩ := hrel
            rename_i wk _ _
            skip
            try clear C
            try simp only [World.size_alloc, List.nil_append, List.cons_append, List.append_assoc] at H
            have C := H.cells
            try simp only [cellsOf, cellsM, apartOf, apartM, and_true] at C
            by_cases hlk : k < pg.length
            · obtain ⟨h, rfl, hh, hcp⟩ := ownsRow_ptr (H.at 1 rfl) (by omega)
              obtain ⟨xo, hxo⟩ : ∃ x, x = pg[k]! := ⟨_, rfl⟩
              have p1 := H.pageCell 1 rfl (mix_len (mv1 a b) k pg).symm (i := k) (m := 1) (u := .int .i64 xo.f) (by rw [mix_len]; exact hlk) (by decide) (by rw [mix_at hlk, hxo]; rfl)
              obtain ⟨p1, p1f⟩ := p1
              have HXO := Lib.hid hxo
              clear hxo
              by_cases hq : xo.f = a
              · have hfl : (mix (mv1 a b) (k + 1) pg).flatMap pgC = ((mix (mv1 a b) k pg).flatMap pgC).set (k * 3 + 1) (.int .i64 b) := by
                  rw [mix_succ hlk]
                  exact flat_set pgC_len (mix (mv1 a b) k pg) k 1 _ (.int .i64 b) (by rw [mix_len]; exact hlk) (by decide) (by rw [mix_at hlk, ← HXO.out]; unfold mv1; rw [if_pos hq]; rfl)
                have HFL := Lib.hid hfl
                clear hfl
                go_wp2_with fail
                clear p1 p1f
                go_roundw
                case rel =>
                  refine ⟨k + 1, by go_num, by omega, ?_⟩
                  have H9 := H.rowSet 1 rfl (k * 3 + 1) (.int .i64 b)
                  rw [HFL.out]
                  exact H9
                case measure => simp [intOf]; omega
              · have HSA := Lib.hid (mix_same (g := mv1 a b) hlk (by rw [← HXO.out]; unfold mv1; rw [if_neg hq]))
                go_wp2_with fail
                clear p1 p1f
                go_roundw
                case rel => exact ⟨k + 1, by go_num, by omega, by rw [HSA.out]; exact H⟩
                case measure => simp [intOf]; omega
            · have hke : k = pg.length := by omega
              subst hke
              rw [mix_all (Nat.le_refl _)] at H
              go_wp2_with fail
              obtain ⟨q', hq'⟩ : ∃ q' : Pv, q' = ⟨⟨pi, pt, pd, pg.map (mv1 a b), td⟩, .slice pb pg.length pc, .slice tb td.length tc⟩ := ⟨_, rfl⟩
              have hqm : q' = moveV a b rs[j]! := by rw [hq', ← HPV.out]; rfl
              have H9 := HS.less (L' := [.row (.slice (some ⟨g, 0, none⟩) rs.length d4) 52 5 rs.length (rs.flatMap pvC), .row (.slice pb pg.length pc) 49 3 pg.length ((pg.map (mv1 a b)).flatMap pgC), .row (.slice tb td.length tc) 3 1 td.length (td.flatMap iC), Item.many (restB (mix (moveV a b) j rs) j)]) H (by repeat (first | exact .slnil | refine .cons_cons _ ?_ | refine .cons _ ?_))
              have H10 := HS.shutAt (L := []) (g := g) (d := d4) (rs := mix (moveV a b) j rs) (i := j) (cells := rs.flatMap pvC) q' (by rw [mix_len, hq']; unfold pagesR toldR; dsimp only; rw [List.length_map]; exact H9) hjm (by rw [hqm, ← mix_succ hlt, moveV_flat])
              rw [mix_len, hqm, ← mix_succ hlt] at H10
              go_roundw
              case rel => exact ⟨j + 1, by go_num, by omega, H10⟩
              case measure => simp [intOf]; omega
        · have hje : j = rs.length := by omega
          subst hje
          rw [mix_all (Nat.le_refl _)] at H
          try clear C
          try simp only [World.size_alloc, List.nil_append, List.cons_append, List.append_assoc] at H
          have C := H.cells
          try simp only [cellsOf, cellsM, apartOf, apartM, and_true] at C
          go_wp2_with fail
          refine bodyPost_ret (by simp [results, Tryz.results69, go_sem, C]; try rfl) rfl ?_
          rw [HE.out]
          exact ⟨.slice sb rs.length d4, rs.map (moveV a b), rfl, by rw [← HRS.out, List.map_map, List.map_map]; rfl, H⟩
    · cases hu : usedB ps b with
      | true =>
        have HE := Lib.hid (HR2.out.trans (if_pos ⟨hab, hu⟩))
        rw [hu] at HU
        clear HR2 HCP hu
        go_enter Tryz.func69, Tryz.ntmps69
        have H := HS.start NoD w
        go_wp2_with fail
        refine (HW1.out _).mono ?_
        rintro _ w1 ⟨rfl, hb⟩
        replace H := H.below hb
        clear hb
        try clear C
        try simp only [World.size_alloc, List.nil_append, List.cons_append, List.append_assoc] at H
        have C := H.cells
        try simp only [cellsOf, cellsM, apartOf, apartM, and_true] at C
        dsimp only
        go_wp2_with fail
        refine (HW2.out _).mono ?_
        rintro _ w2 ⟨rfl, hb⟩
        replace H := H.below hb
        clear hb
        try clear C
        try simp only [World.size_alloc, List.nil_append, List.cons_append, List.append_assoc] at H
        try clear w1
        have C := H.cells
        try simp only [cellsOf, cellsM, apartOf, apartM, and_true] at C
        dsimp only
        go_wp2_with fail
        refine (HU.out _ (H.psUp HPS.out)).mono ?_
        rintro _ w3 ⟨rfl, hb⟩
        replace H := H.below hb
        clear hb
        try clear C
        try simp only [World.size_alloc, List.nil_append, List.cons_append, List.append_assoc] at H
        try clear w2
        have C := H.cells
        try simp only [cellsOf, cellsM, apartOf, apartM, and_true] at C
        dsimp only
        go_wp2_with fail
        refine bodyPost_ret (by simp [results, Tryz.results69, go_sem, C]; try rfl) rfl ?_
        rw [HE.out]
        exact givesP_nil H _
      | false =>
        have HE := Lib.hid (HR2.out.trans (if_neg (fun h => by rw [hu] at h; cases h.2)))
        rw [hu] at HU
        clear HR2 hu
        go_enter Tryz.func69, Tryz.ntmps69
        have H := HS.start NoD w
        go_wp2_with fail
        refine (HW1.out _).mono ?_
        rintro _ w1 ⟨rfl, hb⟩
        replace H := H.below hb
        clear hb
        try clear C
        try simp only [World.size_alloc, List.nil_append, List.cons_append, List.append_assoc] at H
        have C := H.cells
        try simp only [cellsOf, cellsM, apartOf, apartM, and_true] at C
        dsimp only
        go_wp2_with fail
        refine (HW2.out _).mono ?_
        rintro _ w2 ⟨rfl, hb⟩
        replace H := H.below hb
        clear hb
        try clear C
        try simp only [World.size_alloc, List.nil_append, List.cons_append, List.append_assoc] at H
        try clear w1
        have C := H.cells
        try simp only [cellsOf, cellsM, apartOf, apartM, and_true] at C
        dsimp only
        go_wp2_with fail
        refine (HU.out _ (H.psUp HPS.out)).mono ?_
        rintro _ w3 ⟨rfl, hb⟩
        replace H := H.below hb
        clear hb
        try clear C
        try simp only [World.size_alloc, List.nil_append, List.cons_append, List.append_assoc] at H
        try clear w2
        have C := H.cells
        try simp only [cellsOf, cellsM, apartOf, apartM, and_true] at C
        dsimp only
        go_wp2_with fail
        refine (HCP.out _ (H.psUp HPS.out)).mono ?_
        rintro _ w4 ⟨v4, rs, rfl, hrs, K⟩
        replace H := H.join1 K
        clear K HCP HW1 HW2 C
        have hrl : rs.length ≤ 1000 := by have := HSM.out.1; rw [← hrs] at this; simpa using this
        have HRS := Lib.hid hrs
        clear hrs
        obtain ⟨sb, d4, rfl⟩ : ∃ sb d, v4 = .slice sb rs.length d := by
          have H' := H.manyCons 0 rfl
          simp only [List.eraseIdx_cons_zero, List.nil_append, List.cons_append, outerR] at H'
          exact ownsRow_slice (H'.at 0 rfl)
        simp only [List.nil_append] at H
        skip
        dsimp only
        go_wp2_with fail
        go_loopw [35] (fun jj wr => ∃ (j : Nat), jj = .int .i64 j ∧ j ≤ rs.length ∧ HS NoD w [Item.many (PsR (.slice sb rs.length d4) (mix (moveV a b) j rs))] wr) (fun jj _ => rs.length - (intOf jj).toNat)
        case atStart => exact ⟨0, rfl, Nat.zero_le _, by rw [mix_zero]; exact H⟩
        case round =>
          clear H
          obtain ⟨j, rfl, hj, H⟩ := hrel
          skip
          by_cases hlt : j < rs.length
          · have hjm : j < (mix (moveV a b) j rs).length := by rw [mix_len]; exact hlt
            have hop := HS.openAt (L := []) H hjm
            clear H
            obtain ⟨g, d, pb, pc, tb, tc, e1, hcap, hpa, hta, H⟩ := hop
            simp only [List.nil_append, List.cons_append] at H
            rw [mix_len] at e1 hcap H
            injection e1 with e1 e2 e3
            subst e1 e3
            clear e2
            rw [mix_at hlt] at H hpa hta
            obtain ⟨pv, hpv⟩ : ∃ q, q = rs[j]! := ⟨_, rfl⟩
            rw [← hpv] at H hpa hta
            have HPV := Lib.hid hpv
            clear hpv
            obtain ⟨⟨pi, pt, pd, pg, td⟩, pa, ta⟩ := pv
            have f1 : pa = .slice pb pg.length pc := hpa
            have f2 : ta = .slice tb td.length tc := hta
            clear hpa hta
            subst f1 f2
            dsimp only at H
            have hs1 : pg.length ≤ 1000 := by
              have := (HSM.out.2 (rs[j]!).p (by rw [← HRS.out]; exact List.mem_map.2 ⟨_, mem_at hlt, rfl⟩)).1
              rw [← HPV.out] at this; exact this
            rw [moveV_flat] at H
            have k0 : wr.cell? ⟨g, j * 5, none⟩ = some (.int .i64 pi) := (H.outerCell 0 rfl rfl hlt (m := 0) (by decide) (by rw [← HPV.out]; rfl)).1
            have k1 := (H.outerCell 0 rfl rfl hlt (m := 1) (u := .bool pt) (by decide) (by rw [← HPV.out]; rfl)).1
            have k2 := (H.outerCell 0 rfl rfl hlt (m := 2) (u := .bool pd) (by decide) (by rw [← HPV.out]; rfl)).1
            have k3 := (H.outerCell 0 rfl rfl hlt (m := 3) (u := .slice pb pg.length pc) (by decide) (by rw [← HPV.out]; rfl)).1
            have k4 := (H.outerCell 0 rfl rfl hlt (m := 4) (u := .slice tb td.length tc) (by decide) (by rw [← HPV.out]; rfl)).1
            go_upto_region 9 with fail
            clear k0 k1 k2 k3 k4
            generalize hwb : wr.alloc _ = w4
            replace H := HS.eqW hwb H.alloc
            try simp only [World.size_alloc, List.nil_append, List.cons_append, List.append_assoc] at H
            clear hwb
            generalize wr.heap.size = bP at H ⊢
            try clear C
            try clear wr
            have C := H.cells
            try simp only [cellsOf, cellsM, apartOf, apartM, and_true] at C
            go_wp2_with fail
            go_loopw [42] (fun kk wr => ∃ (k : Nat), kk = .int .i64 k ∧ k ≤ pg.length ∧ HS NoD w [.row (.slice (some ⟨g, 0, none⟩) rs.length d4) 52 5 rs.length (rs.flatMap pvC), .row (.slice pb pg.length pc) 49 3 pg.length ((mix (mv1 a b) k pg).flatMap pgC), .row (.slice tb td.length tc) 3 1 td.length (td.flatMap iC), Item.many (restB (mix (moveV a b) j rs) j), .blk bP #[.int .i64 pi, .bool pt, .bool pd, .slice pb pg.length pc, .slice tb td.length tc] 52] wr) (fun kk _ => pg.length - (intOf kk).toNat)
            case atStart => exact ⟨0, rfl, Nat.zero_le _, by rw [mix_zero]; exact H⟩
            case round =>
              clear H C
              obtain ⟨k, rfl, hk, H⟩ := hrel
              rename_i wk _ _
              skip
              try clear C
              try simp only [World.size_alloc, List.nil_append, List.cons_append, List.append_assoc] at H
              have C := H.cells
              try simp only [cellsOf, cellsM, apartOf, apartM, and_true] at C
              by_cases hlk : k < pg.length
              · obtain ⟨h, rfl, hh, hcp⟩ := ownsRow_ptr (H.at 1 rfl) (by omega)
                obtain ⟨xo, hxo⟩ : ∃ x, x = pg[k]! := ⟨_, rfl⟩
                have p1 := H.pageCell 1 rfl (mix_len (mv1 a b) k pg).symm (i := k) (m := 1) (u := .int .i64 xo.f) (by rw [mix_len]; exact hlk) (by decide) (by rw [mix_at hlk, hxo]; rfl)
                obtain ⟨p1, p1f⟩ := p1
                have HXO := Lib.hid hxo
                clear hxo
                by_cases hq : xo.f = a
                · have hfl : (mix (mv1 a b) (k + 1) pg).flatMap pgC = ((mix (mv1 a b) k pg).flatMap pgC).set (k * 3 + 1) (.int .i64 b) := by
                    rw [mix_succ hlk]
                    exact flat_set pgC_len (mix (mv1 a b) k pg) k 1 _ (.int .i64 b) (by rw [mix_len]; exact hlk) (by decide) (by rw [mix_at hlk, ← HXO.out]; unfold mv1; rw [if_pos hq]; rfl)
                  have HFL := Lib.hid hfl
                  clear hfl
                  go_wp2_with fail
                  clear p1 p1f
                  go_roundw
                  case rel =>
                    refine ⟨k + 1, by go_num, by omega, ?_⟩
                    have H9 := H.rowSet 1 rfl (k * 3 + 1) (.int .i64 b)
                    rw [HFL.out]
                    exact H9
                  case measure => simp [intOf]; omega
                · have HSA := Lib.hid (mix_same (g := mv1 a b) hlk (by rw [← HXO.out]; unfold mv1; rw [if_neg hq]))
                  go_wp2_with fail
                  clear p1 p1f
                  go_roundw
                  case rel => exact ⟨k + 1, by go_num, by omega, by rw [HSA.out]; exact H⟩
                  case measure => simp [intOf]; omega
              · have hke : k = pg.length := by omega
                subst hke
                rw [mix_all (Nat.le_refl _)] at H
                go_wp2_with fail
                obtain ⟨q', hq'⟩ : ∃ q' : Pv, q' = ⟨⟨pi, pt, pd, pg.map (mv1 a b), td⟩, .slice pb pg.length pc, .slice tb td.length tc⟩ := ⟨_, rfl⟩
                have hqm : q' = moveV a b rs[j]! := by rw [hq', ← HPV.out]; rfl
                have H9 := HS.less (L' := [.row (.slice (some ⟨g, 0, none⟩) rs.length d4) 52 5 rs.length (rs.flatMap pvC), .row (.slice pb pg.length pc) 49 3 pg.length ((pg.map (mv1 a b)).flatMap pgC), .row (.slice tb td.length tc) 3 1 td.length (td.flatMap iC), Item.many (restB (mix (moveV a b) j rs) j)]) H (by repeat (first | exact .slnil | refine .cons_cons _ ?_ | refine .cons _ ?_))
                have H10 := HS.shutAt (L := []) (g := g) (d := d4) (rs := mix (moveV a b) j rs) (i := j) (cells := rs.flatMap pvC) q' (by rw [mix_len, hq']; unfold pagesR toldR; dsimp only; rw [List.length_map]; exact H9) hjm (by rw [hqm, ← mix_succ hlt, moveV_flat])
                rw [mix_len, hqm, ← mix_succ hlt] at H10
                go_roundw
                case rel => exact ⟨j + 1, by go_num, by omega, H10⟩
                case measure => simp [intOf]; omega
          · have hje : j = rs.length := by omega
            subst hje
            rw [mix_all (Nat.le_refl _)] at H
            try clear C
            try simp only [World.size_alloc, List.nil_append, List.cons_append, List.append_assoc] at H
            have C := H.cells
            try simp only [cellsOf, cellsM, apartOf, apartM, and_true] at C
            go_wp2_with fail
            refine bodyPost_ret (by simp [results, Tryz.results69, go_sem, C]; try rfl) rfl ?_
            rw [HE.out]
            exact ⟨.slice sb rs.length d4, rs.map (moveV a b), rfl, by rw [← HRS.out, List.map_map, List.map_map]; rfl, H⟩
end Go.Proofs.YtedbpmckgiifpaaGreat
