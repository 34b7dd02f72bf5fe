/- Users, in both packages. -/
import Derived.Test.YtmnddnlabdafcaaO1
namespace Go.Proofs.Ytmnddnlabdafcaa
set_option linter.unusedSimpArgs false
set_option linter.unusedVariables false
open Go.RowKit
set_option maxRecDepth 100000
attribute [local go_sem] lt_more ne_more ne_more'
attribute [local irreducible] wpX wpF Calls

theorem infoUs : (Try.prog.info? 61).map (fun i => (i.zero, i.size, i.bytes)) = some (some (.agg #[.int .i64 0, .int .i64 0]), 2, 16) := by kernel_rfl
theorem elemUs : Elem Try.prog 47 61 (.agg #[.int .i64 0, .int .i64 0]) 2 16 := Elem.mk' Try.underlying47 infoUs rfl (by decide)
theorem infoPg : (Try.prog.info? 37).map (fun i => (i.zero, i.size, i.bytes)) = some (some (.agg #[.int .i64 0, .int .i64 0, .bool false]), 3, 24) := by kernel_rfl
theorem elemPg : Elem Try.prog 29 37 (.agg #[.int .i64 0, .int .i64 0, .bool false]) 3 24 := Elem.mk' Try.underlying29 infoPg rfl (by decide)
theorem infoPr : (Try.prog.info? 31).map (fun i => (i.zero, i.size, i.bytes)) = some (some (.agg #[.int .i64 0, .bool false, .bool false, .slice none 0 0, .slice none 0 0]), 5, 64) := by kernel_rfl
theorem elemPr : Elem Try.prog 25 31 (.agg #[.int .i64 0, .bool false, .bool false, .slice none 0 0, .slice none 0 0]) 5 64 := Elem.mk' Try.underlying25 infoPr rfl (by decide)
theorem infoN : (Try.prog.info? 3).map (fun i => (i.zero, i.size, i.bytes)) = some (some (.int .i64 0), 1, 8) := by kernel_rfl
theorem elemN : Elem Try.prog 22 3 (.int .i64 0) 1 8 := Elem.mk' Try.underlying22 infoN rfl (by decide)

/-- Lists that are not great. -/
def SmallP (ps : List Pr) : Prop := ps.length ≤ 1000 ∧ ∀ p ∈ ps, p.pages.length ≤ 1000 ∧ p.told.length ≤ 1000
def uC (u : Int × Int) : List Value := [.int .i64 u.1, .int .i64 u.2]
theorem uC_len (u : Int × Int) : (uC u).length = 2 := rfl
def usesOf (id : Int) (pg : List Pg) (f : Int) : List (Int × Int) := (pg.filter fun x => decide (x.f = f)).map fun x => (id, x.n)
theorem usersL_eq (ps : List Pr) (f : Int) : usersL ps f = ps.flatMap fun p => usesOf p.id p.pages f := rfl
theorem usesOf_len (id : Int) (pg : List Pg) (f : Int) : (usesOf id pg f).length ≤ pg.length := by unfold usesOf; rw [List.length_map]; exact List.length_filter_le _ _
theorem take_snoc {α : Type} [Inhabited α] {xs : List α} {j : Nat} (h : j < xs.length) : xs.take (j + 1) = xs.take j ++ [xs[j]!] := by
  rw [List.take_add_one, List.getElem?_eq_getElem h, getElem!_pos xs j h]; rfl
theorem usesOf_succ (id : Int) {pg : List Pg} (f : Int) {k : Nat} (h : k < pg.length) : usesOf id (pg.take (k + 1)) f = usesOf id (pg.take k) f ++ (if (pg[k]!).f = f then [(id, (pg[k]!).n)] else []) := by
  rw [take_snoc h]
  unfold usesOf
  rw [List.filter_append, List.map_append]
  congr 1
  generalize pg[k]! = x
  by_cases e : x.f = f <;> simp [e]
theorem usersL_succ {ps : List Pr} (f : Int) {j : Nat} (h : j < ps.length) : usersL (ps.take (j + 1)) f = usersL (ps.take j) f ++ usesOf (ps[j]!).id (ps[j]!).pages f := by
  rw [take_snoc h, usersL_eq, usersL_eq, List.flatMap_append]
  simp
set_option maxHeartbeats 4000000 in
theorem rusers_any (f : Int) {v : Value} {ps : List Pr} (hx : SmallP ps) (w : World) (hl : Ps w w.heap.size v ps) :
    Calls Try.prog 31 #[v, .int .i64 f] w (GivesS (fun v => v) 61 2 (usersL ps f).length ((usersL ps f).flatMap uC) w) := by
  obtain ⟨qs, rfl, ⟨sa, c, rfl, hc, hl⟩, hi⟩ := hl
  have hx1 : qs.length ≤ 1000 := by simpa using hx.1
  have HL := Lib.hid hl
  have HI := Lib.hid hi
  have HX0 := Lib.hid hx.2
  clear hl hi hx hc
  have HZ0 := Lib.hid (show (qs.map (·.p)).length = qs.length by simp)
  obtain ⟨ps, hps⟩ : ∃ ps, ps = qs.map (·.p) := ⟨_, rfl⟩
  rw [← hps] at HX0 HZ0 ⊢
  have HPS := Lib.hid hps
  clear hps
  go_enter Try.func31, Try.ntmps31
  have H := HS.start NoD w
  go_wp2_with fail
  have hn := H.nilRow 61 2
  clear H
  have H := hn
  clear hn
  try simp only [List.nil_append, List.cons_append] at H
  go_loopw [5, 12] (fun u i wr => ∃ (j : Nat) (us : List (Int × Int)), i = .int .i64 j ∧ j ≤ qs.length ∧ us.length ≤ 1000 * j ∧ Hid (us = usersL (ps.take j) f) ∧ HS NoD w [.row u 61 2 us.length (us.flatMap uC)] wr) (fun _ i _ => qs.length - (intOf i).toNat)
  case atStart => exact ⟨0, [], rfl, Nat.zero_le _, Nat.zero_le _, rfl, H⟩
  case round =>
    clear H
    obtain ⟨j, us, rfl, hj, hul, HU, H⟩ := hrel
    rename_i u _ _
    skip
    by_cases hlt : j < qs.length
    · obtain ⟨b, o, e0, hb, hc⟩ := (H.lies HL.out).at hlt
      cases e0
      have HM := Lib.hid (map_at hlt)
      have hpv := HI.out _ (mem_at hlt)
      obtain ⟨q, hxj⟩ : ∃ q, q = qs[j]! := ⟨_, rfl⟩
      rw [← hxj] at hc hpv
      have HX := Lib.hid hxj
      obtain ⟨⟨pi, pt, pd, pg, td⟩, pa, ta⟩ := q
      obtain ⟨⟨pb, pc, e1, hpc, hpl⟩, ⟨tb, tc, e2, htc, htl⟩⟩ := hpv
      have f1 : pa = .slice pb pg.length pc := e1
      have f2 : ta = .slice tb td.length tc := e2
      clear e1 e2
      subst f1 f2
      have HPG : Hid (Lies w w.heap.size pb 3 pg.length (fun j => pgC pg[j]!)) := hpl
      have HTD : Hid (Lies w w.heap.size tb 1 td.length (fun j => iC td[j]!)) := htl
      have HPC : Hid (pg.length ≤ pc ∧ (pb = none → pc = 0)) := hpc
      have HTC : Hid (td.length ≤ tc ∧ (tb = none → tc = 0)) := htc
      clear hpc htc
      clear hpl htl
      have c0 : wr.cell? ⟨b, o + j * 5, none⟩ = some (.int .i64 pi) := hc 0 _ rfl
      have c1 : wr.cell? ⟨b, o + j * 5 + 1, none⟩ = some (.bool pt) := hc 1 _ rfl
      have c2 : wr.cell? ⟨b, o + j * 5 + 2, none⟩ = some (.bool pd) := hc 2 _ rfl
      have c3 : wr.cell? ⟨b, o + j * 5 + 3, none⟩ = some (.slice pb pg.length pc) := hc 3 _ rfl
      have c4 : wr.cell? ⟨b, o + j * 5 + 4, none⟩ = some (.slice tb td.length tc) := hc 4 _ rfl
      clear hc hxj
      have HSU := Lib.hid (usersL_succ f (show j < ps.length by rw [HZ0.out]; exact hlt))
      have hpgl : pg.length ≤ 1000 := by
        have := (HX0.out _ (mem_at (show j < ps.length by rw [HZ0.out]; exact hlt))).1
        rw [HPS.out, HM.out, ← HX.out] at this
        exact this
      go_upto_region 5 with fail
      generalize hwb : wr.alloc _ = w1
      replace H := HS.eqW hwb H.alloc
      try simp only [World.size_alloc, List.nil_append, List.cons_append, List.append_assoc] at H
      clear hwb
      generalize wr.heap.size = bP at H ⊢
      try clear C
      try clear wr
      have C := H.cells
      try simp only [cellsOf, cellsM, apartOf, apartM, and_true] at C
      go_wp2_with fail
      go_loopw [5, 19] (fun u i wr => ∃ (k : Nat) (us' : List (Int × Int)), i = .int .i64 k ∧ k ≤ pg.length ∧ us'.length ≤ 1000 * j + k ∧ Hid (us' = us ++ usesOf pi (pg.take k) f) ∧ HS NoD w [.row u 61 2 us'.length (us'.flatMap uC), .blk bP #[.int .i64 pi, .bool pt, .bool pd, .slice pb pg.length pc, .slice tb td.length tc] 31] wr) (fun _ i _ => pg.length - (intOf i).toNat)
      case atStart => exact ⟨0, us, rfl, Nat.zero_le _, hul, by show us = us ++ usesOf pi [] f; simp [usesOf], H⟩
      case round =>
        clear H C
        obtain ⟨k, us', rfl, hk, hul', HU', H⟩ := hrel
        rename_i u' _ _
        skip
        try clear C
        try simp only [World.size_alloc, List.nil_append, List.cons_append, List.append_assoc] at H
        have C := H.cells
        try simp only [cellsOf, cellsM, apartOf, apartM, and_true] at C
        by_cases hlk : k < pg.length
        · obtain ⟨bg, og, rfl, hbg, hcg⟩ := (H.lies HPG.out).at hlk
          obtain ⟨g, hxg⟩ : ∃ q, q = pg[k]! := ⟨_, rfl⟩
          rw [← hxg] at hcg
          have HG := Lib.hid hxg
          obtain ⟨xn, xf, xs⟩ := g
          have d0 : wr.cell? ⟨bg, og + k * 3, none⟩ = some (.int .i64 xn) := hcg 0 _ rfl
          have d1 : wr.cell? ⟨bg, og + k * 3 + 1, none⟩ = some (.int .i64 xf) := hcg 1 _ rfl
          have d2 : wr.cell? ⟨bg, og + k * 3 + 2, none⟩ = some (.bool xs) := hcg 2 _ rfl
          clear hcg hxg
          have HSO := Lib.hid (usesOf_succ pi f hlk)
          go_upto_region 8 with fail
          generalize hwb : wr.alloc _ = w2
          replace H := HS.eqW hwb H.alloc
          try simp only [World.size_alloc, List.nil_append, List.cons_append, List.append_assoc] at H
          clear hwb
          generalize wr.heap.size = bG at H ⊢
          try clear C
          try clear wr
          have C := H.cells
          try simp only [cellsOf, cellsM, apartOf, apartM, and_true] at C
          by_cases hq : xf = f
          · subst hq
            go_upto_region 9 with fail
            go_wp2_with (at_builtin; refine wpList_append_H rfl (.tmp 27) (.tmp 33) 47 rfl elemUs H.alloc 0 rfl rfl 3 rfl rfl rfl rfl (by decide) (by unfold maxLen; omega) (by omega) (fun g cap wz HZ => ?_); clear H C)
            go_roundw
            case rel =>
              refine ⟨k + 1, us' ++ [(pi, xn)], by go_num, by omega, by simp; omega, (show Hid _ from ?_), ?_⟩
              · show us' ++ _ = us ++ usesOf pi (pg.take (k + 1)) xf
                rw [HSO.out, HU'.out, ← HG.out, if_pos rfl, List.append_assoc]
              · rw [List.length_append, List.flatMap_append]
                exact HZ.less (by repeat (first | exact .slnil | refine .cons_cons _ ?_ | refine .cons _ ?_))
            case measure => simp [intOf]; omega
          · go_wp2_with fail
            go_roundw
            case rel =>
              refine ⟨k + 1, us', by go_num, by omega, by omega, (show Hid _ from ?_), H.less (by repeat (first | exact .slnil | refine .cons_cons _ ?_ | refine .cons _ ?_))⟩
              show us' = us ++ usesOf pi (pg.take (k + 1)) f
              rw [HSO.out, HU'.out, ← HG.out, if_neg hq, List.append_nil]
            case measure => simp [intOf]; omega
        · go_wp2_with fail
          go_roundw
          case rel =>
            refine ⟨j + 1, us', by go_num, by omega, by omega, (show Hid _ from ?_), H.less (by repeat (first | exact .slnil | refine .cons_cons _ ?_ | refine .cons _ ?_))⟩
            show us' = usersL (ps.take (j + 1)) f
            rw [HSU.out, HU'.out, ← HU.out]
            have e : ps[j]! = ⟨pi, pt, pd, pg, td⟩ := by rw [HPS.out, HM.out, ← HX.out]
            rw [e, List.take_of_length_le (by omega)]
          case measure => simp [intOf]; omega
    · have hje : j = qs.length := by omega
      subst hje
      have e : us = usersL ps f := by rw [HU.out, List.take_of_length_le (by rw [HZ0.out]; exact Nat.le_refl _)]
      obtain ⟨sb, d, rfl⟩ := ownsRow_slice (H.at 0 rfl)
      go_wp2_with fail
      go_ret
      rw [← e]
      exact H.givesS 0 (mk := fun v => v) rfl
set_option maxHeartbeats 4000000 in
theorem ousers_any (f : Int) {v : Value} {ps : List Pr} (hx : SmallP ps) (w : World) (hl : Ps w w.heap.size v ps) :
    Calls Try.prog 26 #[v, .int .i64 f] w (GivesS (fun v => v) 61 2 (usersL ps f).length ((usersL ps f).flatMap uC) w) := by
  obtain ⟨qs, rfl, ⟨sa, c, rfl, hc, hl⟩, hi⟩ := hl
  have hx1 : qs.length ≤ 1000 := by simpa using hx.1
  have HL := Lib.hid hl
  have HI := Lib.hid hi
  have HX0 := Lib.hid hx.2
  clear hl hi hx hc
  have HZ0 := Lib.hid (show (qs.map (·.p)).length = qs.length by simp)
  obtain ⟨ps, hps⟩ : ∃ ps, ps = qs.map (·.p) := ⟨_, rfl⟩
  rw [← hps] at HX0 HZ0 ⊢
  have HPS := Lib.hid hps
  clear hps
  go_enter Try.func26, Try.ntmps26
  have H := HS.start NoD w
  go_wp2_with fail
  have hn := H.nilRow 61 2
  clear H
  have H := hn
  clear hn
  try simp only [List.nil_append, List.cons_append] at H
  go_loopw [5, 12] (fun u i wr => ∃ (j : Nat) (us : List (Int × Int)), i = .int .i64 j ∧ j ≤ qs.length ∧ us.length ≤ 1000 * j ∧ Hid (us = usersL (ps.take j) f) ∧ HS NoD w [.row u 61 2 us.length (us.flatMap uC)] wr) (fun _ i _ => qs.length - (intOf i).toNat)
  case atStart => exact ⟨0, [], rfl, Nat.zero_le _, Nat.zero_le _, rfl, H⟩
  case round =>
    clear H
    obtain ⟨j, us, rfl, hj, hul, HU, H⟩ := hrel
    rename_i u _ _
    skip
    by_cases hlt : j < qs.length
    · obtain ⟨b, o, e0, hb, hc⟩ := (H.lies HL.out).at hlt
      cases e0
      have HM := Lib.hid (map_at hlt)
      have hpv := HI.out _ (mem_at hlt)
      obtain ⟨q, hxj⟩ : ∃ q, q = qs[j]! := ⟨_, rfl⟩
      rw [← hxj] at hc hpv
      have HX := Lib.hid hxj
      obtain ⟨⟨pi, pt, pd, pg, td⟩, pa, ta⟩ := q
      obtain ⟨⟨pb, pc, e1, hpc, hpl⟩, ⟨tb, tc, e2, htc, htl⟩⟩ := hpv
      have f1 : pa = .slice pb pg.length pc := e1
      have f2 : ta = .slice tb td.length tc := e2
      clear e1 e2
      subst f1 f2
      have HPG : Hid (Lies w w.heap.size pb 3 pg.length (fun j => pgC pg[j]!)) := hpl
      have HTD : Hid (Lies w w.heap.size tb 1 td.length (fun j => iC td[j]!)) := htl
      have HPC : Hid (pg.length ≤ pc ∧ (pb = none → pc = 0)) := hpc
      have HTC : Hid (td.length ≤ tc ∧ (tb = none → tc = 0)) := htc
      clear hpc htc
      clear hpl htl
      have c0 : wr.cell? ⟨b, o + j * 5, none⟩ = some (.int .i64 pi) := hc 0 _ rfl
      have c1 : wr.cell? ⟨b, o + j * 5 + 1, none⟩ = some (.bool pt) := hc 1 _ rfl
      have c2 : wr.cell? ⟨b, o + j * 5 + 2, none⟩ = some (.bool pd) := hc 2 _ rfl
      have c3 : wr.cell? ⟨b, o + j * 5 + 3, none⟩ = some (.slice pb pg.length pc) := hc 3 _ rfl
      have c4 : wr.cell? ⟨b, o + j * 5 + 4, none⟩ = some (.slice tb td.length tc) := hc 4 _ rfl
      clear hc hxj
      have HSU := Lib.hid (usersL_succ f (show j < ps.length by rw [HZ0.out]; exact hlt))
      have hpgl : pg.length ≤ 1000 := by
        have := (HX0.out _ (mem_at (show j < ps.length by rw [HZ0.out]; exact hlt))).1
        rw [HPS.out, HM.out, ← HX.out] at this
        exact this
      go_upto_region 5 with fail
      generalize hwb : wr.alloc _ = w1
      replace H := HS.eqW hwb H.alloc
      try simp only [World.size_alloc, List.nil_append, List.cons_append, List.append_assoc] at H
      clear hwb
      generalize wr.heap.size = bP at H ⊢
      try clear C
      try clear wr
      have C := H.cells
      try simp only [cellsOf, cellsM, apartOf, apartM, and_true] at C
      go_wp2_with fail
      go_loopw [5, 19] (fun u i wr => ∃ (k : Nat) (us' : List (Int × Int)), i = .int .i64 k ∧ k ≤ pg.length ∧ us'.length ≤ 1000 * j + k ∧ Hid (us' = us ++ usesOf pi (pg.take k) f) ∧ HS NoD w [.row u 61 2 us'.length (us'.flatMap uC), .blk bP #[.int .i64 pi, .bool pt, .bool pd, .slice pb pg.length pc, .slice tb td.length tc] 31] wr) (fun _ i _ => pg.length - (intOf i).toNat)
      case atStart => exact ⟨0, us, rfl, Nat.zero_le _, hul, by show us = us ++ usesOf pi [] f; simp [usesOf], H⟩
      case round =>
        clear H C
        obtain ⟨k, us', rfl, hk, hul', HU', H⟩ := hrel
        rename_i u' _ _
        skip
        try clear C
        try simp only [World.size_alloc, List.nil_append, List.cons_append, List.append_assoc] at H
        have C := H.cells
        try simp only [cellsOf, cellsM, apartOf, apartM, and_true] at C
        by_cases hlk : k < pg.length
        · obtain ⟨bg, og, rfl, hbg, hcg⟩ := (H.lies HPG.out).at hlk
          obtain ⟨g, hxg⟩ : ∃ q, q = pg[k]! := ⟨_, rfl⟩
          rw [← hxg] at hcg
          have HG := Lib.hid hxg
          obtain ⟨xn, xf, xs⟩ := g
          have d0 : wr.cell? ⟨bg, og + k * 3, none⟩ = some (.int .i64 xn) := hcg 0 _ rfl
          have d1 : wr.cell? ⟨bg, og + k * 3 + 1, none⟩ = some (.int .i64 xf) := hcg 1 _ rfl
          have d2 : wr.cell? ⟨bg, og + k * 3 + 2, none⟩ = some (.bool xs) := hcg 2 _ rfl
          clear hcg hxg
          have HSO := Lib.hid (usesOf_succ pi f hlk)
          go_upto_region 8 with fail
          generalize hwb : wr.alloc _ = w2
          replace H := HS.eqW hwb H.alloc
          try simp only [World.size_alloc, List.nil_append, List.cons_append, List.append_assoc] at H
          clear hwb
          generalize wr.heap.size = bG at H ⊢
          try clear C
          try clear wr
          have C := H.cells
          try simp only [cellsOf, cellsM, apartOf, apartM, and_true] at C
          by_cases hq : xf = f
          · subst hq
            go_upto_region 9 with fail
            go_wp2_with (at_builtin; refine wpList_append_H rfl (.tmp 27) (.tmp 33) 47 rfl elemUs H.alloc 0 rfl rfl 3 rfl rfl rfl rfl (by decide) (by unfold maxLen; omega) (by omega) (fun g cap wz HZ => ?_); clear H C)
            go_roundw
            case rel =>
              refine ⟨k + 1, us' ++ [(pi, xn)], by go_num, by omega, by simp; omega, (show Hid _ from ?_), ?_⟩
              · show us' ++ _ = us ++ usesOf pi (pg.take (k + 1)) xf
                rw [HSO.out, HU'.out, ← HG.out, if_pos rfl, List.append_assoc]
              · rw [List.length_append, List.flatMap_append]
                exact HZ.less (by repeat (first | exact .slnil | refine .cons_cons _ ?_ | refine .cons _ ?_))
            case measure => simp [intOf]; omega
          · go_wp2_with fail
            go_roundw
            case rel =>
              refine ⟨k + 1, us', by go_num, by omega, by omega, (show Hid _ from ?_), H.less (by repeat (first | exact .slnil | refine .cons_cons _ ?_ | refine .cons _ ?_))⟩
              show us' = us ++ usesOf pi (pg.take (k + 1)) f
              rw [HSO.out, HU'.out, ← HG.out, if_neg hq, List.append_nil]
            case measure => simp [intOf]; omega
        · go_wp2_with fail
          go_roundw
          case rel =>
            refine ⟨j + 1, us', by go_num, by omega, by omega, (show Hid _ from ?_), H.less (by repeat (first | exact .slnil | refine .cons_cons _ ?_ | refine .cons _ ?_))⟩
            show us' = usersL (ps.take (j + 1)) f
            rw [HSU.out, HU'.out, ← HU.out]
            have e : ps[j]! = ⟨pi, pt, pd, pg, td⟩ := by rw [HPS.out, HM.out, ← HX.out]
            rw [e, List.take_of_length_le (by omega)]
          case measure => simp [intOf]; omega
    · have hje : j = qs.length := by omega
      subst hje
      have e : us = usersL ps f := by rw [HU.out, List.take_of_length_le (by rw [HZ0.out]; exact Nat.le_refl _)]
      obtain ⟨sb, d, rfl⟩ := ownsRow_slice (H.at 0 rfl)
      go_wp2_with fail
      go_ret
      rw [← e]
      exact H.givesS 0 (mk := fun v => v) rfl
end Go.Proofs.Ytmnddnlabdafcaa
