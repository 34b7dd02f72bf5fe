/- Several texts in one: O1, O2, O3, O4. -/
import Derived.Test.YtedbpmckgiifpaaGreatJ2
import Derived.Test.YtedbpmckgiifpaaGreatPart
import Derived.Test.YtedbpmckgiifpaaGreatJ3
/- The document's programs (memfaultref29): at, page, Users, unused. -/
namespace Go.Proofs.YtedbpmckgiifpaaGreat
set_option linter.unusedSimpArgs false
set_option linter.unusedVariables false
open Go.RowKit
set_option maxRecDepth 100000
attribute [local go_sem] lt_more ne_more ne_more'
attribute [local irreducible] wpX wpF Calls

theorem findIdx_first {α : Type} [Inhabited α] {p : α → Bool} : ∀ {xs : List α} {k : Nat}, k < xs.length → p xs[k]! = true → (∀ i, i < k → p xs[i]! = false) → xs.findIdx? p = some k
  | [], k, h, _, _ => by simp at h
  | x :: xs, 0, h, h1, _ => by
    have h1' : p x = true := by simpa using h1
    rw [List.findIdx?_cons, h1']; rfl
  | x :: xs, k + 1, h, h1, h2 => by
    have hx : p x = false := by simpa using h2 0 (by omega)
    have := findIdx_first (p := p) (xs := xs) (k := k) (by simpa using h) (by simpa using h1) (fun i hi => by simpa using h2 (i + 1) (by omega))
    rw [List.findIdx?_cons, hx, this]; rfl
theorem findIdx_none {α : Type} [Inhabited α] {p : α → Bool} {xs : List α} (h : ∀ i, i < xs.length → p xs[i]! = false) : xs.findIdx? p = none := by
  rw [List.findIdx?_eq_none_iff]
  intro x hx
  obtain ⟨i, hi, rfl⟩ := List.getElem_of_mem hx
  have := h i hi
  rwa [getElem!_pos xs i hi] at this
theorem map_at {qs : List Pv} {j : Nat} (h : j < qs.length) : (qs.map (·.p))[j]! = (qs[j]!).p := by
  rw [getElem!_pos _ j (by simpa using h), getElem!_pos qs j h, List.getElem_map]
theorem mem_at {α : Type} [Inhabited α] {xs : List α} {j : Nat} (h : j < xs.length) : xs[j]! ∈ xs := by
  rw [getElem!_pos xs j h]; exact List.getElem_mem h
/-- A program as an argument. -/
def vPr (q : Pv) : Value := .agg #[.int .i64 q.p.id, .bool q.p.tells, .bool q.p.dead, q.pa, q.ta]
set_option maxHeartbeats 2000000 in
theorem rat_any (id : Int) {v : Value} {ps : List Pr} (hx : ps.length ≤ 1000) (w : World) (hl : Ps w w.heap.size v ps) :
    Calls Tryz.prog 56 #[v, .int .i64 id] w (Gives (.int .i64 (idx? (ps.findIdx? (live id)))) w) := by
  obtain ⟨qs, rfl, ⟨sa, c, rfl, hc, hl⟩, hi⟩ := hl
  rw [List.length_map] at hx
  have HL := Lib.hid hl
  have HI := Lib.hid hi
  clear hl hi hc
  obtain ⟨r, hr⟩ : ∃ r, r = idx? ((qs.map (·.p)).findIdx? (live id)) := ⟨_, rfl⟩
  rw [← hr]
  have HR := Lib.hid hr
  clear hr
  go_enter Tryz.func56, Tryz.ntmps56
  have H := HS.start NoD w
  go_wp2_with fail
  go_loopw [9] (fun i wr => ∃ (j : Nat), i = .int .i64 j ∧ j ≤ qs.length ∧ Hid (∀ i, i < j → live id (qs[i]!).p = false) ∧ HS NoD w [] wr) (fun i _ => qs.length - (intOf i).toNat)
  case atStart => exact ⟨0, rfl, Nat.zero_le _, fun i hi => absurd hi (Nat.not_lt_zero _), H⟩
  case round =>
    clear H
    obtain ⟨j, rfl, hj, HF, H⟩ := hrel
    skip
    by_cases hlt : j < qs.length
    · obtain ⟨b, o, e0, hb, hc⟩ := (H.lies HL.out).at hlt
      cases e0
      have HM := Lib.hid (map_at hlt)
      have hpv := HI.out _ (mem_at hlt)
      obtain ⟨q, hxj⟩ : ∃ q, q = qs[j]! := ⟨_, rfl⟩
      rw [← hxj] at hc hpv
      have HX := Lib.hid hxj
      obtain ⟨⟨pi, pt, pd, pg, td⟩, pa, ta⟩ := q
      obtain ⟨⟨pb, pc, e1, hpc, hpl⟩, ⟨tb, tc, e2, htc, htl⟩⟩ := hpv
      have f1 : pa = .slice pb pg.length pc := e1
      have f2 : ta = .slice tb td.length tc := e2
      clear e1 e2
      subst f1 f2
      have HPG : Hid (Lies w w.heap.size pb 3 pg.length (fun j => pgC pg[j]!)) := hpl
      have HTD : Hid (Lies w w.heap.size tb 1 td.length (fun j => iC td[j]!)) := htl
      have HPC : Hid (pg.length ≤ pc ∧ (pb = none → pc = 0)) := hpc
      have HTC : Hid (td.length ≤ tc ∧ (tb = none → tc = 0)) := htc
      clear hpc htc
      clear hpl htl
      have c0 : wr.cell? ⟨b, o + j * 5, none⟩ = some (.int .i64 pi) := hc 0 _ rfl
      have c1 : wr.cell? ⟨b, o + j * 5 + 1, none⟩ = some (.bool pt) := hc 1 _ rfl
      have c2 : wr.cell? ⟨b, o + j * 5 + 2, none⟩ = some (.bool pd) := hc 2 _ rfl
      have c3 : wr.cell? ⟨b, o + j * 5 + 3, none⟩ = some (.slice pb pg.length pc) := hc 3 _ rfl
      have c4 : wr.cell? ⟨b, o + j * 5 + 4, none⟩ = some (.slice tb td.length tc) := hc 4 _ rfl
      clear hc hxj
      go_upto_region 4 with fail
      generalize hwb : wr.alloc _ = w1
      replace H := HS.eqW hwb H.alloc
      try simp only [World.size_alloc, List.nil_append, List.cons_append, List.append_assoc] at H
      clear hwb
      generalize wr.heap.size = bP at H ⊢
      try clear C
      try clear wr
      have C := H.cells
      try simp only [cellsOf, cellsM, apartOf, apartM, and_true] at C
      by_cases hq : pi = id ∧ pd = false
      · obtain ⟨rfl, rfl⟩ := hq
        go_wp2_with fail
        go_ret
        exact ⟨ret_int (by rw [HR.out, findIdx_first (k := j) (by simpa using hlt) (by rw [HM.out, ← HX.out]; simp [live]) (fun i hi => by rw [map_at (by omega)]; exact HF.out i hi)]; rfl), H.done⟩
      · have HQ := Lib.hid hq
        have h2 : pi = id → pd = true := fun e => by cases pd with
          | true => rfl
          | false => exact absurd ⟨e, rfl⟩ hq
        clear hq
        by_cases hp : pi = id
        · obtain rfl := h2 hp
          go_wp2_with fail
          go_roundw
          case rel =>
            refine ⟨j + 1, by go_num, by omega, (show Hid _ from fun i hi => ?_), H.less (by repeat (first | exact .slnil | refine .cons_cons _ ?_ | refine .cons _ ?_))⟩
            rcases Nat.lt_succ_iff_lt_or_eq.1 hi with hi | rfl
            · exact HF.out i hi
            · rw [← HX.out]; simp [live]
          case measure => simp [intOf]; omega
        · go_wp2_with fail
          go_roundw
          case rel =>
            refine ⟨j + 1, by go_num, by omega, (show Hid _ from fun i hi => ?_), H.less (by repeat (first | exact .slnil | refine .cons_cons _ ?_ | refine .cons _ ?_))⟩
            rcases Nat.lt_succ_iff_lt_or_eq.1 hi with hi | rfl
            · exact HF.out i hi
            · rw [← HX.out]; simp [live, hp]
          case measure => simp [intOf]; omega
    · go_wp2_with fail
      go_ret
      exact ⟨ret_int (by rw [HR.out, findIdx_none fun i hi => by rw [map_at (by simpa using hi)]; exact HF.out i (by simp at hi; omega)]; rfl), H.done⟩
theorem rpage_any (n : Int) {q : Pv} (hx : q.p.pages.length ≤ 1000) (w : World) (hl : PvAt w w.heap.size q) :
    Calls Tryz.prog 60 #[vPr q, .int .i64 n] w (Gives (.int .i64 (idx? (q.p.pages.findIdx? (numb n)))) w) := by
  obtain ⟨⟨pi, pt, pd, pg, td⟩, pa, ta⟩ := q
  obtain ⟨⟨pb, pc, e1, hpc, hpl⟩, ⟨tb, tc, e2, htc, -⟩⟩ := hl
  have f1 : pa = .slice pb pg.length pc := e1
  have f2 : ta = .slice tb td.length tc := e2
  clear e1 e2
  subst f1 f2
  have hx : pg.length ≤ 1000 := hx
  have HL : Hid (Lies w w.heap.size pb 3 pg.length (fun j => pgC pg[j]!)) := hpl
  obtain ⟨r, hr⟩ : ∃ r, r = idx? (pg.findIdx? (numb n)) := ⟨_, rfl⟩
  show Calls Tryz.prog 60 #[.agg #[.int .i64 pi, .bool pt, .bool pd, .slice pb pg.length pc, .slice tb td.length tc], .int .i64 n] w (Gives (.int .i64 (idx? (pg.findIdx? (numb n)))) w)
  rw [← hr]
  have HR := Lib.hid hr
  clear hr hpl
  go_enter Tryz.func60, Tryz.ntmps60
  have H := HS.start NoD w
  go_wp2_with fail
  generalize hwb : w.alloc _ = w1
  replace H := HS.eqW hwb H.alloc
  try simp only [World.size_alloc, List.nil_append, List.cons_append, List.append_assoc] at H
  clear hwb
  generalize w.heap.size = bX at H ⊢
  try clear C
  have C := H.cells
  try simp only [cellsOf, cellsM, apartOf, apartM, and_true] at C
  go_loopw [10] (fun i wr => ∃ (j : Nat), i = .int .i64 j ∧ j ≤ pg.length ∧ Hid (∀ i, i < j → numb n pg[i]! = false) ∧ HS NoD w [] wr) (fun i _ => pg.length - (intOf i).toNat)
  case atStart => exact ⟨0, rfl, Nat.zero_le _, fun i hi => absurd hi (Nat.not_lt_zero _), H.less (by repeat (first | exact .slnil | refine .cons_cons _ ?_ | refine .cons _ ?_))⟩
  case round =>
    clear H C
    obtain ⟨j, rfl, hj, HF, H⟩ := hrel
    skip
    by_cases hlk : j < pg.length
    · have HPG := HL
      obtain ⟨bg, og, rfl, hbg, hcg⟩ := (H.lies HPG.out).at hlk
      obtain ⟨g, hxg⟩ : ∃ q, q = pg[j]! := ⟨_, rfl⟩
      rw [← hxg] at hcg
      have HG := Lib.hid hxg
      obtain ⟨xn, xf, xs⟩ := g
      have d0 : wr.cell? ⟨bg, og + j * 3, none⟩ = some (.int .i64 xn) := hcg 0 _ rfl
      have d1 : wr.cell? ⟨bg, og + j * 3 + 1, none⟩ = some (.int .i64 xf) := hcg 1 _ rfl
      have d2 : wr.cell? ⟨bg, og + j * 3 + 2, none⟩ = some (.bool xs) := hcg 2 _ rfl
      clear hcg hxg
      by_cases hq : xn = n
      · subst hq
        go_wp2_with fail
        go_ret
        exact ⟨ret_int (by rw [HR.out, findIdx_first hlk (by rw [← HG.out]; simp [numb]) HF.out]; rfl), H.alloc.done⟩
      · go_wp2_with fail
        go_roundw
        case rel =>
          refine ⟨j + 1, by go_num, by omega, (show Hid _ from fun i hi => ?_), H.alloc.less (by repeat (first | exact .slnil | refine .cons_cons _ ?_ | refine .cons _ ?_))⟩
          rcases Nat.lt_succ_iff_lt_or_eq.1 hi with hi | rfl
          · exact HF.out i hi
          · rw [← HG.out]; simp [numb, hq]
        case measure => simp [intOf]; omega
    · go_wp2_with fail
      go_ret
      exact ⟨ret_int (by rw [HR.out, findIdx_none fun i hi => HF.out i (by omega)]; rfl), H.done⟩
end Go.Proofs.YtedbpmckgiifpaaGreat

/- Users, in both packages. -/
namespace Go.Proofs.YtedbpmckgiifpaaGreat
set_option linter.unusedSimpArgs false
set_option linter.unusedVariables false
open Go.RowKit
set_option maxRecDepth 100000
attribute [local go_sem] lt_more ne_more ne_more'
attribute [local irreducible] wpX wpF Calls

theorem infoUs : (Tryz.prog.info? 37).map (fun i => (i.zero, i.size, i.bytes)) = some (some (.agg #[.int .i64 0, .int .i64 0]), 2, 16) := by kernel_rfl
theorem elemUs : Elem Tryz.prog 34 37 (.agg #[.int .i64 0, .int .i64 0]) 2 16 := Elem.mk' Tryz.underlying34 infoUs rfl (by decide)
theorem infoPg : (Tryz.prog.info? 49).map (fun i => (i.zero, i.size, i.bytes)) = some (some (.agg #[.int .i64 0, .int .i64 0, .bool false]), 3, 24) := by kernel_rfl
theorem elemPg : Elem Tryz.prog 50 49 (.agg #[.int .i64 0, .int .i64 0, .bool false]) 3 24 := Elem.mk' Tryz.underlying50 infoPg rfl (by decide)
theorem infoPr : (Tryz.prog.info? 52).map (fun i => (i.zero, i.size, i.bytes)) = some (some (.agg #[.int .i64 0, .bool false, .bool false, .slice none 0 0, .slice none 0 0]), 5, 64) := by kernel_rfl
theorem elemPr : Elem Tryz.prog 28 52 (.agg #[.int .i64 0, .bool false, .bool false, .slice none 0 0, .slice none 0 0]) 5 64 := Elem.mk' Tryz.underlying28 infoPr rfl (by decide)
theorem infoN : (Tryz.prog.info? 3).map (fun i => (i.zero, i.size, i.bytes)) = some (some (.int .i64 0), 1, 8) := by kernel_rfl
theorem elemN : Elem Tryz.prog 22 3 (.int .i64 0) 1 8 := Elem.mk' Tryz.underlying22 infoN rfl (by decide)

/-- Lists that are not great. -/
def SmallP (ps : List Pr) : Prop := ps.length ≤ 1000 ∧ ∀ p ∈ ps, p.pages.length ≤ 1000 ∧ p.told.length ≤ 1000
def uC (u : Int × Int) : List Value := [.int .i64 u.1, .int .i64 u.2]
theorem uC_len (u : Int × Int) : (uC u).length = 2 := rfl
def usesOf (id : Int) (pg : List Pg) (f : Int) : List (Int × Int) := (pg.filter fun x => decide (x.f = f)).map fun x => (id, x.n)
theorem usersL_eq (ps : List Pr) (f : Int) : usersL ps f = ps.flatMap fun p => usesOf p.id p.pages f := rfl
theorem usesOf_len (id : Int) (pg : List Pg) (f : Int) : (usesOf id pg f).length ≤ pg.length := by unfold usesOf; rw [List.length_map]; exact List.length_filter_le _ _
theorem take_snoc {α : Type} [Inhabited α] {xs : List α} {j : Nat} (h : j < xs.length) : xs.take (j + 1) = xs.take j ++ [xs[j]!] := by
  rw [List.take_add_one, List.getElem?_eq_getElem h, getElem!_pos xs j h]; rfl
theorem usesOf_succ (id : Int) {pg : List Pg} (f : Int) {k : Nat} (h : k < pg.length) : usesOf id (pg.take (k + 1)) f = usesOf id (pg.take k) f ++ (if (pg[k]!).f = f then [(id, (pg[k]!).n)] else []) := by
  rw [take_snoc h]
  unfold usesOf
  rw [List.filter_append, List.map_append]
  congr 1
  generalize pg[k]! = x
  by_cases e : x.f = f <;> simp [e]
theorem usersL_succ {ps : List Pr} (f : Int) {j : Nat} (h : j < ps.length) : usersL (ps.take (j + 1)) f = usersL (ps.take j) f ++ usesOf (ps[j]!).id (ps[j]!).pages f := by
  rw [take_snoc h, usersL_eq, usersL_eq, List.flatMap_append]
  simp
set_option maxHeartbeats 4000000 in
theorem rusers_any (f : Int) {v : Value} {ps : List Pr} (hx : SmallP ps) (w : World) (hl : Ps w w.heap.size v ps) :
    Calls Tryz.prog 9 #[v, .int .i64 f] w (GivesS (fun v => v) 37 2 (usersL ps f).length ((usersL ps f).flatMap uC) w) := by
  obtain ⟨qs, rfl, ⟨sa, c, rfl, hc, hl⟩, hi⟩ := hl
  have hx1 : qs.length ≤ 1000 := by simpa using hx.1
  have HL := Lib.hid hl
  have HI := Lib.hid hi
  have HX0 := Lib.hid hx.2
  clear hl hi hx hc
  have HZ0 := Lib.hid (show (qs.map (·.p)).length = qs.length by simp)
  obtain ⟨ps, hps⟩ : ∃ ps, ps = qs.map (·.p) := ⟨_, rfl⟩
  rw [← hps] at HX0 HZ0 ⊢
  have HPS := Lib.hid hps
  clear hps
  go_enter Tryz.func9, Tryz.ntmps9
  have H := HS.start NoD w
  go_wp2_with fail
  have hn := H.nilRow 37 2
  clear H
  have H := hn
  clear hn
  try simp only [List.nil_append, List.cons_append] at H
  go_loopw [5, 12] (fun u i wr => ∃ (j : Nat) (us : List (Int × Int)), i = .int .i64 j ∧ j ≤ qs.length ∧ us.length ≤ 1000 * j ∧ Hid (us = usersL (ps.take j) f) ∧ HS NoD w [.row u 37 2 us.length (us.flatMap uC)] wr) (fun _ i _ => qs.length - (intOf i).toNat)
  case atStart => exact ⟨0, [], rfl, Nat.zero_le _, Nat.zero_le _, rfl, H⟩
  case round =>
    clear H
    obtain ⟨j, us, rfl, hj, hul, HU, H⟩ := hrel
    rename_i u _ _
    skip
    by_cases hlt : j < qs.length
    · obtain ⟨b, o, e0, hb, hc⟩ := (H.lies HL.out).at hlt
      cases e0
      have HM := Lib.hid (map_at hlt)
      have hpv := HI.out _ (mem_at hlt)
      obtain ⟨q, hxj⟩ : ∃ q, q = qs[j]! := ⟨_, rfl⟩
      rw [← hxj] at hc hpv
      have HX := Lib.hid hxj
      obtain ⟨⟨pi, pt, pd, pg, td⟩, pa, ta⟩ := q
      obtain ⟨⟨pb, pc, e1, hpc, hpl⟩, ⟨tb, tc, e2, htc, htl⟩⟩ := hpv
      have f1 : pa = .slice pb pg.length pc := e1
      have f2 : ta = .slice tb td.length tc := e2
      clear e1 e2
      subst f1 f2
      have HPG : Hid (Lies w w.heap.size pb 3 pg.length (fun j => pgC pg[j]!)) := hpl
      have HTD : Hid (Lies w w.heap.size tb 1 td.length (fun j => iC td[j]!)) := htl
      have HPC : Hid (pg.length ≤ pc ∧ (pb = none → pc = 0)) := hpc
      have HTC : Hid (td.length ≤ tc ∧ (tb = none → tc = 0)) := htc
      clear hpc htc
      clear hpl htl
      have c0 : wr.cell? ⟨b, o + j * 5, none⟩ = some (.int .i64 pi) := hc 0 _ rfl
      have c1 : wr.cell? ⟨b, o + j * 5 + 1, none⟩ = some (.bool pt) := hc 1 _ rfl
      have c2 : wr.cell? ⟨b, o + j * 5 + 2, none⟩ = some (.bool pd) := hc 2 _ rfl
      have c3 : wr.cell? ⟨b, o + j * 5 + 3, none⟩ = some (.slice pb pg.length pc) := hc 3 _ rfl
      have c4 : wr.cell? ⟨b, o + j * 5 + 4, none⟩ = some (.slice tb td.length tc) := hc 4 _ rfl
      clear hc hxj
      have HSU := Lib.hid (usersL_succ f (show j < ps.length by rw [HZ0.out]; exact hlt))
      have hpgl : pg.length ≤ 1000 := by
        have := (HX0.out _ (mem_at (show j < ps.length by rw [HZ0.out]; exact hlt))).1
        rw [HPS.out, HM.out, ← HX.out] at this
        exact this
      go_upto_region 5 with fail
      generalize hwb : wr.alloc _ = w1
      replace H := HS.eqW hwb H.alloc
      try simp only [World.size_alloc, List.nil_append, List.cons_append, List.append_assoc] at H
      clear hwb
      generalize wr.heap.size = bP at H ⊢
      try clear C
      try clear wr
      have C := H.cells
      try simp only [cellsOf, cellsM, apartOf, apartM, and_true] at C
      go_wp2_with fail
      go_loopw [5, 19] (fun u i wr => ∃ (k : Nat) (us' : List (Int × Int)), i = .int .i64 k ∧ k ≤ pg.length ∧ us'.length ≤ 1000 * j + k ∧ Hid (us' = us ++ usesOf pi (pg.take k) f) ∧ HS NoD w [.row u 37 2 us'.length (us'.flatMap uC), .blk bP #[.int .i64 pi, .bool pt, .bool pd, .slice pb pg.length pc, .slice tb td.length tc] 52] wr) (fun _ i _ => pg.length - (intOf i).toNat)
      case atStart => exact ⟨0, us, rfl, Nat.zero_le _, hul, by show us = us ++ usesOf pi [] f; simp [usesOf], H⟩
      case round =>
        clear H C
        obtain ⟨k, us', rfl, hk, hul', HU', H⟩ := hrel
        rename_i u' _ _
        skip
        try clear C
        try simp only [World.size_alloc, List.nil_append, List.cons_append, List.append_assoc] at H
        have C := H.cells
        try simp only [cellsOf, cellsM, apartOf, apartM, and_true] at C
        by_cases hlk : k < pg.length
        · obtain ⟨bg, og, rfl, hbg, hcg⟩ := (H.lies HPG.out).at hlk
          obtain ⟨g, hxg⟩ : ∃ q, q = pg[k]! := ⟨_, rfl⟩
          rw [← hxg] at hcg
          have HG := Lib.hid hxg
          obtain ⟨xn, xf, xs⟩ := g
          have d0 : wr.cell? ⟨bg, og + k * 3, none⟩ = some (.int .i64 xn) := hcg 0 _ rfl
          have d1 : wr.cell? ⟨bg, og + k * 3 + 1, none⟩ = some (.int .i64 xf) := hcg 1 _ rfl
          have d2 : wr.cell? ⟨bg, og + k * 3 + 2, none⟩ = some (.bool xs) := hcg 2 _ rfl
          clear hcg hxg
          have HSO := Lib.hid (usesOf_succ pi f hlk)
          go_upto_region 8 with fail
          generalize hwb : wr.alloc _ = w2
          replace H := HS.eqW hwb H.alloc
          try simp only [World.size_alloc, List.nil_append, List.cons_append, List.append_assoc] at H
          clear hwb
          generalize wr.heap.size = bG at H ⊢
          try clear C
          try clear wr
          have C := H.cells
          try simp only [cellsOf, cellsM, apartOf, apartM, and_true] at C
          by_cases hq : xf = f
          · subst hq
            go_upto_region 9 with fail
            go_wp2_with (at_builtin; refine wpList_append_H rfl (.tmp 27) (.tmp 33) 34 rfl elemUs H.alloc 0 rfl rfl 3 rfl rfl rfl rfl (by decide) (by unfold maxLen; omega) (by omega) (fun g cap wz HZ => ?_); clear H C)
            go_roundw
            case rel =>
              refine ⟨k + 1, us' ++ [(pi, xn)], by go_num, by omega, by simp; omega, (show Hid _ from ?_), ?_⟩
              · show us' ++ _ = us ++ usesOf pi (pg.take (k + 1)) xf
                rw [HSO.out, HU'.out, ← HG.out, if_pos rfl, List.append_assoc]
              · rw [List.length_append, List.flatMap_append]
                exact HZ.less (by repeat (first | exact .slnil | refine .cons_cons _ ?_ | refine .cons _ ?_))
            case measure => simp [intOf]; omega
          · go_wp2_with fail
            go_roundw
            case rel =>
              refine ⟨k + 1, us', by go_num, by omega, by omega, (show Hid _ from ?_), H.less (by repeat (first | exact .slnil | refine .cons_cons _ ?_ | refine .cons _ ?_))⟩
              show us' = us ++ usesOf pi (pg.take (k + 1)) f
              rw [HSO.out, HU'.out, ← HG.out, if_neg hq, List.append_nil]
            case measure => simp [intOf]; omega
        · go_wp2_with fail
          go_roundw
          case rel =>
            refine ⟨j + 1, us', by go_num, by omega, by omega, (show Hid _ from ?_), H.less (by repeat (first | exact .slnil | refine .cons_cons _ ?_ | refine .cons _ ?_))⟩
            show us' = usersL (ps.take (j + 1)) f
            rw [HSU.out, HU'.out, ← HU.out]
            have e : ps[j]! = ⟨pi, pt, pd, pg, td⟩ := by rw [HPS.out, HM.out, ← HX.out]
            rw [e, List.take_of_length_le (by omega)]
          case measure => simp [intOf]; omega
    · have hje : j = qs.length := by omega
      subst hje
      have e : us = usersL ps f := by rw [HU.out, List.take_of_length_le (by rw [HZ0.out]; exact Nat.le_refl _)]
      obtain ⟨sb, d, rfl⟩ := ownsRow_slice (H.at 0 rfl)
      go_wp2_with fail
      go_ret
      rw [← e]
      exact H.givesS 0 (mk := fun v => v) rfl
set_option maxHeartbeats 4000000 in
theorem ousers_any (f : Int) {v : Value} {ps : List Pr} (hx : SmallP ps) (w : World) (hl : Ps w w.heap.size v ps) :
    Calls Tryz.prog 44 #[v, .int .i64 f] w (GivesS (fun v => v) 37 2 (usersL ps f).length ((usersL ps f).flatMap uC) w) := by
  obtain ⟨qs, rfl, ⟨sa, c, rfl, hc, hl⟩, hi⟩ := hl
  have hx1 : qs.length ≤ 1000 := by simpa using hx.1
  have HL := Lib.hid hl
  have HI := Lib.hid hi
  have HX0 := Lib.hid hx.2
  clear hl hi hx hc
  have HZ0 := Lib.hid (show (qs.map (·.p)).length = qs.length by simp)
  obtain ⟨ps, hps⟩ : ∃ ps, ps = qs.map (·.p) := ⟨_, rfl⟩
  rw [← hps] at HX0 HZ0 ⊢
  have HPS := Lib.hid hps
  clear hps
  go_enter Tryz.func44, Tryz.ntmps44
  have H := HS.start NoD w
  go_wp2_with fail
  have hn := H.nilRow 37 2
  clear H
  have H := hn
  clear hn
  try simp only [List.nil_append, List.cons_append] at H
  go_loopw [5, 12] (fun u i wr => ∃ (j : Nat) (us : List (Int × Int)), i = .int .i64 j ∧ j ≤ qs.length ∧ us.length ≤ 1000 * j ∧ Hid (us = usersL (ps.take j) f) ∧ HS NoD w [.row u 37 2 us.length (us.flatMap uC)] wr) (fun _ i _ => qs.length - (intOf i).toNat)
  case atStart => exact ⟨0, [], rfl, Nat.zero_le _, Nat.zero_le _, rfl, H⟩
  case round =>
    clear H
    obtain ⟨j, us, rfl, hj, hul, HU, H⟩ := hrel
    rename_i u _ _
    skip
    by_cases hlt : j < qs.length
    · obtain ⟨b, o, e0, hb, hc⟩ := (H.lies HL.out).at hlt
      cases e0
      have HM := Lib.hid (map_at hlt)
      have hpv := HI.out _ (mem_at hlt)
      obtain ⟨q, hxj⟩ : ∃ q, q = qs[j]! := ⟨_, rfl⟩
      rw [← hxj] at hc hpv
      have HX := Lib.hid hxj
      obtain ⟨⟨pi, pt, pd, pg, td⟩, pa, ta⟩ := q
      obtain ⟨⟨pb, pc, e1, hpc, hpl⟩, ⟨tb, tc, e2, htc, htl⟩⟩ := hpv
      have f1 : pa = .slice pb pg.length pc := e1
      have f2 : ta = .slice tb td.length tc := e2
      clear e1 e2
      subst f1 f2
      have HPG : Hid (Lies w w.heap.size pb 3 pg.length (fun j => pgC pg[j]!)) := hpl
      have HTD : Hid (Lies w w.heap.size tb 1 td.length (fun j => iC td[j]!)) := htl
      have HPC : Hid (pg.length ≤ pc ∧ (pb = none → pc = 0)) := hpc
      have HTC : Hid (td.length ≤ tc ∧ (tb = none → tc = 0)) := htc
      clear hpc htc
      clear hpl htl
      have c0 : wr.cell? ⟨b, o + j * 5, none⟩ = some (.int .i64 pi) := hc 0 _ rfl
      have c1 : wr.cell? ⟨b, o + j * 5 + 1, none⟩ = some (.bool pt) := hc 1 _ rfl
      have c2 : wr.cell? ⟨b, o + j * 5 + 2, none⟩ = some (.bool pd) := hc 2 _ rfl
      have c3 : wr.cell? ⟨b, o + j * 5 + 3, none⟩ = some (.slice pb pg.length pc) := hc 3 _ rfl
      have c4 : wr.cell? ⟨b, o + j * 5 + 4, none⟩ = some (.slice tb td.length tc) := hc 4 _ rfl
      clear hc hxj
      have HSU := Lib.hid (usersL_succ f (show j < ps.length by rw [HZ0.out]; exact hlt))
      have hpgl : pg.length ≤ 1000 := by
        have := (HX0.out _ (mem_at (show j < ps.length by rw [HZ0.out]; exact hlt))).1
        rw [HPS.out, HM.out, ← HX.out] at this
        exact this
      go_upto_region 5 with fail
      generalize hwb : wr.alloc _ = w1
      replace H := HS.eqW hwb H.alloc
      try simp only [World.size_alloc, List.nil_append, List.cons_append, List.append_assoc] at H
      clear hwb
      generalize wr.heap.size = bP at H ⊢
      try clear C
      try clear wr
      have C := H.cells
      try simp only [cellsOf, cellsM, apartOf, apartM, and_true] at C
      go_wp2_with fail
      go_loopw [5, 19] (fun u i wr => ∃ (k : Nat) (us' : List (Int × Int)), i = .int .i64 k ∧ k ≤ pg.length ∧ us'.length ≤ 1000 * j + k ∧ Hid (us' = us ++ usesOf pi (pg.take k) f) ∧ HS NoD w [.row u 37 2 us'.length (us'.flatMap uC), .blk bP #[.int .i64 pi, .bool pt, .bool pd, .slice pb pg.length pc, .slice tb td.length tc] 52] wr) (fun _ i _ => pg.length - (intOf i).toNat)
      case atStart => exact ⟨0, us, rfl, Nat.zero_le _, hul, by show us = us ++ usesOf pi [] f; simp [usesOf], H⟩
      case round =>
        clear H C
        obtain ⟨k, us', rfl, hk, hul', HU', H⟩ := hrel
        rename_i u' _ _
        skip
        try clear C
        try simp only [World.size_alloc, List.nil_append, List.cons_append, List.append_assoc] at H
        have C := H.cells
        try simp only [cellsOf, cellsM, apartOf, apartM, and_true] at C
        by_cases hlk : k < pg.length
        · obtain ⟨bg, og, rfl, hbg, hcg⟩ := (H.lies HPG.out).at hlk
          obtain ⟨g, hxg⟩ : ∃ q, q = pg[k]! := ⟨_, rfl⟩
          rw [← hxg] at hcg
          have HG := Lib.hid hxg
          obtain ⟨xn, xf, xs⟩ := g
          have d0 : wr.cell? ⟨bg, og + k * 3, none⟩ = some (.int .i64 xn) := hcg 0 _ rfl
          have d1 : wr.cell? ⟨bg, og + k * 3 + 1, none⟩ = some (.int .i64 xf) := hcg 1 _ rfl
          have d2 : wr.cell? ⟨bg, og + k * 3 + 2, none⟩ = some (.bool xs) := hcg 2 _ rfl
          clear hcg hxg
          have HSO := Lib.hid (usesOf_succ pi f hlk)
          go_upto_region 8 with fail
          generalize hwb : wr.alloc _ = w2
          replace H := HS.eqW hwb H.alloc
          try simp only [World.size_alloc, List.nil_append, List.cons_append, List.append_assoc] at H
          clear hwb
          generalize wr.heap.size = bG at H ⊢
          try clear C
          try clear wr
          have C := H.cells
          try simp only [cellsOf, cellsM, apartOf, apartM, and_true] at C
          by_cases hq : xf = f
          · subst hq
            go_upto_region 9 with fail
            go_wp2_with (at_builtin; refine wpList_append_H rfl (.tmp 27) (.tmp 33) 34 rfl elemUs H.alloc 0 rfl rfl 3 rfl rfl rfl rfl (by decide) (by unfold maxLen; omega) (by omega) (fun g cap wz HZ => ?_); clear H C)
            go_roundw
            case rel =>
              refine ⟨k + 1, us' ++ [(pi, xn)], by go_num, by omega, by simp; omega, (show Hid _ from ?_), ?_⟩
              · show us' ++ _ = us ++ usesOf pi (pg.take (k + 1)) xf
                rw [HSO.out, HU'.out, ← HG.out, if_pos rfl, List.append_assoc]
              · rw [List.length_append, List.flatMap_append]
                exact HZ.less (by repeat (first | exact .slnil | refine .cons_cons _ ?_ | refine .cons _ ?_))
            case measure => simp [intOf]; omega
          · go_wp2_with fail
            go_roundw
            case rel =>
              refine ⟨k + 1, us', by go_num, by omega, by omega, (show Hid _ from ?_), H.less (by repeat (first | exact .slnil | refine .cons_cons _ ?_ | refine .cons _ ?_))⟩
              show us' = us ++ usesOf pi (pg.take (k + 1)) f
              rw [HSO.out, HU'.out, ← HG.out, if_neg hq, List.append_nil]
            case measure => simp [intOf]; omega
        · go_wp2_with fail
          go_roundw
          case rel =>
            refine ⟨j + 1, us', by go_num, by omega, by omega, (show Hid _ from ?_), H.less (by repeat (first | exact .slnil | refine .cons_cons _ ?_ | refine .cons _ ?_))⟩
            show us' = usersL (ps.take (j + 1)) f
            rw [HSU.out, HU'.out, ← HU.out]
            have e : ps[j]! = ⟨pi, pt, pd, pg, td⟩ := by rw [HPS.out, HM.out, ← HX.out]
            rw [e, List.take_of_length_le (by omega)]
          case measure => simp [intOf]; omega
    · have hje : j = qs.length := by omega
      subst hje
      have e : us = usersL ps f := by rw [HU.out, List.take_of_length_le (by rw [HZ0.out]; exact Nat.le_refl _)]
      obtain ⟨sb, d, rfl⟩ := ownsRow_slice (H.at 0 rfl)
      go_wp2_with fail
      go_ret
      rw [← e]
      exact H.givesS 0 (mk := fun v => v) rfl
end Go.Proofs.YtedbpmckgiifpaaGreat

/- Copies of programs (memfaultref29). -/
namespace Go.Proofs.YtedbpmckgiifpaaGreat
set_option linter.unusedSimpArgs false
set_option linter.unusedVariables false
open Go.RowKit
set_option maxRecDepth 100000
attribute [local go_sem] lt_more ne_more ne_more'
attribute [local irreducible] wpX wpF Calls

section
variable {P : Program} {D : Nat → Prop} {W w : World} {L : List Item}
/-- 'append' of what lies anywhere onto a slice of one's own, as one step of a region that draws. -/
theorem step_append_src {ops : Array Oper} {o : Oper} {a : Act} {K : Act → World → Prop} {Q : Exit → Act → World → Prop} {E : Prop} (hgd : o.guard = none) (s x : Operand) (t : TypeId)
    (ho : o.op = .call { callee := .builtin .append, args := #[s, x], argTypes := #[t, t] }) {e : TypeId} {z : Value} {size bytes : Nat} (hE : Elem P t e z size bytes)
    (H : HS D W L w) (k : Nat) {v : Value} {n : Nat} {xs : List Value} (hk : L[k]? = some (.row v e size n xs)) (hs : a.eval s = v)
    {sa : Option Addr} {m c : Nat} {news : List Value} (hx : a.eval x = .slice sa m c) (hsrc : SrcOk w sa m c news) (hl : news.length = m * size) (h1 : ∀ y ∈ news, y.oneCell' = true) (h63 : n + m ≤ maxLen) (hbytes : (n + m) * bytes ≤ 140737488355328) {N : Nat} (hN : n + m = N)
    (h : ∀ s' c' w', HS D W (L.set k (.row (.slice s' N c') e size N (xs ++ news))) w' → w.grownBy w' v.ownBlock → K (a.put o.dst (.slice s' N c')) w') :
    if Region.wanted o (yielded ops a.tmps) = true then Oper.wp P o a w K Q else E := by
  subst hN
  have hw : Region.wanted o (yielded ops a.tmps) = true := by simp [Region.wanted, hgd]
  rw [if_pos hw]
  obtain ⟨v', w', h2, h3, h4, h5⟩ := run_append_src hE o.type H k hk hsrc hl h1 h63 hbytes
  have hlt : k < (L.set k (.row v' e size (n + m) (xs ++ news))).length := by rw [List.length_set]; exact (List.getElem?_eq_some_iff.1 hk).1
  have hrow : w'.ownsRow 0 e size v' (n + m) (xs ++ news) := h3.at k (A := .row v' e size (n + m) (xs ++ news)) (by rw [List.getElem?_set_self (by simpa using hlt)])
  obtain ⟨s', c', rfl⟩ := ownsRow_slice hrow
  unfold Oper.wp execOp
  simp only [ho, resolve, invoke, builtin, Sem.run_bind, Sem.run_pure, Result.andThen_ok, List.map_toArray, List.map_cons, List.map_nil, hs, hx, h2]
  exact h s' c' w' h3 h4
/-- The same at a plain region's list. -/
theorem wpList_append_src {ops : Array Oper} {rest : List Oper} {o : Oper} {a : Act} {Q : Exit → Act → World → Prop} (hgd : o.guard = none) (s x : Operand) (t : TypeId)
    (ho : o.op = .call { callee := .builtin .append, args := #[s, x], argTypes := #[t, t] }) {e : TypeId} {z : Value} {size bytes : Nat} (hE : Elem P t e z size bytes)
    (H : HS D W L w) (k : Nat) {v : Value} {n : Nat} {xs : List Value} (hk : L[k]? = some (.row v e size n xs)) (hs : a.eval s = v)
    {sa : Option Addr} {m c : Nat} {news : List Value} (hx : a.eval x = .slice sa m c) (hsrc : SrcOk w sa m c news) (hl : news.length = m * size) (h1 : ∀ y ∈ news, y.oneCell' = true) (h63 : n + m ≤ maxLen) (hbytes : (n + m) * bytes ≤ 140737488355328) {N : Nat} (hN : n + m = N)
    (h : ∀ s' c' w', HS D W (L.set k (.row (.slice s' N c') e size N (xs ++ news))) w' → w.grownBy w' v.ownBlock → wpList P ops Q rest (a.put o.dst (.slice s' N c')) w') : wpList P ops Q (o :: rest) a w :=
  wpList_plain hgd fun K hK => by
    have := step_append_src (ops := ops) (K := K) (Q := fun e a w => Q e a w) (E := True) hgd s x t ho hE H k hk hs hx hsrc hl h1 h63 hbytes hN fun s' c' w' h2 h3 => hK _ _ (h s' c' w' h2 h3)
    rwa [if_pos (by simp [Region.wanted, hgd])] at this
end
/-- What lies in memory, as append reads it. -/
theorem Lies.src {α : Type} [Inhabited α] {enc : α → List Value} {k : Nat} (hk : ∀ x, (enc x).length = k) (hpos : 0 < k) {w : World} {B c : Nat} {sa : Option Addr} {xs : List α} (hc : xs.length ≤ c) (hl : Lies w B sa k xs.length (fun j => enc xs[j]!)) (h0 : sa = none → c = 0) : SrcOk w sa xs.length c (xs.flatMap enc) := by
  cases sa with
  | none =>
    obtain rfl := h0 rfl
    have : xs.length = 0 := by omega
    exact .inl ⟨rfl, this, rfl⟩
  | some ad =>
    refine .inr ⟨ad, rfl, fun q y hq => ?_⟩
    have hq' : q < xs.length * k := by rw [← flat_len hk xs]; exact (List.getElem?_eq_some_iff.1 hq).1
    have hj : q / k < xs.length := Nat.div_lt_of_lt_mul (by rwa [Nat.mul_comm])
    obtain ⟨b, o, e, hb, hc2⟩ := hl.at hj
    injection e with e
    subst e
    have hr : q % k < (enc xs[q / k]!).length := by rw [hk]; exact Nat.mod_lt _ hpos
    have h1 : (enc xs[q / k]!)[q % k]? = some y := by
      have h2 := flat_get hk xs (q / k) (q % k) ((enc xs[q / k]!)[q % k]'hr) hj (List.getElem?_eq_getElem hr)
      rw [show q / k * k + q % k = q by rw [Nat.mul_comm]; exact Nat.div_add_mod q k, hq] at h2
      rw [List.getElem?_eq_getElem hr]; exact h2.symm
    have h3 := hc2 _ _ h1
    rw [Nat.add_assoc, show q / k * k + q % k = q by rw [Nat.mul_comm]; exact Nat.div_add_mod q k] at h3
    have hadd : (⟨b, o, none⟩ : Addr).add q = ⟨b, o + q, none⟩ := by unfold Addr.add; split <;> simp_all
    rw [hadd]
    exact h3
theorem pgC_one (xs : List Pg) : ∀ y ∈ xs.flatMap pgC, y.oneCell' = true := fun y hy => by
  obtain ⟨x, hx, h⟩ := List.mem_flatMap.1 hy
  simp only [pgC, List.mem_cons, List.mem_nil_iff, or_false] at h
  rcases h with rfl | rfl | rfl <;> rfl
theorem iC_one (xs : List Int) : ∀ y ∈ xs.flatMap iC, y.oneCell' = true := fun y hy => by
  obtain ⟨x, hx, h⟩ := List.mem_flatMap.1 hy
  simp only [iC, List.mem_cons, List.mem_nil_iff, or_false] at h
  rcases h with rfl; rfl
theorem rcopyOne_any {q : Pv} (hx : q.p.pages.length ≤ 1000 ∧ q.p.told.length ≤ 1000) (w : World) (hl : PvAt w w.heap.size q) :
    Calls Tryz.prog 49 #[vPr q] w (fun x w' => ∃ s1 c1 s2 c2, x = .returned (vPr ⟨q.p, .slice s1 q.p.pages.length c1, .slice s2 q.p.told.length c2⟩) ∧ HS NoD w [Item.many (innerR ⟨q.p, .slice s1 q.p.pages.length c1, .slice s2 q.p.told.length c2⟩)] w') := by
  obtain ⟨⟨pi, pt, pd, pg, td⟩, pa, ta⟩ := q
  obtain ⟨⟨pb, pc, e1, hpc, hpl⟩, ⟨tb, tc, e2, htc, htl⟩⟩ := hl
  have f1 : pa = .slice pb pg.length pc := e1
  have f2 : ta = .slice tb td.length tc := e2
  clear e1 e2
  subst f1 f2
  obtain ⟨hx1, hx2⟩ := hx
  have hx1 : pg.length ≤ 1000 := hx1
  have hx2 : td.length ≤ 1000 := hx2
  have HPG : Hid (Lies w w.heap.size pb 3 pg.length (fun j => pgC pg[j]!)) := hpl
  have HTD : Hid (Lies w w.heap.size tb 1 td.length (fun j => iC td[j]!)) := htl
  have HPC := Lib.hid hpc
  have HTC := Lib.hid htc
  clear hpl htl hpc htc
  show Calls Tryz.prog 49 #[.agg #[.int .i64 pi, .bool pt, .bool pd, .slice pb pg.length pc, .slice tb td.length tc]] w _
  go_enter Tryz.func49, Tryz.ntmps49
  have H := HS.start NoD w
  go_upto_region 1 with fail
  generalize hwb : (w.alloc _).alloc _ = w1
  replace H := HS.eqW hwb H.alloc.alloc
  try simp only [World.size_alloc, List.nil_append, List.cons_append, List.append_assoc] at H
  clear hwb
  generalize w.heap.size + 1 = bR at H ⊢
  generalize w.heap.size = bX at H ⊢
  try clear C
  have C := H.cells
  try simp only [cellsOf, cellsM, apartOf, apartM, and_true] at C
  have hn := (H.nilRow 49 3).nilRow 3 1
  clear H
  have H := hn
  clear hn
  try simp only [List.nil_append, List.cons_append] at H
  go_region_law (first
    | (refine step_append_src (hgd := rfl) (s := .const (.slice none 0 0)) (x := .tmp 4) (t := 50) (ho := rfl) (hE := elemPg) (H := H.drew) (k := 2) (hk := rfl) (hs := rfl) (sa := pb) (m := pg.length) (c := pc) (news := pg.flatMap pgC) (hx := by simp [Act.eval, Act.put]) (hsrc := Lies.src pgC_len (by decide) HPC.out.1 (H.drew.lies HPG.out) HPC.out.2) (hl := flat_len pgC_len pg) (h1 := pgC_one pg) (h63 := by unfold maxLen; omega) (hbytes := by omega) (N := pg.length) (hN := Nat.zero_add _) (h := fun s1 c1 wa H1 hg1 => ?_); have C1 := H1.cells; simp only [List.nil_append, List.cons_append, List.append_assoc, List.set_cons_succ, List.set_cons_zero, cellsOf, cellsM, apartOf, apartM, and_true] at H1 C1; clear hg1)
    | (refine step_append_src (hgd := rfl) (s := .const (.slice none 0 0)) (x := .tmp 7) (t := 22) (ho := rfl) (hE := elemN) (H := H1) (k := 3) (hk := rfl) (hs := rfl) (sa := tb) (m := td.length) (c := tc) (news := td.flatMap iC) (hx := by simp [Act.eval, Act.put]) (hsrc := Lies.src iC_len (by decide) HTC.out.1 (H1.lies HTD.out) HTC.out.2) (hl := flat_len iC_len td) (h1 := iC_one td) (h63 := by unfold maxLen; omega) (hbytes := by omega) (N := td.length) (hN := Nat.zero_add _) (h := fun s2 c2 wb H2 hg2 => ?_); have C2 := H2.cells; simp only [List.nil_append, List.cons_append, List.append_assoc, List.set_cons_succ, List.set_cons_zero, cellsOf, cellsM, apartOf, apartM, and_true] at H2 C2; clear hg2))
  all_goals
    go_step
    clear C C1 C2 H H1
    have H := (H2.setTo (o := 3) (v := .slice s1 pg.length c1) 0 rfl rfl).setTo (o := 4) (v := .slice s2 td.length c2) 0 rfl rfl
    clear H2
    generalize hwb : World.setCell (World.setCell _ _ _) _ _ = w9 at H ⊢
    clear hwb
    skip
    have H : HS NoD w [.blk bX #[.int .i64 pi, .bool pt, .bool pd, .slice s1 pg.length c1, .slice s2 td.length c2] 52, .blk bR #[.int .i64 0, .bool false, .bool false, .slice none 0 0, .slice none 0 0] 52, .row (.slice s1 pg.length c1) 49 3 pg.length (pg.flatMap pgC), .row (.slice s2 td.length c2) 3 1 td.length (td.flatMap iC)] w9 := H
    try clear C
    try simp only [World.size_alloc, List.nil_append, List.cons_append, List.append_assoc] at H
    have C := H.cells
    try simp only [cellsOf, cellsM, apartOf, apartM, and_true] at C
    go_wp2_with fail
    generalize hwb : ((((w9.setCell _ _).setCell _ _).setCell _ _).setCell _ _).setCell _ _ = w2
    replace H := HS.eqW hwb (H.putAll (i := 1) rfl (vs := [.int .i64 pi, .bool pt, .bool pd, .slice s1 pg.length c1, .slice s2 td.length c2]) rfl rfl)
    simp only [List.nil_append, List.cons_append, List.append_assoc, List.set_cons_succ, List.set_cons_zero] at H
    clear hwb
    try clear C
    try clear w9
    have C := H.cells
    try simp only [cellsOf, cellsM, apartOf, apartM, and_true] at C
    refine bodyPost_ret (by simp [results, Tryz.results49, go_sem, C]; try rfl) rfl ?_
    exact ⟨s1, c1, s2, c2, rfl, HS.less (H.toMany (L := [_, _]) (R := [_, _]) (fun A hA => by simp only [List.mem_cons, List.mem_nil_iff, or_false] at hA; rcases hA with rfl | rfl <;> rfl)) (by repeat (first | exact .slnil | refine .cons_cons _ ?_ | refine .cons _ ?_))⟩
theorem HS.shutPs {D : Nat → Prop} {W w : World} {L : List Item} {v : Value} {qs : List Pv} (h : HS D W (L ++ [outerR v qs, Item.many (qs.flatMap innerR)]) w) : HS D W (L ++ [Item.many (PsR v qs)]) w := by
  have h1 : HS D W ((L ++ [outerR v qs]) ++ [Item.many (qs.flatMap innerR)]) w := by simpa using h
  have h2 := h1.ofMany
  rw [List.append_assoc] at h2
  exact HS.toMany (R := PsR v qs) h2 PsR_low
theorem HS.pvUp {W w : World} {L : List Item} (h : HS NoD W L w) {q : Pv} (hl : PvAt W W.heap.size q) : PvAt w w.heap.size q := ⟨h.slUp hl.1, h.slUp hl.2⟩
theorem flat_one {qs : List Pv} {q : Pv} {α : Type} {f : Pv → List α} : (qs ++ [q]).flatMap f = qs.flatMap f ++ f q := by simp
theorem smallQ {ps : List Pr} {qs : List Pv} (h : SmallP ps) (e : qs.map (·.p) = ps) {j : Nat} (hj : j < qs.length) : (qs[j]!).p.pages.length ≤ 1000 ∧ (qs[j]!).p.told.length ≤ 1000 :=
  h.2 _ (by rw [← e]; exact List.mem_map.2 ⟨_, mem_at hj, rfl⟩)
set_option maxHeartbeats 4000000 in
theorem rcopy_any {v : Value} {ps : List Pr} (hx : SmallP ps) (w : World) (hl : Ps w w.heap.size v ps) :
    Calls Tryz.prog 26 #[v] w (GivesP (fun v => v) ps w) := by
  obtain ⟨qs, hqs, ⟨sa, c, rfl, hc, hl⟩, hi⟩ := hl
  have hx1 : qs.length ≤ 1000 := by have := hx.1; rw [← hqs] at this; simpa using this
  have HSM := Lib.hid (fun j => smallQ (j := j) hx hqs)
  have HL := Lib.hid hl
  have HI := Lib.hid hi
  have HQS := Lib.hid hqs
  clear hl hi hx hqs hc
  go_enter Tryz.func26, Tryz.ntmps26
  have H := HS.start NoD w
  go_wp2_with fail
  have hn := (H.nilRow 52 5).toMany (R := []) (L := [_]) (fun A hA => by cases hA)
  clear H
  have H := hn
  clear hn
  try simp only [List.nil_append, List.cons_append] at H
  go_loopw [3, 8] (fun u i wr => ∃ (j : Nat) (rs : List Pv), i = .int .i64 j ∧ j ≤ qs.length ∧ Hid (rs.length = j) ∧ Hid (rs.map (·.p) = (qs.take j).map (·.p)) ∧ HS NoD w [.row u 52 5 rs.length (rs.flatMap pvC), Item.many (rs.flatMap innerR)] wr) (fun _ i _ => qs.length - (intOf i).toNat)
  case atStart => exact ⟨0, [], rfl, Nat.zero_le _, rfl, rfl, H⟩
  case round =>
    clear H
    obtain ⟨j, rs, rfl, hj, hrl, HR, H⟩ := hrel
    rename_i u _ _
    skip
    by_cases hlt : j < qs.length
    · have hsm := HSM.out j hlt
      obtain ⟨b, o, e0, hb, hc⟩ := (H.lies HL.out).at hlt
      cases e0
      have HM := Lib.hid (map_at hlt)
      have hpv := HI.out _ (mem_at hlt)
      obtain ⟨q, hxj⟩ : ∃ q, q = qs[j]! := ⟨_, rfl⟩
      rw [← hxj] at hc hpv
      have HX := Lib.hid hxj
      obtain ⟨⟨pi, pt, pd, pg, td⟩, pa, ta⟩ := q
      obtain ⟨⟨pb, pc, e1, hpc, hpl⟩, ⟨tb, tc, e2, htc, htl⟩⟩ := hpv
      have f1 : pa = .slice pb pg.length pc := e1
      have f2 : ta = .slice tb td.length tc := e2
      clear e1 e2
      subst f1 f2
      have HPG : Hid (Lies w w.heap.size pb 3 pg.length (fun j => pgC pg[j]!)) := hpl
      have HTD : Hid (Lies w w.heap.size tb 1 td.length (fun j => iC td[j]!)) := htl
      have HPC : Hid (pg.length ≤ pc ∧ (pb = none → pc = 0)) := hpc
      have HTC : Hid (td.length ≤ tc ∧ (tb = none → tc = 0)) := htc
      clear hpc htc
      clear hpl htl
      have c0 : wr.cell? ⟨b, o + j * 5, none⟩ = some (.int .i64 pi) := hc 0 _ rfl
      have c1 : wr.cell? ⟨b, o + j * 5 + 1, none⟩ = some (.bool pt) := hc 1 _ rfl
      have c2 : wr.cell? ⟨b, o + j * 5 + 2, none⟩ = some (.bool pd) := hc 2 _ rfl
      have c3 : wr.cell? ⟨b, o + j * 5 + 3, none⟩ = some (.slice pb pg.length pc) := hc 3 _ rfl
      have c4 : wr.cell? ⟨b, o + j * 5 + 4, none⟩ = some (.slice tb td.length tc) := hc 4 _ rfl
      clear hc hxj
      rw [← HX.out] at hsm
      have hs1 : pg.length ≤ 1000 := hsm.1
      have hs2 : td.length ≤ 1000 := hsm.2
      have hrs : rs.length ≤ 1000 := by have := hrl.out; omega
      clear hsm
      go_upto_region 5 with fail
      generalize hwb : wr.alloc _ = w1
      replace H := HS.eqW hwb H.alloc
      try simp only [World.size_alloc, List.nil_append, List.cons_append, List.append_assoc] at H
      clear hwb
      generalize wr.heap.size = bP at H ⊢
      try clear C
      try clear wr
      have C := H.cells
      try simp only [cellsOf, cellsM, apartOf, apartM, and_true] at C
      go_wp2_with fail
      refine (rcopyOne_any (q := ⟨⟨pi, pt, pd, pg, td⟩, .slice pb pg.length pc, .slice tb td.length tc⟩) ⟨hs1, hs2⟩ _ ⟨⟨pb, pc, rfl, HPC.out, H.liesUp HPG.out⟩, ⟨tb, tc, rfl, HTC.out, H.liesUp HTD.out⟩⟩).mono ?_
      rintro _ w2 ⟨s1, d1, s2, d2, rfl, K⟩
      replace H := H.join1 K
      clear K
      dsimp only [vPr]
      skip
      try clear C
      try simp only [World.size_alloc, List.nil_append, List.cons_append, List.append_assoc] at H
      have C := H.cells
      try simp only [cellsOf, cellsM, apartOf, apartM, and_true] at C
      go_wp2_with (at_builtin; refine wpList_append_H rfl (.tmp 12) (.tmp 15) 28 rfl elemPr H.alloc 0 rfl rfl 4 rfl rfl rfl rfl (by decide) (by unfold maxLen; omega) (by omega) (fun g cap wz HZ => ?_); clear H C)
      go_roundw
      case rel =>
        refine ⟨j + 1, rs ++ [⟨⟨pi, pt, pd, pg, td⟩, .slice s1 pg.length d1, .slice s2 td.length d2⟩], by go_num, by omega, (show Hid _ from by show List.length _ = _; simp [hrl.out]), (show Hid _ from ?_), ?_⟩
        · show List.map _ _ = _
          rw [take_snoc hlt, List.map_append, List.map_append, HR.out, ← HX.out]
          rfl
        · rw [List.length_append, flat_one, flat_one]
          exact HS.manyJoin (L := [_]) (HZ.less (by repeat (first | exact .slnil | refine .cons_cons _ ?_ | refine .cons _ ?_)))
      case measure => simp [intOf]; omega
    · have hje : j = qs.length := by omega
      have e : rs.map (·.p) = ps := by rw [HR.out, List.take_of_length_le (by omega), HQS.out]
      obtain ⟨sb, d, rfl⟩ := ownsRow_slice (H.at 0 rfl)
      go_wp2_with fail
      go_ret
      exact ⟨.slice sb rs.length d, rs, rfl, e, HS.shutPs (L := []) H⟩
end Go.Proofs.YtedbpmckgiifpaaGreat

/- Programs (memfaultref29): unused, find, Find. -/
namespace Go.Proofs.YtedbpmckgiifpaaGreat
set_option linter.unusedSimpArgs false
set_option linter.unusedVariables false
open Go.RowKit
set_option maxRecDepth 100000
attribute [local go_sem] lt_more ne_more ne_more'
attribute [local irreducible] wpX wpF Calls

theorem used_iff (ps : List Pr) (f : Int) : usedB ps f = true ↔ 0 < (usersL ps f).length := by
  unfold usedB usersL
  rw [List.length_pos_iff, Ne, List.flatMap_eq_nil_iff, List.any_eq_true]
  constructor
  · rintro ⟨p, hp, h⟩ hn
    have := hn p hp
    rw [List.map_eq_nil_iff, List.filter_eq_nil_iff] at this
    obtain ⟨x, hx, h2⟩ := List.any_eq_true.1 h
    exact this x hx h2
  · intro h
    refine Classical.byContradiction fun hn => h fun p hp => ?_
    rw [List.map_eq_nil_iff, List.filter_eq_nil_iff]
    intro x hx h2
    exact hn ⟨p, hp, List.any_eq_true.2 ⟨x, hx, h2⟩⟩
theorem runused_any (f : Int) {v : Value} {ps : List Pr} (hx : SmallP ps) (w : World) (hl : Ps w w.heap.size v ps) :
    Calls Tryz.prog 57 #[v, .int .i64 f] w (Gives (.int .i64 (leftP ps f)) w) := by
  have HU := Lib.hid (rusers_any f hx w hl)
  have HI := Lib.hid (used_iff ps f)
  generalize (usersL ps f).flatMap uC = cs at HU
  generalize (usersL ps f).length = n at HU HI
  clear hl
  by_cases hn : 0 < n
  · have e : leftP ps f = -1 := by unfold leftP; rw [if_pos (HI.out.2 hn)]
    rw [e]
    go_enter Tryz.func57, Tryz.ntmps57
    have H := HS.start NoD w
    go_wp2_with fail
    refine (HU.out).mono ?_
    rintro _ w1 ⟨sa, c, rfl, hr, hb⟩
    replace H := (H).getsRow hb hr
    clear hb hr
    try clear C
    try simp only [World.size_alloc, List.nil_append, List.cons_append, List.append_assoc] at H
    have C := H.cells
    try simp only [cellsOf, cellsM, apartOf, apartM, and_true] at C
    dsimp only
    go_wp2_with fail
    go_ret
    exact ⟨rfl, H.done⟩
  · have e : leftP ps f = f := by unfold leftP; rw [if_neg fun h => hn (HI.out.1 h)]
    rw [e]
    obtain rfl : n = 0 := by omega
    go_enter Tryz.func57, Tryz.ntmps57
    have H := HS.start NoD w
    go_wp2_with fail
    refine (HU.out).mono ?_
    rintro _ w1 ⟨sa, c, rfl, hr, hb⟩
    replace H := (H).getsRow hb hr
    clear hb hr
    try clear C
    try simp only [World.size_alloc, List.nil_append, List.cons_append, List.append_assoc] at H
    have C := H.cells
    try simp only [cellsOf, cellsM, apartOf, apartM, and_true] at C
    dsimp only
    go_wp2_with fail
    go_ret
    exact ⟨rfl, H.done⟩
/-- The indices as a call hands them back: -1, -1 beside an error in the document's package. -/
def rfindR (ps : List Pr) (id n : Int) : Value := match findP ps id n with | (0, i, k) => .tuple #[.int .i64 i, .int .i64 k, .int .i64 0] | (e, _, _) => .tuple #[.int .i64 (-1), .int .i64 (-1), .int .i64 e]
theorem findIdx_some {α : Type} [Inhabited α] {p : α → Bool} {xs : List α} {i : Nat} (h : xs.findIdx? p = some i) : i < xs.length ∧ p xs[i]! = true := by
  obtain ⟨h1, h2, -⟩ := List.findIdx?_eq_some_iff_getElem.1 h
  exact ⟨h1, by rw [getElem!_pos xs i h1]; exact h2⟩
set_option maxHeartbeats 2000000 in
theorem rfind_any (id n : Int) {v : Value} {ps : List Pr} (hx : SmallP ps) (w : World) (hl : Ps w w.heap.size v ps) :
    Calls Tryz.prog 54 #[v, .int .i64 id, .int .i64 n] w (Gives (rfindR ps id n) w) := by
  have HA := Lib.hid (rat_any id hx.1 w hl)
  obtain ⟨qs, hqs, ⟨sa, c, rfl, hc, hl⟩, hi⟩ := hl
  have hx1 : qs.length ≤ 1000 := by have := hx.1; rw [← hqs] at this; simpa using this
  have HSM := Lib.hid (fun j => smallQ (j := j) hx hqs)
  have HL := Lib.hid hl
  have HI := Lib.hid hi
  have HQS := Lib.hid hqs
  obtain ⟨R, hR⟩ : ∃ R, R = rfindR ps id n := ⟨_, rfl⟩
  rw [← hR]
  have HR := Lib.hid hR
  clear hl hi hx hqs hc hR
  cases hi : ps.findIdx? (live id) with
  | none =>
    rw [hi] at HA
    dsimp only [idx?] at HA
    have HE := Lib.hid (HR.out.trans (show _ = Value.tuple #[.int .i64 (-1), .int .i64 (-1), .int .i64 42] by unfold rfindR findP; rw [hi]; rfl))
    clear hi HR
    go_enter Tryz.func54, Tryz.ntmps54
    have H := HS.start NoD w
    go_wp2_with fail
    refine (HA.out).mono ?_
    rintro _ w1 ⟨rfl, hb⟩
    replace H := H.below hb
    clear hb
    try clear C
    try simp only [World.size_alloc, List.nil_append, List.cons_append, List.append_assoc] at H
    have C := H.cells
    try simp only [cellsOf, cellsM, apartOf, apartM, and_true] at C
    dsimp only
    go_wp2_with fail
    refine bodyPost_ret (by simp [results, Tryz.results54, go_sem, C]; try rfl) rfl ?_
    exact ⟨by rw [HE.out], H.done⟩
  | some i =>
    rw [hi] at HA
    dsimp only [idx?] at HA
    have hlt : i < qs.length := by have := (findIdx_some hi).1; rw [← HQS.out] at this; simpa using this
    have hsm := HSM.out i hlt
    obtain ⟨b, o, e0, hb, hc⟩ := HL.out.at hlt
    cases e0
    have HM := Lib.hid (map_at hlt)
    have hpv := HI.out _ (mem_at hlt)
    obtain ⟨q, hxj⟩ : ∃ q, q = qs[i]! := ⟨_, rfl⟩
    rw [← hxj] at hc hpv
    have HX := Lib.hid hxj
    obtain ⟨⟨pi, pt, pd, pg, td⟩, pa, ta⟩ := q
    obtain ⟨⟨pb, pc, e1, hpc, hpl⟩, ⟨tb, tc, e2, htc, htl⟩⟩ := hpv
    have f1 : pa = .slice pb pg.length pc := e1
    have f2 : ta = .slice tb td.length tc := e2
    clear e1 e2
    subst f1 f2
    have HPG : Hid (Lies w w.heap.size pb 3 pg.length (fun j => pgC pg[j]!)) := hpl
    have HTD : Hid (Lies w w.heap.size tb 1 td.length (fun j => iC td[j]!)) := htl
    have HPC : Hid (pg.length ≤ pc ∧ (pb = none → pc = 0)) := hpc
    have HTC : Hid (td.length ≤ tc ∧ (tb = none → tc = 0)) := htc
    clear hpc htc
    clear hpl htl
    have HC0 : Hid (w.cell? ⟨b, o + i * 5, none⟩ = some (.int .i64 pi)) := hc 0 _ rfl
    have HC1 : Hid (w.cell? ⟨b, o + i * 5 + 1, none⟩ = some (.bool pt)) := hc 1 _ rfl
    have HC2 : Hid (w.cell? ⟨b, o + i * 5 + 2, none⟩ = some (.bool pd)) := hc 2 _ rfl
    have HC3 : Hid (w.cell? ⟨b, o + i * 5 + 3, none⟩ = some (.slice pb pg.length pc)) := hc 3 _ rfl
    have HC4 : Hid (w.cell? ⟨b, o + i * 5 + 4, none⟩ = some (.slice tb td.length tc)) := hc 4 _ rfl
    have HB := Lib.hid hb
    clear hc hxj hb
    rw [← HX.out] at hsm
    have hs1 : pg.length ≤ 1000 := hsm.1
    clear hsm
    have hpe : (ps[i]!).pages = pg := by rw [← HQS.out, HM.out, ← HX.out]
    cases hk : pg.findIdx? (numb n) with
    | none =>
      have HE := Lib.hid (HR.out.trans (show _ = Value.tuple #[.int .i64 (-1), .int .i64 (-1), .int .i64 41] by unfold rfindR findP; rw [hi]; dsimp only; rw [hpe, hk]; rfl))
      have HPA := Lib.hid (fun w h => rpage_any n (q := ⟨⟨pi, pt, pd, pg, td⟩, .slice pb pg.length pc, .slice tb td.length tc⟩) hs1 w h)
      have e : (⟨⟨pi, pt, pd, pg, td⟩, .slice pb pg.length pc, .slice tb td.length tc⟩ : Pv).p.pages.findIdx? (numb n) = none := hk
      rw [e] at HPA
      dsimp only [idx?] at HPA
      clear hi HR hpe hk e
      go_enter Tryz.func54, Tryz.ntmps54
      have H := HS.start NoD w
      go_wp2_with fail
      refine (HA.out).mono ?_
      rintro _ w1 ⟨rfl, hb⟩
      replace H := H.below hb
      clear hb
      try clear C
      try simp only [World.size_alloc, List.nil_append, List.cons_append, List.append_assoc] at H
      have C := H.cells
      try simp only [cellsOf, cellsM, apartOf, apartM, and_true] at C
      dsimp only
      try clear c0 c1 c2 c3 c4
      have c0 := (H.was HB.out (fun h => h)).trans HC0.out
      have c1 := (H.was HB.out (fun h => h)).trans HC1.out
      have c2 := (H.was HB.out (fun h => h)).trans HC2.out
      have c3 := (H.was HB.out (fun h => h)).trans HC3.out
      have c4 := (H.was HB.out (fun h => h)).trans HC4.out
      go_wp2_with fail
      refine (HPA.out _ ⟨⟨pb, pc, rfl, HPC.out, H.liesUp HPG.out⟩, ⟨tb, tc, rfl, HTC.out, H.liesUp HTD.out⟩⟩).mono ?_
      rintro _ w2 ⟨rfl, hb⟩
      replace H := H.below hb
      clear hb
      go_wp2_with fail
      refine bodyPost_ret (by simp [results, Tryz.results54, go_sem, C]; try rfl) rfl ?_
      exact ⟨by rw [HE.out], H.done⟩
    | some k =>
      have HE := Lib.hid (HR.out.trans (show _ = Value.tuple #[.int .i64 i, .int .i64 k, .int .i64 0] by unfold rfindR findP; rw [hi]; dsimp only; rw [hpe, hk]; rfl))
      have HPA := Lib.hid (fun w h => rpage_any n (q := ⟨⟨pi, pt, pd, pg, td⟩, .slice pb pg.length pc, .slice tb td.length tc⟩) hs1 w h)
      have e : (⟨⟨pi, pt, pd, pg, td⟩, .slice pb pg.length pc, .slice tb td.length tc⟩ : Pv).p.pages.findIdx? (numb n) = some k := hk
      rw [e] at HPA
      dsimp only [idx?] at HPA
      clear hi HR hpe hk e
      go_enter Tryz.func54, Tryz.ntmps54
      have H := HS.start NoD w
      go_wp2_with fail
      refine (HA.out).mono ?_
      rintro _ w1 ⟨rfl, hb⟩
      replace H := H.below hb
      clear hb
      try clear C
      try simp only [World.size_alloc, List.nil_append, List.cons_append, List.append_assoc] at H
      have C := H.cells
      try simp only [cellsOf, cellsM, apartOf, apartM, and_true] at C
      dsimp only
      try clear c0 c1 c2 c3 c4
      have c0 := (H.was HB.out (fun h => h)).trans HC0.out
      have c1 := (H.was HB.out (fun h => h)).trans HC1.out
      have c2 := (H.was HB.out (fun h => h)).trans HC2.out
      have c3 := (H.was HB.out (fun h => h)).trans HC3.out
      have c4 := (H.was HB.out (fun h => h)).trans HC4.out
      go_wp2_with fail
      refine (HPA.out _ ⟨⟨pb, pc, rfl, HPC.out, H.liesUp HPG.out⟩, ⟨tb, tc, rfl, HTC.out, H.liesUp HTD.out⟩⟩).mono ?_
      rintro _ w2 ⟨rfl, hb⟩
      replace H := H.below hb
      clear hb
      go_wp2_with fail
      refine bodyPost_ret (by simp [results, Tryz.results54, go_sem, C]; try rfl) rfl ?_
      exact ⟨by rw [HE.out], H.done⟩
end Go.Proofs.YtedbpmckgiifpaaGreat
