/- The document's programs (memfaultref29): at, page, Users, unused. -/
import Derived.Test.YtmnddnlabdafcaaPSpec
import Derived.Test.YtmnddnlabdafcaaPart
namespace Go.Proofs.Ytmnddnlabdafcaa
set_option linter.unusedSimpArgs false
set_option linter.unusedVariables false
open Go.RowKit
set_option maxRecDepth 100000
attribute [local go_sem] lt_more ne_more ne_more'
attribute [local irreducible] wpX wpF Calls

theorem findIdx_first {α : Type} [Inhabited α] {p : α → Bool} : ∀ {xs : List α} {k : Nat}, k < xs.length → p xs[k]! = true → (∀ i, i < k → p xs[i]! = false) → xs.findIdx? p = some k
  | [], k, h, _, _ => by simp at h
  | x :: xs, 0, h, h1, _ => by
    have h1' : p x = true := by simpa using h1
    rw [List.findIdx?_cons, h1']; rfl
  | x :: xs, k + 1, h, h1, h2 => by
    have hx : p x = false := by simpa using h2 0 (by omega)
    have := findIdx_first (p := p) (xs := xs) (k := k) (by simpa using h) (by simpa using h1) (fun i hi => by simpa using h2 (i + 1) (by omega))
    rw [List.findIdx?_cons, hx, this]; rfl
theorem findIdx_none {α : Type} [Inhabited α] {p : α → Bool} {xs : List α} (h : ∀ i, i < xs.length → p xs[i]! = false) : xs.findIdx? p = none := by
  rw [List.findIdx?_eq_none_iff]
  intro x hx
  obtain ⟨i, hi, rfl⟩ := List.getElem_of_mem hx
  have := h i hi
  rwa [getElem!_pos xs i hi] at this
theorem map_at {qs : List Pv} {j : Nat} (h : j < qs.length) : (qs.map (·.p))[j]! = (qs[j]!).p := by
  rw [getElem!_pos _ j (by simpa using h), getElem!_pos qs j h, List.getElem_map]
theorem mem_at {α : Type} [Inhabited α] {xs : List α} {j : Nat} (h : j < xs.length) : xs[j]! ∈ xs := by
  rw [getElem!_pos xs j h]; exact List.getElem_mem h
/-- A program as an argument. -/
def vPr (q : Pv) : Value := .agg #[.int .i64 q.p.id, .bool q.p.tells, .bool q.p.dead, q.pa, q.ta]
set_option maxHeartbeats 2000000 in
theorem rat_any (id : Int) {v : Value} {ps : List Pr} (hx : ps.length ≤ 1000) (w : World) (hl : Ps w w.heap.size v ps) :
    Calls Try.prog 73 #[v, .int .i64 id] w (Gives (.int .i64 (idx? (ps.findIdx? (live id)))) w) := by
  obtain ⟨qs, rfl, ⟨sa, c, rfl, hc, hl⟩, hi⟩ := hl
  rw [List.length_map] at hx
  have HL := Lib.hid hl
  have HI := Lib.hid hi
  clear hl hi hc
  obtain ⟨r, hr⟩ : ∃ r, r = idx? ((qs.map (·.p)).findIdx? (live id)) := ⟨_, rfl⟩
  rw [← hr]
  have HR := Lib.hid hr
  clear hr
  go_enter Try.func73, Try.ntmps73
  have H := HS.start NoD w
  go_wp2_with fail
  go_loopw [9] (fun i wr => ∃ (j : Nat), i = .int .i64 j ∧ j ≤ qs.length ∧ Hid (∀ i, i < j → live id (qs[i]!).p = false) ∧ HS NoD w [] wr) (fun i _ => qs.length - (intOf i).toNat)
  case atStart => exact ⟨0, rfl, Nat.zero_le _, fun i hi => absurd hi (Nat.not_lt_zero _), H⟩
  case round =>
    clear H
    obtain ⟨j, rfl, hj, HF, H⟩ := hrel
    skip
    by_cases hlt : j < qs.length
    · obtain ⟨b, o, e0, hb, hc⟩ := (H.lies HL.out).at hlt
      cases e0
      have HM := Lib.hid (map_at hlt)
      have hpv := HI.out _ (mem_at hlt)
      obtain ⟨q, hxj⟩ : ∃ q, q = qs[j]! := ⟨_, rfl⟩
      rw [← hxj] at hc hpv
      have HX := Lib.hid hxj
      obtain ⟨⟨pi, pt, pd, pg, td⟩, pa, ta⟩ := q
      obtain ⟨⟨pb, pc, e1, hpc, hpl⟩, ⟨tb, tc, e2, htc, htl⟩⟩ := hpv
      have f1 : pa = .slice pb pg.length pc := e1
      have f2 : ta = .slice tb td.length tc := e2
      clear e1 e2
      subst f1 f2
      have HPG : Hid (Lies w w.heap.size pb 3 pg.length (fun j => pgC pg[j]!)) := hpl
      have HTD : Hid (Lies w w.heap.size tb 1 td.length (fun j => iC td[j]!)) := htl
      have HPC : Hid (pg.length ≤ pc ∧ (pb = none → pc = 0)) := hpc
      have HTC : Hid (td.length ≤ tc ∧ (tb = none → tc = 0)) := htc
      clear hpc htc
      clear hpl htl
      have c0 : wr.cell? ⟨b, o + j * 5, none⟩ = some (.int .i64 pi) := hc 0 _ rfl
      have c1 : wr.cell? ⟨b, o + j * 5 + 1, none⟩ = some (.bool pt) := hc 1 _ rfl
      have c2 : wr.cell? ⟨b, o + j * 5 + 2, none⟩ = some (.bool pd) := hc 2 _ rfl
      have c3 : wr.cell? ⟨b, o + j * 5 + 3, none⟩ = some (.slice pb pg.length pc) := hc 3 _ rfl
      have c4 : wr.cell? ⟨b, o + j * 5 + 4, none⟩ = some (.slice tb td.length tc) := hc 4 _ rfl
      clear hc hxj
      go_upto_region 4 with fail
      generalize hwb : wr.alloc _ = w1
      replace H := HS.eqW hwb H.alloc
      try simp only [World.size_alloc, List.nil_append, List.cons_append, List.append_assoc] at H
      clear hwb
      generalize wr.heap.size = bP at H ⊢
      try clear C
      try clear wr
      have C := H.cells
      try simp only [cellsOf, cellsM, apartOf, apartM, and_true] at C
      by_cases hq : pi = id ∧ pd = false
      · obtain ⟨rfl, rfl⟩ := hq
        go_wp2_with fail
        go_ret
        exact ⟨ret_int (by rw [HR.out, findIdx_first (k := j) (by simpa using hlt) (by rw [HM.out, ← HX.out]; simp [live]) (fun i hi => by rw [map_at (by omega)]; exact HF.out i hi)]; rfl), H.done⟩
      · have HQ := Lib.hid hq
        have h2 : pi = id → pd = true := fun e => by cases pd with
          | true => rfl
          | false => exact absurd ⟨e, rfl⟩ hq
        clear hq
        by_cases hp : pi = id
        · obtain rfl := h2 hp
          go_wp2_with fail
          go_roundw
          case rel =>
            refine ⟨j + 1, by go_num, by omega, (show Hid _ from fun i hi => ?_), H.less (by repeat (first | exact .slnil | refine .cons_cons _ ?_ | refine .cons _ ?_))⟩
            rcases Nat.lt_succ_iff_lt_or_eq.1 hi with hi | rfl
            · exact HF.out i hi
            · rw [← HX.out]; simp [live]
          case measure => simp [intOf]; omega
        · go_wp2_with fail
          go_roundw
          case rel =>
            refine ⟨j + 1, by go_num, by omega, (show Hid _ from fun i hi => ?_), H.less (by repeat (first | exact .slnil | refine .cons_cons _ ?_ | refine .cons _ ?_))⟩
            rcases Nat.lt_succ_iff_lt_or_eq.1 hi with hi | rfl
            · exact HF.out i hi
            · rw [← HX.out]; simp [live, hp]
          case measure => simp [intOf]; omega
    · go_wp2_with fail
      go_ret
      exact ⟨ret_int (by rw [HR.out, findIdx_none fun i hi => by rw [map_at (by simpa using hi)]; exact HF.out i (by simp at hi; omega)]; rfl), H.done⟩
theorem rpage_any (n : Int) {q : Pv} (hx : q.p.pages.length ≤ 1000) (w : World) (hl : PvAt w w.heap.size q) :
    Calls Try.prog 74 #[vPr q, .int .i64 n] w (Gives (.int .i64 (idx? (q.p.pages.findIdx? (numb n)))) w) := by
  obtain ⟨⟨pi, pt, pd, pg, td⟩, pa, ta⟩ := q
  obtain ⟨⟨pb, pc, e1, hpc, hpl⟩, ⟨tb, tc, e2, htc, -⟩⟩ := hl
  have f1 : pa = .slice pb pg.length pc := e1
  have f2 : ta = .slice tb td.length tc := e2
  clear e1 e2
  subst f1 f2
  have hx : pg.length ≤ 1000 := hx
  have HL : Hid (Lies w w.heap.size pb 3 pg.length (fun j => pgC pg[j]!)) := hpl
  obtain ⟨r, hr⟩ : ∃ r, r = idx? (pg.findIdx? (numb n)) := ⟨_, rfl⟩
  show Calls Try.prog 74 #[.agg #[.int .i64 pi, .bool pt, .bool pd, .slice pb pg.length pc, .slice tb td.length tc], .int .i64 n] w (Gives (.int .i64 (idx? (pg.findIdx? (numb n)))) w)
  rw [← hr]
  have HR := Lib.hid hr
  clear hr hpl
  go_enter Try.func74, Try.ntmps74
  have H := HS.start NoD w
  go_wp2_with fail
  generalize hwb : w.alloc _ = w1
  replace H := HS.eqW hwb H.alloc
  try simp only [World.size_alloc, List.nil_append, List.cons_append, List.append_assoc] at H
  clear hwb
  generalize w.heap.size = bX at H ⊢
  try clear C
  have C := H.cells
  try simp only [cellsOf, cellsM, apartOf, apartM, and_true] at C
  go_loopw [10] (fun i wr => ∃ (j : Nat), i = .int .i64 j ∧ j ≤ pg.length ∧ Hid (∀ i, i < j → numb n pg[i]! = false) ∧ HS NoD w [] wr) (fun i _ => pg.length - (intOf i).toNat)
  case atStart => exact ⟨0, rfl, Nat.zero_le _, fun i hi => absurd hi (Nat.not_lt_zero _), H.less (by repeat (first | exact .slnil | refine .cons_cons _ ?_ | refine .cons _ ?_))⟩
  case round =>
    clear H C
    obtain ⟨j, rfl, hj, HF, H⟩ := hrel
    skip
    by_cases hlk : j < pg.length
    · have HPG := HL
      obtain ⟨bg, og, rfl, hbg, hcg⟩ := (H.lies HPG.out).at hlk
      obtain ⟨g, hxg⟩ : ∃ q, q = pg[j]! := ⟨_, rfl⟩
      rw [← hxg] at hcg
      have HG := Lib.hid hxg
      obtain ⟨xn, xf, xs⟩ := g
      have d0 : wr.cell? ⟨bg, og + j * 3, none⟩ = some (.int .i64 xn) := hcg 0 _ rfl
      have d1 : wr.cell? ⟨bg, og + j * 3 + 1, none⟩ = some (.int .i64 xf) := hcg 1 _ rfl
      have d2 : wr.cell? ⟨bg, og + j * 3 + 2, none⟩ = some (.bool xs) := hcg 2 _ rfl
      clear hcg hxg
      by_cases hq : xn = n
      · subst hq
        go_wp2_with fail
        go_ret
        exact ⟨ret_int (by rw [HR.out, findIdx_first hlk (by rw [← HG.out]; simp [numb]) HF.out]; rfl), H.alloc.done⟩
      · go_wp2_with fail
        go_roundw
        case rel =>
          refine ⟨j + 1, by go_num, by omega, (show Hid _ from fun i hi => ?_), H.alloc.less (by repeat (first | exact .slnil | refine .cons_cons _ ?_ | refine .cons _ ?_))⟩
          rcases Nat.lt_succ_iff_lt_or_eq.1 hi with hi | rfl
          · exact HF.out i hi
          · rw [← HG.out]; simp [numb, hq]
        case measure => simp [intOf]; omega
    · go_wp2_with fail
      go_ret
      exact ⟨ret_int (by rw [HR.out, findIdx_none fun i hi => HF.out i (by omega)]; rfl), H.done⟩
end Go.Proofs.Ytmnddnlabdafcaa
