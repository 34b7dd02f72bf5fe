/- Programs (memfaultref29): unused, find, Find. -/
import Derived.Test.YtmnddnlabdafcaaO3
namespace Go.Proofs.Ytmnddnlabdafcaa
set_option linter.unusedSimpArgs false
set_option linter.unusedVariables false
open Go.RowKit
set_option maxRecDepth 100000
attribute [local go_sem] lt_more ne_more ne_more'
attribute [local irreducible] wpX wpF Calls

theorem used_iff (ps : List Pr) (f : Int) : usedB ps f = true ↔ 0 < (usersL ps f).length := by
  unfold usedB usersL
  rw [List.length_pos_iff, Ne, List.flatMap_eq_nil_iff, List.any_eq_true]
  constructor
  · rintro ⟨p, hp, h⟩ hn
    have := hn p hp
    rw [List.map_eq_nil_iff, List.filter_eq_nil_iff] at this
    obtain ⟨x, hx, h2⟩ := List.any_eq_true.1 h
    exact this x hx h2
  · intro h
    refine Classical.byContradiction fun hn => h fun p hp => ?_
    rw [List.map_eq_nil_iff, List.filter_eq_nil_iff]
    intro x hx h2
    exact hn ⟨p, hp, List.any_eq_true.2 ⟨x, hx, h2⟩⟩
theorem runused_any (f : Int) {v : Value} {ps : List Pr} (hx : SmallP ps) (w : World) (hl : Ps w w.heap.size v ps) :
    Calls Try.prog 75 #[v, .int .i64 f] w (Gives (.int .i64 (leftP ps f)) w) := by
  have HU := Lib.hid (rusers_any f hx w hl)
  have HI := Lib.hid (used_iff ps f)
  generalize (usersL ps f).flatMap uC = cs at HU
  generalize (usersL ps f).length = n at HU HI
  clear hl
  by_cases hn : 0 < n
  · have e : leftP ps f = -1 := by unfold leftP; rw [if_pos (HI.out.2 hn)]
    rw [e]
    go_enter Try.func75, Try.ntmps75
    have H := HS.start NoD w
    go_wp2_with fail
    refine (HU.out).mono ?_
    rintro _ w1 ⟨sa, c, rfl, hr, hb⟩
    replace H := (H).getsRow hb hr
    clear hb hr
    try clear C
    try simp only [World.size_alloc, List.nil_append, List.cons_append, List.append_assoc] at H
    have C := H.cells
    try simp only [cellsOf, cellsM, apartOf, apartM, and_true] at C
    dsimp only
    go_wp2_with fail
    go_ret
    exact ⟨rfl, H.done⟩
  · have e : leftP ps f = f := by unfold leftP; rw [if_neg fun h => hn (HI.out.1 h)]
    rw [e]
    obtain rfl : n = 0 := by omega
    go_enter Try.func75, Try.ntmps75
    have H := HS.start NoD w
    go_wp2_with fail
    refine (HU.out).mono ?_
    rintro _ w1 ⟨sa, c, rfl, hr, hb⟩
    replace H := (H).getsRow hb hr
    clear hb hr
    try clear C
    try simp only [World.size_alloc, List.nil_append, List.cons_append, List.append_assoc] at H
    have C := H.cells
    try simp only [cellsOf, cellsM, apartOf, apartM, and_true] at C
    dsimp only
    go_wp2_with fail
    go_ret
    exact ⟨rfl, H.done⟩
/-- The indices as a call hands them back: -1, -1 beside an error in the document's package. -/
def rfindR (ps : List Pr) (id n : Int) : Value := match findP ps id n with | (0, i, k) => .tuple #[.int .i64 i, .int .i64 k, .int .i64 0] | (e, _, _) => .tuple #[.int .i64 (-1), .int .i64 (-1), .int .i64 e]
theorem findIdx_some {α : Type} [Inhabited α] {p : α → Bool} {xs : List α} {i : Nat} (h : xs.findIdx? p = some i) : i < xs.length ∧ p xs[i]! = true := by
  obtain ⟨h1, h2, -⟩ := List.findIdx?_eq_some_iff_getElem.1 h
  exact ⟨h1, by rw [getElem!_pos xs i h1]; exact h2⟩
set_option maxHeartbeats 2000000 in
theorem rfind_any (id n : Int) {v : Value} {ps : List Pr} (hx : SmallP ps) (w : World) (hl : Ps w w.heap.size v ps) :
    Calls Try.prog 70 #[v, .int .i64 id, .int .i64 n] w (Gives (rfindR ps id n) w) := by
  have HA := Lib.hid (rat_any id hx.1 w hl)
  obtain ⟨qs, hqs, ⟨sa, c, rfl, hc, hl⟩, hi⟩ := hl
  have hx1 : qs.length ≤ 1000 := by have := hx.1; rw [← hqs] at this; simpa using this
  have HSM := Lib.hid (fun j => smallQ (j := j) hx hqs)
  have HL := Lib.hid hl
  have HI := Lib.hid hi
  have HQS := Lib.hid hqs
  obtain ⟨R, hR⟩ : ∃ R, R = rfindR ps id n := ⟨_, rfl⟩
  rw [← hR]
  have HR := Lib.hid hR
  clear hl hi hx hqs hc hR
  cases hi : ps.findIdx? (live id) with
  | none =>
    rw [hi] at HA
    dsimp only [idx?] at HA
    have HE := Lib.hid (HR.out.trans (show _ = Value.tuple #[.int .i64 (-1), .int .i64 (-1), .int .i64 42] by unfold rfindR findP; rw [hi]; rfl))
    clear hi HR
    go_enter Try.func70, Try.ntmps70
    have H := HS.start NoD w
    go_wp2_with fail
    refine (HA.out).mono ?_
    rintro _ w1 ⟨rfl, hb⟩
    replace H := H.below hb
    clear hb
    try clear C
    try simp only [World.size_alloc, List.nil_append, List.cons_append, List.append_assoc] at H
    have C := H.cells
    try simp only [cellsOf, cellsM, apartOf, apartM, and_true] at C
    dsimp only
    go_wp2_with fail
    refine bodyPost_ret (by simp [results, Try.results70, go_sem, C]; try rfl) rfl ?_
    exact ⟨by rw [HE.out], H.done⟩
  | some i =>
    rw [hi] at HA
    dsimp only [idx?] at HA
    have hlt : i < qs.length := by have := (findIdx_some hi).1; rw [← HQS.out] at this; simpa using this
    have hsm := HSM.out i hlt
    obtain ⟨b, o, e0, hb, hc⟩ := HL.out.at hlt
    cases e0
    have HM := Lib.hid (map_at hlt)
    have hpv := HI.out _ (mem_at hlt)
    obtain ⟨q, hxj⟩ : ∃ q, q = qs[i]! := ⟨_, rfl⟩
    rw [← hxj] at hc hpv
    have HX := Lib.hid hxj
    obtain ⟨⟨pi, pt, pd, pg, td⟩, pa, ta⟩ := q
    obtain ⟨⟨pb, pc, e1, hpc, hpl⟩, ⟨tb, tc, e2, htc, htl⟩⟩ := hpv
    have f1 : pa = .slice pb pg.length pc := e1
    have f2 : ta = .slice tb td.length tc := e2
    clear e1 e2
    subst f1 f2
    have HPG : Hid (Lies w w.heap.size pb 3 pg.length (fun j => pgC pg[j]!)) := hpl
    have HTD : Hid (Lies w w.heap.size tb 1 td.length (fun j => iC td[j]!)) := htl
    have HPC : Hid (pg.length ≤ pc ∧ (pb = none → pc = 0)) := hpc
    have HTC : Hid (td.length ≤ tc ∧ (tb = none → tc = 0)) := htc
    clear hpc htc
    clear hpl htl
    have HC0 : Hid (w.cell? ⟨b, o + i * 5, none⟩ = some (.int .i64 pi)) := hc 0 _ rfl
    have HC1 : Hid (w.cell? ⟨b, o + i * 5 + 1, none⟩ = some (.bool pt)) := hc 1 _ rfl
    have HC2 : Hid (w.cell? ⟨b, o + i * 5 + 2, none⟩ = some (.bool pd)) := hc 2 _ rfl
    have HC3 : Hid (w.cell? ⟨b, o + i * 5 + 3, none⟩ = some (.slice pb pg.length pc)) := hc 3 _ rfl
    have HC4 : Hid (w.cell? ⟨b, o + i * 5 + 4, none⟩ = some (.slice tb td.length tc)) := hc 4 _ rfl
    have HB := Lib.hid hb
    clear hc hxj hb
    rw [← HX.out] at hsm
    have hs1 : pg.length ≤ 1000 := hsm.1
    clear hsm
    have hpe : (ps[i]!).pages = pg := by rw [← HQS.out, HM.out, ← HX.out]
    cases hk : pg.findIdx? (numb n) with
    | none =>
      have HE := Lib.hid (HR.out.trans (show _ = Value.tuple #[.int .i64 (-1), .int .i64 (-1), .int .i64 41] by unfold rfindR findP; rw [hi]; dsimp only; rw [hpe, hk]; rfl))
      have HPA := Lib.hid (fun w h => rpage_any n (q := ⟨⟨pi, pt, pd, pg, td⟩, .slice pb pg.length pc, .slice tb td.length tc⟩) hs1 w h)
      have e : (⟨⟨pi, pt, pd, pg, td⟩, .slice pb pg.length pc, .slice tb td.length tc⟩ : Pv).p.pages.findIdx? (numb n) = none := hk
      rw [e] at HPA
      dsimp only [idx?] at HPA
      clear hi HR hpe hk e
      go_enter Try.func70, Try.ntmps70
      have H := HS.start NoD w
      go_wp2_with fail
      refine (HA.out).mono ?_
      rintro _ w1 ⟨rfl, hb⟩
      replace H := H.below hb
      clear hb
      try clear C
      try simp only [World.size_alloc, List.nil_append, List.cons_append, List.append_assoc] at H
      have C := H.cells
      try simp only [cellsOf, cellsM, apartOf, apartM, and_true] at C
      dsimp only
      try clear c0 c1 c2 c3 c4
      have c0 := (H.was HB.out (fun h => h)).trans HC0.out
      have c1 := (H.was HB.out (fun h => h)).trans HC1.out
      have c2 := (H.was HB.out (fun h => h)).trans HC2.out
      have c3 := (H.was HB.out (fun h => h)).trans HC3.out
      have c4 := (H.was HB.out (fun h => h)).trans HC4.out
      go_wp2_with fail
      refine (HPA.out _ ⟨⟨pb, pc, rfl, HPC.out, H.liesUp HPG.out⟩, ⟨tb, tc, rfl, HTC.out, H.liesUp HTD.out⟩⟩).mono ?_
      rintro _ w2 ⟨rfl, hb⟩
      replace H := H.below hb
      clear hb
      go_wp2_with fail
      refine bodyPost_ret (by simp [results, Try.results70, go_sem, C]; try rfl) rfl ?_
      exact ⟨by rw [HE.out], H.done⟩
    | some k =>
      have HE := Lib.hid (HR.out.trans (show _ = Value.tuple #[.int .i64 i, .int .i64 k, .int .i64 0] by unfold rfindR findP; rw [hi]; dsimp only; rw [hpe, hk]; rfl))
      have HPA := Lib.hid (fun w h => rpage_any n (q := ⟨⟨pi, pt, pd, pg, td⟩, .slice pb pg.length pc, .slice tb td.length tc⟩) hs1 w h)
      have e : (⟨⟨pi, pt, pd, pg, td⟩, .slice pb pg.length pc, .slice tb td.length tc⟩ : Pv).p.pages.findIdx? (numb n) = some k := hk
      rw [e] at HPA
      dsimp only [idx?] at HPA
      clear hi HR hpe hk e
      go_enter Try.func70, Try.ntmps70
      have H := HS.start NoD w
      go_wp2_with fail
      refine (HA.out).mono ?_
      rintro _ w1 ⟨rfl, hb⟩
      replace H := H.below hb
      clear hb
      try clear C
      try simp only [World.size_alloc, List.nil_append, List.cons_append, List.append_assoc] at H
      have C := H.cells
      try simp only [cellsOf, cellsM, apartOf, apartM, and_true] at C
      dsimp only
      try clear c0 c1 c2 c3 c4
      have c0 := (H.was HB.out (fun h => h)).trans HC0.out
      have c1 := (H.was HB.out (fun h => h)).trans HC1.out
      have c2 := (H.was HB.out (fun h => h)).trans HC2.out
      have c3 := (H.was HB.out (fun h => h)).trans HC3.out
      have c4 := (H.was HB.out (fun h => h)).trans HC4.out
      go_wp2_with fail
      refine (HPA.out _ ⟨⟨pb, pc, rfl, HPC.out, H.liesUp HPG.out⟩, ⟨tb, tc, rfl, HTC.out, H.liesUp HTD.out⟩⟩).mono ?_
      rintro _ w2 ⟨rfl, hb⟩
      replace H := H.below hb
      clear hb
      go_wp2_with fail
      refine bodyPost_ret (by simp [results, Try.results70, go_sem, C]; try rfl) rfl ?_
      exact ⟨by rw [HE.out], H.done⟩
end Go.Proofs.Ytmnddnlabdafcaa
