/- memfaultref29.Find. -/
import Derived.Test.YtedbpmckgiifpaaGreatOP5
namespace Go.Proofs.YtedbpmckgiifpaaGreat
set_option linter.unusedSimpArgs false
set_option linter.unusedVariables false
open Go.RowKit
set_option maxRecDepth 100000
attribute [local go_sem] lt_more ne_more ne_more'
attribute [local irreducible] wpX wpF Calls

theorem rfindR_err {ps : List Pr} {id n e : Int} (h : findP ps id n = (e, 0, 0)) (he : e = 41 ∨ e = 42) : rfindR ps id n = .tuple #[.int .i64 (-1), .int .i64 (-1), .int .i64 e] := by
  unfold rfindR; rw [h]; rcases he with rfl | rfl <;> rfl
theorem rfindR_ok {ps : List Pr} {id n : Int} {i k : Nat} (h : findP ps id n = (0, i, k)) : rfindR ps id n = .tuple #[.int .i64 i, .int .i64 k, .int .i64 0] := by
  unfold rfindR; rw [h]; rfl
set_option maxHeartbeats 4000000 in
theorem rFind_any (id n : Int) {v : Value} {ps : List Pr} (hx : SmallP ps) (w : World) (hl : Ps w w.heap.size v ps) :
    Calls Tryz.prog 31 #[v, .int .i64 id, .int .i64 n] w (Gives (.tuple #[vPg (getP ps id n).1, .int .i64 (getP ps id n).2]) w) := by
  have HA := Lib.hid (fun w h => rfind_any id n (v := v) hx w h)
  have HPS := Lib.hid hl
  obtain ⟨qs, hqs, ⟨sa, c, rfl, hc, hl⟩, hi⟩ := hl
  have hx1 : qs.length ≤ 1000 := by have := hx.1; rw [← hqs] at this; simpa using this
  have HSM := Lib.hid (fun j => smallQ (j := j) hx hqs)
  have HL := Lib.hid hl
  have HI := Lib.hid hi
  have HQS := Lib.hid hqs
  clear hl hi hc hqs hx
  rcases findP_cases ps id n with ⟨i, k, hf, hi, hk⟩ | ⟨e, hf, he⟩
  rotate_left
  · rw [rfindR_err hf he] at HA
    rw [getP_err hf he]
    clear hf HSM
    have hne : ((e : Int) == 0) = false := by rcases he with rfl | rfl <;> rfl
    clear he
    go_enter Tryz.func31, Tryz.ntmps31
    have H := HS.start NoD w
    go_wp2_with fail
    refine (HA.out _ (H.alloc.psUp HPS.out)).mono ?_
    rintro _ w1 ⟨rfl, hb⟩
    replace H := H.alloc.below hb
    clear hb
    try clear C
    try simp only [World.size_alloc, List.nil_append, List.cons_append, List.append_assoc] at H
    generalize w.heap.size = bR at H ⊢
    have C := H.cells
    try simp only [cellsOf, cellsM, apartOf, apartM, and_true] at C
    dsimp only
    go_wp2_with fail
    generalize hwb : ((w1.setCell _ _).setCell _ _).setCell _ _ = w2
    replace H := HS.eqW hwb (H.putAll (i := 0) rfl (vs := [.int .i64 0, .int .i64 0, .bool false]) rfl rfl)
    simp only [List.nil_append, List.cons_append, List.append_assoc, List.set_cons_succ, List.set_cons_zero] at H
    clear hwb
    try clear C
    try clear w1
    have C := H.cells
    try simp only [cellsOf, cellsM, apartOf, apartM, and_true] at C
    refine bodyPost_ret (by simp [results, Tryz.results31, go_sem, C]; try rfl) rfl ?_
    exact ⟨rfl, H.done⟩
  · rw [rfindR_ok hf] at HA
    rw [getP_ok hf]
    have hlt : i < qs.length := by have := (findIdx_some hi).1; rw [← HQS.out] at this; simpa using this
    have hsm := HSM.out i hlt
    obtain ⟨b, o, e0, hb, hc⟩ := HL.out.at hlt
    cases e0
    have HM := Lib.hid (map_at hlt)
    have hpv := HI.out _ (mem_at hlt)
    obtain ⟨q, hxj⟩ : ∃ q, q = qs[i]! := ⟨_, rfl⟩
    rw [← hxj] at hc hpv
    have HX := Lib.hid hxj
    obtain ⟨⟨pi, pt, pd, pg, td⟩, pa, ta⟩ := q
    obtain ⟨⟨pb, pc, e1, hpc, hpl⟩, ⟨tb, tc, e2, htc, htl⟩⟩ := hpv
    have f1 : pa = .slice pb pg.length pc := e1
    have f2 : ta = .slice tb td.length tc := e2
    clear e1 e2
    subst f1 f2
    have HPG : Hid (Lies w w.heap.size pb 3 pg.length (fun j => pgC pg[j]!)) := hpl
    have HTD : Hid (Lies w w.heap.size tb 1 td.length (fun j => iC td[j]!)) := htl
    have HPC : Hid (pg.length ≤ pc ∧ (pb = none → pc = 0)) := hpc
    have HTC : Hid (td.length ≤ tc ∧ (tb = none → tc = 0)) := htc
    clear hpc htc
    clear hpl htl
    have HC0 : Hid (w.cell? ⟨b, o + i * 5, none⟩ = some (.int .i64 pi)) := hc 0 _ rfl
    have HC1 : Hid (w.cell? ⟨b, o + i * 5 + 1, none⟩ = some (.bool pt)) := hc 1 _ rfl
    have HC2 : Hid (w.cell? ⟨b, o + i * 5 + 2, none⟩ = some (.bool pd)) := hc 2 _ rfl
    have HC3 : Hid (w.cell? ⟨b, o + i * 5 + 3, none⟩ = some (.slice pb pg.length pc)) := hc 3 _ rfl
    have HC4 : Hid (w.cell? ⟨b, o + i * 5 + 4, none⟩ = some (.slice tb td.length tc)) := hc 4 _ rfl
    have HB := Lib.hid hb
    clear hc hxj hb
    rw [← HX.out] at hsm
    have hs1 : pg.length ≤ 1000 := hsm.1
    have hpe : ps[i]! = ⟨pi, pt, pd, pg, td⟩ := by rw [← HQS.out, HM.out, ← HX.out]
    rw [hpe] at hk ⊢
    have hlk : k < pg.length := (findIdx_some hk).1
    dsimp only
    clear hf hi hk hpe hsm HSM
    go_enter Tryz.func31, Tryz.ntmps31
    have H := HS.start NoD w
    go_wp2_with fail
    refine (HA.out _ (H.alloc.psUp HPS.out)).mono ?_
    rintro _ w1 ⟨rfl, hb⟩
    replace H := H.alloc.below hb
    clear hb
    try clear C
    try simp only [World.size_alloc, List.nil_append, List.cons_append, List.append_assoc] at H
    generalize w.heap.size = bR at H ⊢
    have C := H.cells
    try simp only [cellsOf, cellsM, apartOf, apartM, and_true] at C
    dsimp only
    try clear c0 c1 c2 c3 c4
    have c0 := (H.was HB.out (fun h => h)).trans HC0.out
    have c1 := (H.was HB.out (fun h => h)).trans HC1.out
    have c2 := (H.was HB.out (fun h => h)).trans HC2.out
    have c3 := (H.was HB.out (fun h => h)).trans HC3.out
    have c4 := (H.was HB.out (fun h => h)).trans HC4.out
    obtain ⟨bg, og, rfl, hbg, hcg⟩ := (H.lies HPG.out).at hlk
    obtain ⟨g, hxg⟩ : ∃ q, q = pg[k]! := ⟨_, rfl⟩
    rw [← hxg] at hcg
    have HG := Lib.hid hxg
    obtain ⟨xn, xf, xs⟩ := g
    have d0 : w1.cell? ⟨bg, og + k * 3, none⟩ = some (.int .i64 xn) := hcg 0 _ rfl
    have d1 : w1.cell? ⟨bg, og + k * 3 + 1, none⟩ = some (.int .i64 xf) := hcg 1 _ rfl
    have d2 : w1.cell? ⟨bg, og + k * 3 + 2, none⟩ = some (.bool xs) := hcg 2 _ rfl
    clear hcg hxg
    go_wp2_with fail
    generalize hwb : ((w1.setCell _ _).setCell _ _).setCell _ _ = w2
    replace H := HS.eqW hwb (H.putAll (i := 0) rfl (vs := [.int .i64 xn, .int .i64 xf, .bool xs]) rfl rfl)
    simp only [List.nil_append, List.cons_append, List.append_assoc, List.set_cons_succ, List.set_cons_zero] at H
    clear hwb
    try clear C
    try clear w1
    have C := H.cells
    try simp only [cellsOf, cellsM, apartOf, apartM, and_true] at C
    refine bodyPost_ret (by simp [results, Tryz.results31, go_sem, C]; try rfl) rfl ?_
    exact ⟨by rw [← HG.out]; rfl, H.done⟩
end Go.Proofs.YtedbpmckgiifpaaGreat
