/- Package owner: Find, Map. -/
import Derived.Test.YtmnddnlabdafcaaOP4
import Derived.Test.YtmnddnlabdafcaaJ6
namespace Go.Proofs.Ytmnddnlabdafcaa
set_option linter.unusedSimpArgs false
set_option linter.unusedVariables false
open Go.RowKit
set_option maxRecDepth 100000
attribute [local go_sem] lt_more ne_more ne_more'
attribute [local irreducible] wpX wpF Calls

def vPg (x : Pg) : Value := .agg #[.int .i64 x.n, .int .i64 x.f, .bool x.s]
theorem getP_err {ps : List Pr} {id n e : Int} (h : findP ps id n = (e, 0, 0)) (he : e = 41 ∨ e = 42) : getP ps id n = (zPg, e) := by
  unfold getP; rw [h]; rcases he with rfl | rfl <;> rfl
theorem getP_ok {ps : List Pr} {id n : Int} {i k : Nat} (h : findP ps id n = (0, i, k)) : getP ps id n = ((ps[i]!).pages[k]!, 0) := by
  unfold getP; rw [h]; rfl
set_option maxHeartbeats 4000000 in
theorem oFind_any (id n : Int) {F : Int} {v : Value} {ps : List Pr} (hg : GoodP F ps) (w : World) (hl : Ps w w.heap.size v ps) :
    Calls Try.prog 19 #[v, .int .i64 id, .int .i64 n] w (Gives (.tuple #[vPg (getP ps id n).1, .int .i64 (getP ps id n).2]) w) := by
  have HA := Lib.hid (fun w h => ofind_any id n (v := v) hg w h)
  have HPS := Lib.hid hl
  obtain ⟨qs, hqs, ⟨sa, c, rfl, hc, hl⟩, hi⟩ := hl
  have hx1 : qs.length ≤ 1000 := by have := hg.smallP.1; rw [← hqs] at this; simpa using this
  have HSM := Lib.hid (fun j => smallQ (j := j) hg.smallP hqs)
  have HL := Lib.hid hl
  have HI := Lib.hid hi
  have HQS := Lib.hid hqs
  clear hl hi hc hqs hg
  rcases findP_cases ps id n with ⟨i, k, hf, hi, hk⟩ | ⟨e, hf, he⟩
  rotate_left
  · rw [ofindR_err hf he] at HA
    rw [getP_err hf he]
    clear hf HSM
    have hne : ((e : Int) == 0) = false := by rcases he with rfl | rfl <;> rfl
    clear he
    go_enter Try.func19, Try.ntmps19
    have H := HS.start NoD w
    go_wp2_with fail
    refine (HA.out _ (H.alloc.psUp HPS.out)).mono ?_
    rintro _ w1 ⟨rfl, hb⟩
    replace H := H.alloc.below hb
    clear hb
    try clear C
    try simp only [World.size_alloc, List.nil_append, List.cons_append, List.append_assoc] at H
    generalize w.heap.size = bR at H ⊢
    have C := H.cells
    try simp only [cellsOf, cellsM, apartOf, apartM, and_true] at C
    dsimp only
    go_wp2_with fail
    generalize hwb : ((w1.setCell _ _).setCell _ _).setCell _ _ = w2
    replace H := HS.eqW hwb (H.putAll (i := 0) rfl (vs := [.int .i64 0, .int .i64 0, .bool false]) rfl rfl)
    simp only [List.nil_append, List.cons_append, List.append_assoc, List.set_cons_succ, List.set_cons_zero] at H
    clear hwb
    try clear C
    try clear w1
    have C := H.cells
    try simp only [cellsOf, cellsM, apartOf, apartM, and_true] at C
    refine bodyPost_ret (by simp [results, Try.results19, go_sem, C]; try rfl) rfl ?_
    exact ⟨rfl, H.done⟩
  · rw [ofindR_ok hf] at HA
    rw [getP_ok hf]
    have hlt : i < qs.length := by have := (findIdx_some hi).1; rw [← HQS.out] at this; simpa using this
    have hsm := HSM.out i hlt
    obtain ⟨b, o, e0, hb, hc⟩ := HL.out.at hlt
    cases e0
    have HM := Lib.hid (map_at hlt)
    have hpv := HI.out _ (mem_at hlt)
    obtain ⟨q, hxj⟩ : ∃ q, q = qs[i]! := ⟨_, rfl⟩
    rw [← hxj] at hc hpv
    have HX := Lib.hid hxj
    obtain ⟨⟨pi, pt, pd, pg, td⟩, pa, ta⟩ := q
    obtain ⟨⟨pb, pc, e1, hpc, hpl⟩, ⟨tb, tc, e2, htc, htl⟩⟩ := hpv
    have f1 : pa = .slice pb pg.length pc := e1
    have f2 : ta = .slice tb td.length tc := e2
    clear e1 e2
    subst f1 f2
    have HPG : Hid (Lies w w.heap.size pb 3 pg.length (fun j => pgC pg[j]!)) := hpl
    have HTD : Hid (Lies w w.heap.size tb 1 td.length (fun j => iC td[j]!)) := htl
    have HPC : Hid (pg.length ≤ pc ∧ (pb = none → pc = 0)) := hpc
    have HTC : Hid (td.length ≤ tc ∧ (tb = none → tc = 0)) := htc
    clear hpc htc
    clear hpl htl
    have HC0 : Hid (w.cell? ⟨b, o + i * 5, none⟩ = some (.int .i64 pi)) := hc 0 _ rfl
    have HC1 : Hid (w.cell? ⟨b, o + i * 5 + 1, none⟩ = some (.bool pt)) := hc 1 _ rfl
    have HC2 : Hid (w.cell? ⟨b, o + i * 5 + 2, none⟩ = some (.bool pd)) := hc 2 _ rfl
    have HC3 : Hid (w.cell? ⟨b, o + i * 5 + 3, none⟩ = some (.slice pb pg.length pc)) := hc 3 _ rfl
    have HC4 : Hid (w.cell? ⟨b, o + i * 5 + 4, none⟩ = some (.slice tb td.length tc)) := hc 4 _ rfl
    have HB := Lib.hid hb
    clear hc hxj hb
    rw [← HX.out] at hsm
    have hs1 : pg.length ≤ 1000 := hsm.1
    have hpe : ps[i]! = ⟨pi, pt, pd, pg, td⟩ := by rw [← HQS.out, HM.out, ← HX.out]
    rw [hpe] at hk ⊢
    have hlk : k < pg.length := (findIdx_some hk).1
    dsimp only
    clear hf hi hk hpe hsm HSM
    go_enter Try.func19, Try.ntmps19
    have H := HS.start NoD w
    go_wp2_with fail
    refine (HA.out _ (H.alloc.psUp HPS.out)).mono ?_
    rintro _ w1 ⟨rfl, hb⟩
    replace H := H.alloc.below hb
    clear hb
    try clear C
    try simp only [World.size_alloc, List.nil_append, List.cons_append, List.append_assoc] at H
    generalize w.heap.size = bR at H ⊢
    have C := H.cells
    try simp only [cellsOf, cellsM, apartOf, apartM, and_true] at C
    dsimp only
    try clear c0 c1 c2 c3 c4
    have c0 := (H.was HB.out (fun h => h)).trans HC0.out
    have c1 := (H.was HB.out (fun h => h)).trans HC1.out
    have c2 := (H.was HB.out (fun h => h)).trans HC2.out
    have c3 := (H.was HB.out (fun h => h)).trans HC3.out
    have c4 := (H.was HB.out (fun h => h)).trans HC4.out
    obtain ⟨bg, og, rfl, hbg, hcg⟩ := (H.lies HPG.out).at hlk
    obtain ⟨g, hxg⟩ : ∃ q, q = pg[k]! := ⟨_, rfl⟩
    rw [← hxg] at hcg
    have HG := Lib.hid hxg
    obtain ⟨xn, xf, xs⟩ := g
    have d0 : w1.cell? ⟨bg, og + k * 3, none⟩ = some (.int .i64 xn) := hcg 0 _ rfl
    have d1 : w1.cell? ⟨bg, og + k * 3 + 1, none⟩ = some (.int .i64 xf) := hcg 1 _ rfl
    have d2 : w1.cell? ⟨bg, og + k * 3 + 2, none⟩ = some (.bool xs) := hcg 2 _ rfl
    clear hcg hxg
    go_wp2_with fail
    generalize hwb : ((w1.setCell _ _).setCell _ _).setCell _ _ = w2
    replace H := HS.eqW hwb (H.putAll (i := 0) rfl (vs := [.int .i64 xn, .int .i64 xf, .bool xs]) rfl rfl)
    simp only [List.nil_append, List.cons_append, List.append_assoc, List.set_cons_succ, List.set_cons_zero] at H
    clear hwb
    try clear C
    try clear w1
    have C := H.cells
    try simp only [cellsOf, cellsM, apartOf, apartM, and_true] at C
    refine bodyPost_ret (by simp [results, Try.results19, go_sem, C]; try rfl) rfl ?_
    exact ⟨by rw [← HG.out]; rfl, H.done⟩
theorem insPg_pos (pg : List Pg) (n f : Int) : insPg pg ⟨n, f, false⟩ = pg.take (posN pg n) ++ ⟨n, f, false⟩ :: pg.drop (posN pg n) := by
  unfold insPg posN
  have h := List.takeWhile_append_dropWhile (p := fun y : Pg => decide (y.n < n)) (l := pg)
  dsimp only
  obtain ⟨a, ha⟩ : ∃ a, a = pg.takeWhile fun y => decide (y.n < n) := ⟨_, rfl⟩
  obtain ⟨b, hb⟩ : ∃ b, b = pg.dropWhile fun y => decide (y.n < n) := ⟨_, rfl⟩
  rw [← ha, ← hb] at h ⊢
  rw [← h, List.take_left, List.drop_left]
theorem setSmallPg {F : Int} {ps : List Pr} (h : GoodP F ps) {i : Nat} (hi : i < ps.length) {pi : Int} {pt pd : Bool} {pg pg' : List Pg} {td : List Int} (he : ps[i]! = ⟨pi, pt, pd, pg, td⟩) (hl : pg'.length ≤ 1000) {pi' : Int} {pt' pd' : Bool} : SmallP (ps.set i ⟨pi', pt', pd', pg', td⟩) := by
  have h1 := h.smallP
  have h2 := h1.2 _ (at_mem hi)
  rw [he] at h2
  exact setSmall h1 i (p := ⟨pi', pt', pd', pg', td⟩) ⟨hl, h2.2⟩
set_option maxHeartbeats 8000000 in
theorem omap_any (id n f : Int) {F : Int} {v : Value} {ps : List Pr} (hg : GoodP F ps) (w : World) (hl : Ps w w.heap.size v ps) :
    Calls Try.prog 32 #[v, .int .i64 id, .int .i64 n, .int .i64 f] w (GivesP (fun v => .tuple #[v, .int .i64 (mapP ps id n f).1]) (mapP ps id n f).2 w) := by
  have HA := Lib.hid (fun w h => program_any id (v := v) hg.smallP.1 w h)
  have HU := Lib.hid (fun w h => ounused_any f (v := v) hg.smallP w h)
  have HCP := Lib.hid (fun w h => ocopy_any (v := v) hg.smallP w h)
  have HW1 := Lib.hid (fun w => within_any n 0 999 w)
  have HW2 := Lib.hid (fun w => within_any f 0 63 w)
  have HPS := Lib.hid hl
  have HG := Lib.hid hg
  obtain ⟨qs, hqs, ⟨sa, c, rfl, hc, hl⟩, hi⟩ := hl
  have hx1 : qs.length ≤ 1000 := by have := hg.smallP.1; rw [← hqs] at this; simpa using this
  have HGD := Lib.hid (fun j => goodAt (j := j) hg hqs)
  have HL := Lib.hid hl
  have HI := Lib.hid hi
  have HQS := Lib.hid hqs
  obtain ⟨R, hR⟩ : ∃ R, R = mapP ps id n f := ⟨_, rfl⟩
  rw [← hR]
  have HR := Lib.hid hR
  clear hl hi hqs hc hR hg
  cases hi : ps.findIdx? (live id) with
  | none =>
    rw [show progR ps id = .tuple #[.int .i64 0, .int .i64 42] by unfold progR; rw [hi]] at HA
    have HE := Lib.hid (HR.out.trans (show _ = ((42 : Int), ([] : List Pr)) by unfold mapP; rw [hi]))
    clear hi HR HU HCP HW1 HW2 HGD
    go_enter Try.func32, Try.ntmps32
    have H := HS.start NoD w
    go_wp2_with fail
    refine (HA.out _ (H.psUp HPS.out)).mono ?_
    rintro _ w1 ⟨rfl, hb⟩
    replace H := H.below hb
    clear hb
    try clear C
    try simp only [World.size_alloc, List.nil_append, List.cons_append, List.append_assoc] at H
    have C := H.cells
    try simp only [cellsOf, cellsM, apartOf, apartM, and_true] at C
    dsimp only
    go_wp2_with fail
    refine bodyPost_ret (by simp [results, Try.results32, go_sem, C]; try rfl) rfl ?_
    rw [HE.out]
    exact givesP_nil H _
  | some i =>
    rw [show progR ps id = .tuple #[.int .i64 i, .int .i64 0] by unfold progR; rw [hi]] at HA
    have hil := (findIdx_some hi).1
    have hlt : i < qs.length := by have := hil; rw [← HQS.out] at this; simpa using this
    have hsm := HGD.out i hlt
    obtain ⟨b, o, e0, hb, hc⟩ := HL.out.at hlt
    cases e0
    have HM := Lib.hid (map_at hlt)
    have hpv := HI.out _ (mem_at hlt)
    obtain ⟨q, hxj⟩ : ∃ q, q = qs[i]! := ⟨_, rfl⟩
    rw [← hxj] at hc hpv
    have HX := Lib.hid hxj
    obtain ⟨⟨pi, pt, pd, pg, td⟩, pa, ta⟩ := q
    obtain ⟨⟨pb, pc, e1, hpc, hpl⟩, ⟨tb, tc, e2, htc, htl⟩⟩ := hpv
    have f1 : pa = .slice pb pg.length pc := e1
    have f2 : ta = .slice tb td.length tc := e2
    clear e1 e2
    subst f1 f2
    have HPG : Hid (Lies w w.heap.size pb 3 pg.length (fun j => pgC pg[j]!)) := hpl
    have HTD : Hid (Lies w w.heap.size tb 1 td.length (fun j => iC td[j]!)) := htl
    have HPC : Hid (pg.length ≤ pc ∧ (pb = none → pc = 0)) := hpc
    have HTC : Hid (td.length ≤ tc ∧ (tb = none → tc = 0)) := htc
    clear hpc htc
    clear hpl htl
    have HC0 : Hid (w.cell? ⟨b, o + i * 5, none⟩ = some (.int .i64 pi)) := hc 0 _ rfl
    have HC1 : Hid (w.cell? ⟨b, o + i * 5 + 1, none⟩ = some (.bool pt)) := hc 1 _ rfl
    have HC2 : Hid (w.cell? ⟨b, o + i * 5 + 2, none⟩ = some (.bool pd)) := hc 2 _ rfl
    have HC3 : Hid (w.cell? ⟨b, o + i * 5 + 3, none⟩ = some (.slice pb pg.length pc)) := hc 3 _ rfl
    have HC4 : Hid (w.cell? ⟨b, o + i * 5 + 4, none⟩ = some (.slice tb td.length tc)) := hc 4 _ rfl
    have HB := Lib.hid hb
    clear hc hxj hb
    rw [← HX.out] at hsm
    have hs0 : pg.length ≤ 16 := hsm.plen
    have hs1 : pg.length ≤ 1000 := by omega
    have HSO := Lib.hid (show pg.Pairwise (·.n < ·.n) from hsm.pasc)
    clear hsm HGD
    have HP0 := Lib.hid (show ps[i]! = ⟨pi, pt, pd, pg, td⟩ by rw [← HQS.out, HM.out, ← HX.out])
    have HPA := Lib.hid (fun w h => oplace_any n (q := ⟨⟨pi, pt, pd, pg, td⟩, .slice pb pg.length pc, .slice tb td.length tc⟩) hs1 HSO.out w h)
    dsimp only at HPA
    have HF := Lib.hid (show R = (if n < 0 ∨ 999 < n ∨ f < 0 ∨ 64 ≤ f then (2, []) else if pg.any (numb n) = true then (8, []) else if usedB ps f = true then (43, []) else if 16 ≤ pg.length then (16, []) else (0, ps.set i ⟨pi, pt, pd, insPg pg ⟨n, f, false⟩, td⟩)) by rw [HR.out]; unfold mapP; rw [hi]; dsimp only; rw [HP0.out])
    clear hi HR
    have HPO := Lib.hid (insPg_pos pg n f)
    have hpl := pos_le pg n
    generalize posN pg n = kk at *
    by_cases hr : n < 0 ∨ 999 < n ∨ f < 0 ∨ 64 ≤ f
    · have HE := Lib.hid (HF.out.trans (if_pos hr))
      generalize pg.any (numb n) = bo at *
      clear HF HU HCP HPO
      by_cases hn : n < 0 ∨ 999 < n
      · rw [show (decide (0 ≤ n) && decide (n ≤ 999)) = false by rw [Bool.and_eq_false_iff, decide_eq_false_iff_not, decide_eq_false_iff_not]; omega] at HW1
        clear hr hn HW2
        go_enter Try.func32, Try.ntmps32
        have H := HS.start NoD w
        go_wp2_with fail
        refine (HA.out _ (H.psUp HPS.out)).mono ?_
        rintro _ w1 ⟨rfl, hb⟩
        replace H := H.below hb
        clear hb
        try clear C
        try simp only [World.size_alloc, List.nil_append, List.cons_append, List.append_assoc] at H
        have C := H.cells
        try simp only [cellsOf, cellsM, apartOf, apartM, and_true] at C
        dsimp only
        try clear c0 c1 c2 c3 c4
        have c0 := (H.was HB.out (fun h => h)).trans HC0.out
        have c1 := (H.was HB.out (fun h => h)).trans HC1.out
        have c2 := (H.was HB.out (fun h => h)).trans HC2.out
        have c3 := (H.was HB.out (fun h => h)).trans HC3.out
        have c4 := (H.was HB.out (fun h => h)).trans HC4.out
        go_wp2_with fail
        refine (HPA.out _ ⟨⟨pb, pc, rfl, HPC.out, H.liesUp HPG.out⟩, ⟨tb, tc, rfl, HTC.out, H.liesUp HTD.out⟩⟩).mono ?_
        rintro _ w2 ⟨rfl, hb⟩
        replace H := H.below hb
        clear hb
        try clear C
        try simp only [World.size_alloc, List.nil_append, List.cons_append, List.append_assoc] at H
        try clear w1
        have C := H.cells
        try simp only [cellsOf, cellsM, apartOf, apartM, and_true] at C
        dsimp only
        clear c0 c1 c2 c3 c4
        go_wp2_with fail
        refine (HW1.out _).mono ?_
        rintro _ w3 ⟨rfl, hb⟩
        replace H := H.below hb
        clear hb
        try clear C
        try simp only [World.size_alloc, List.nil_append, List.cons_append, List.append_assoc] at H
        try clear w2
        have C := H.cells
        try simp only [cellsOf, cellsM, apartOf, apartM, and_true] at C
        dsimp only
        go_wp2_with fail
        refine bodyPost_ret (by simp [results, Try.results32, go_sem, C]; try rfl) rfl ?_
        rw [HE.out]
        exact givesP_nil H _
      · rw [show (decide (0 ≤ n) && decide (n ≤ 999)) = true by rw [Bool.and_eq_true, decide_eq_true_iff, decide_eq_true_iff]; omega] at HW1
        rw [show (decide (0 ≤ f) && decide (f ≤ 63)) = false by rw [Bool.and_eq_false_iff, decide_eq_false_iff_not, decide_eq_false_iff_not]; omega] at HW2
        clear hr hn
        go_enter Try.func32, Try.ntmps32
        have H := HS.start NoD w
        go_wp2_with fail
        refine (HA.out _ (H.psUp HPS.out)).mono ?_
        rintro _ w1 ⟨rfl, hb⟩
        replace H := H.below hb
        clear hb
        try clear C
        try simp only [World.size_alloc, List.nil_append, List.cons_append, List.append_assoc] at H
        have C := H.cells
        try simp only [cellsOf, cellsM, apartOf, apartM, and_true] at C
        dsimp only
        try clear c0 c1 c2 c3 c4
        have c0 := (H.was HB.out (fun h => h)).trans HC0.out
        have c1 := (H.was HB.out (fun h => h)).trans HC1.out
        have c2 := (H.was HB.out (fun h => h)).trans HC2.out
        have c3 := (H.was HB.out (fun h => h)).trans HC3.out
        have c4 := (H.was HB.out (fun h => h)).trans HC4.out
        go_wp2_with fail
        refine (HPA.out _ ⟨⟨pb, pc, rfl, HPC.out, H.liesUp HPG.out⟩, ⟨tb, tc, rfl, HTC.out, H.liesUp HTD.out⟩⟩).mono ?_
        rintro _ w2 ⟨rfl, hb⟩
        replace H := H.below hb
        clear hb
        try clear C
        try simp only [World.size_alloc, List.nil_append, List.cons_append, List.append_assoc] at H
        try clear w1
        have C := H.cells
        try simp only [cellsOf, cellsM, apartOf, apartM, and_true] at C
        dsimp only
        clear c0 c1 c2 c3 c4
        go_wp2_with fail
        refine (HW1.out _).mono ?_
        rintro _ w3 ⟨rfl, hb⟩
        replace H := H.below hb
        clear hb
        try clear C
        try simp only [World.size_alloc, List.nil_append, List.cons_append, List.append_assoc] at H
        try clear w2
        have C := H.cells
        try simp only [cellsOf, cellsM, apartOf, apartM, and_true] at C
        dsimp only
        go_wp2_with fail
        refine (HW2.out _).mono ?_
        rintro _ w4 ⟨rfl, hb⟩
        replace H := H.below hb
        clear hb
        try clear C
        try simp only [World.size_alloc, List.nil_append, List.cons_append, List.append_assoc] at H
        try clear w3
        have C := H.cells
        try simp only [cellsOf, cellsM, apartOf, apartM, and_true] at C
        dsimp only
        go_wp2_with fail
        refine bodyPost_ret (by simp [results, Try.results32, go_sem, C]; try rfl) rfl ?_
        rw [HE.out]
        exact givesP_nil H _
    · have HF2 := Lib.hid (HF.out.trans (if_neg hr))
      rw [show (decide (0 ≤ n) && decide (n ≤ 999)) = true by rw [Bool.and_eq_true, decide_eq_true_iff, decide_eq_true_iff]; omega] at HW1
      rw [show (decide (0 ≤ f) && decide (f ≤ 63)) = true by rw [Bool.and_eq_true, decide_eq_true_iff, decide_eq_true_iff]; omega] at HW2
      clear HF hr
      cases hb0 : pg.any (numb n) with
      | true =>
        have HE := Lib.hid (HF2.out.trans (if_pos hb0))
        rw [hb0] at HPA
        clear HF2 HU HCP HPO hb0
        go_enter Try.func32, Try.ntmps32
        have H := HS.start NoD w
        go_wp2_with fail
        refine (HA.out _ (H.psUp HPS.out)).mono ?_
        rintro _ w1 ⟨rfl, hb⟩
        replace H := H.below hb
        clear hb
        try clear C
        try simp only [World.size_alloc, List.nil_append, List.cons_append, List.append_assoc] at H
        have C := H.cells
        try simp only [cellsOf, cellsM, apartOf, apartM, and_true] at C
        dsimp only
        try clear c0 c1 c2 c3 c4
        have c0 := (H.was HB.out (fun h => h)).trans HC0.out
        have c1 := (H.was HB.out (fun h => h)).trans HC1.out
        have c2 := (H.was HB.out (fun h => h)).trans HC2.out
        have c3 := (H.was HB.out (fun h => h)).trans HC3.out
        have c4 := (H.was HB.out (fun h => h)).trans HC4.out
        go_wp2_with fail
        refine (HPA.out _ ⟨⟨pb, pc, rfl, HPC.out, H.liesUp HPG.out⟩, ⟨tb, tc, rfl, HTC.out, H.liesUp HTD.out⟩⟩).mono ?_
        rintro _ w2 ⟨rfl, hb⟩
        replace H := H.below hb
        clear hb
        try clear C
        try simp only [World.size_alloc, List.nil_append, List.cons_append, List.append_assoc] at H
        try clear w1
        have C := H.cells
        try simp only [cellsOf, cellsM, apartOf, apartM, and_true] at C
        dsimp only
        clear c0 c1 c2 c3 c4
        go_wp2_with fail
        refine (HW1.out _).mono ?_
        rintro _ w3 ⟨rfl, hb⟩
        replace H := H.below hb
        clear hb
        try clear C
        try simp only [World.size_alloc, List.nil_append, List.cons_append, List.append_assoc] at H
        try clear w2
        have C := H.cells
        try simp only [cellsOf, cellsM, apartOf, apartM, and_true] at C
        dsimp only
        go_wp2_with fail
        refine (HW2.out _).mono ?_
        rintro _ w4 ⟨rfl, hb⟩
        replace H := H.below hb
        clear hb
        try clear C
        try simp only [World.size_alloc, List.nil_append, List.cons_append, List.append_assoc] at H
        try clear w3
        have C := H.cells
        try simp only [cellsOf, cellsM, apartOf, apartM, and_true] at C
        dsimp only
        go_wp2_with fail
        refine bodyPost_ret (by simp [results, Try.results32, go_sem, C]; try rfl) rfl ?_
        rw [HE.out]
        exact givesP_nil H _
      | false =>
        have HF3 := Lib.hid (HF2.out.trans (if_neg (by rw [hb0]; decide)))
        rw [hb0] at HPA
        clear HF2 hb0
        cases hu : usedB ps f with
        | true =>
          have HE := Lib.hid (HF3.out.trans (if_pos hu))
          rw [hu] at HU
          clear HF3 HCP HPO hu
          go_enter Try.func32, Try.ntmps32
          have H := HS.start NoD w
          go_wp2_with fail
          refine (HA.out _ (H.psUp HPS.out)).mono ?_
          rintro _ w1 ⟨rfl, hb⟩
          replace H := H.below hb
          clear hb
          try clear C
          try simp only [World.size_alloc, List.nil_append, List.cons_append, List.append_assoc] at H
          have C := H.cells
          try simp only [cellsOf, cellsM, apartOf, apartM, and_true] at C
          dsimp only
          try clear c0 c1 c2 c3 c4
          have c0 := (H.was HB.out (fun h => h)).trans HC0.out
          have c1 := (H.was HB.out (fun h => h)).trans HC1.out
          have c2 := (H.was HB.out (fun h => h)).trans HC2.out
          have c3 := (H.was HB.out (fun h => h)).trans HC3.out
          have c4 := (H.was HB.out (fun h => h)).trans HC4.out
          go_wp2_with fail
          refine (HPA.out _ ⟨⟨pb, pc, rfl, HPC.out, H.liesUp HPG.out⟩, ⟨tb, tc, rfl, HTC.out, H.liesUp HTD.out⟩⟩).mono ?_
          rintro _ w2 ⟨rfl, hb⟩
          replace H := H.below hb
          clear hb
          try clear C
          try simp only [World.size_alloc, List.nil_append, List.cons_append, List.append_assoc] at H
          try clear w1
          have C := H.cells
          try simp only [cellsOf, cellsM, apartOf, apartM, and_true] at C
          dsimp only
          clear c0 c1 c2 c3 c4
          go_wp2_with fail
          refine (HW1.out _).mono ?_
          rintro _ w3 ⟨rfl, hb⟩
          replace H := H.below hb
          clear hb
          try clear C
          try simp only [World.size_alloc, List.nil_append, List.cons_append, List.append_assoc] at H
          try clear w2
          have C := H.cells
          try simp only [cellsOf, cellsM, apartOf, apartM, and_true] at C
          dsimp only
          go_wp2_with fail
          refine (HW2.out _).mono ?_
          rintro _ w4 ⟨rfl, hb⟩
          replace H := H.below hb
          clear hb
          try clear C
          try simp only [World.size_alloc, List.nil_append, List.cons_append, List.append_assoc] at H
          try clear w3
          have C := H.cells
          try simp only [cellsOf, cellsM, apartOf, apartM, and_true] at C
          dsimp only
          go_wp2_with fail
          refine (HU.out _ (H.psUp HPS.out)).mono ?_
          rintro _ w5 ⟨rfl, hb⟩
          replace H := H.below hb
          clear hb
          try clear C
          try simp only [World.size_alloc, List.nil_append, List.cons_append, List.append_assoc] at H
          try clear w4
          have C := H.cells
          try simp only [cellsOf, cellsM, apartOf, apartM, and_true] at C
          dsimp only
          go_wp2_with fail
          refine bodyPost_ret (by simp [results, Try.results32, go_sem, C]; try rfl) rfl ?_
          rw [HE.out]
          exact givesP_nil H _
        | false =>
          have HF4 := Lib.hid (HF3.out.trans (if_neg (by rw [hu]; decide)))
          rw [hu] at HU
          clear HF3 hu
          by_cases hfu : 16 ≤ pg.length
          · have HE := Lib.hid (HF4.out.trans (if_pos hfu))
            have hfu2 : (16 : Int) ≤ pg.length := by omega
            clear HF4 HCP HPO
            go_enter Try.func32, Try.ntmps32
            have H := HS.start NoD w
            go_wp2_with fail
            refine (HA.out _ (H.psUp HPS.out)).mono ?_
            rintro _ w1 ⟨rfl, hb⟩
            replace H := H.below hb
            clear hb
            try clear C
            try simp only [World.size_alloc, List.nil_append, List.cons_append, List.append_assoc] at H
            have C := H.cells
            try simp only [cellsOf, cellsM, apartOf, apartM, and_true] at C
            dsimp only
            try clear c0 c1 c2 c3 c4
            have c0 := (H.was HB.out (fun h => h)).trans HC0.out
            have c1 := (H.was HB.out (fun h => h)).trans HC1.out
            have c2 := (H.was HB.out (fun h => h)).trans HC2.out
            have c3 := (H.was HB.out (fun h => h)).trans HC3.out
            have c4 := (H.was HB.out (fun h => h)).trans HC4.out
            go_wp2_with fail
            refine (HPA.out _ ⟨⟨pb, pc, rfl, HPC.out, H.liesUp HPG.out⟩, ⟨tb, tc, rfl, HTC.out, H.liesUp HTD.out⟩⟩).mono ?_
            rintro _ w2 ⟨rfl, hb⟩
            replace H := H.below hb
            clear hb
            try clear C
            try simp only [World.size_alloc, List.nil_append, List.cons_append, List.append_assoc] at H
            try clear w1
            have C := H.cells
            try simp only [cellsOf, cellsM, apartOf, apartM, and_true] at C
            dsimp only
            clear c0 c1 c2 c3 c4
            go_wp2_with fail
            refine (HW1.out _).mono ?_
            rintro _ w3 ⟨rfl, hb⟩
            replace H := H.below hb
            clear hb
            try clear C
            try simp only [World.size_alloc, List.nil_append, List.cons_append, List.append_assoc] at H
            try clear w2
            have C := H.cells
            try simp only [cellsOf, cellsM, apartOf, apartM, and_true] at C
            dsimp only
            go_wp2_with fail
            refine (HW2.out _).mono ?_
            rintro _ w4 ⟨rfl, hb⟩
            replace H := H.below hb
            clear hb
            try clear C
            try simp only [World.size_alloc, List.nil_append, List.cons_append, List.append_assoc] at H
            try clear w3
            have C := H.cells
            try simp only [cellsOf, cellsM, apartOf, apartM, and_true] at C
            dsimp only
            go_wp2_with fail
            refine (HU.out _ (H.psUp HPS.out)).mono ?_
            rintro _ w5 ⟨rfl, hb⟩
            replace H := H.below hb
            clear hb
            try clear C
            try simp only [World.size_alloc, List.nil_append, List.cons_append, List.append_assoc] at H
            try clear w4
            have C := H.cells
            try simp only [cellsOf, cellsM, apartOf, apartM, and_true] at C
            dsimp only
            try clear c0 c1 c2 c3 c4
            have c0 := (H.was HB.out (fun h => h)).trans HC0.out
            have c1 := (H.was HB.out (fun h => h)).trans HC1.out
            have c2 := (H.was HB.out (fun h => h)).trans HC2.out
            have c3 := (H.was HB.out (fun h => h)).trans HC3.out
            have c4 := (H.was HB.out (fun h => h)).trans HC4.out
            go_wp2_with fail
            refine bodyPost_ret (by simp [results, Try.results32, go_sem, C]; try rfl) rfl ?_
            rw [HE.out]
            exact givesP_nil H _
          · have HE := Lib.hid (HF4.out.trans (if_neg hfu))
            have hfu2 : ¬ (16 : Int) ≤ pg.length := by omega
            have hqq : Hid (ps[i]! = ⟨pi, pt, pd, pg, td⟩) := HP0
            clear HF4
            go_enter Try.func32, Try.ntmps32
            have H := HS.start NoD w
            go_wp2_with fail
            refine (HA.out _ (H.psUp HPS.out)).mono ?_
            rintro _ w1 ⟨rfl, hb⟩
            replace H := H.below hb
            clear hb
            try clear C
            try simp only [World.size_alloc, List.nil_append, List.cons_append, List.append_assoc] at H
            have C := H.cells
            try simp only [cellsOf, cellsM, apartOf, apartM, and_true] at C
            dsimp only
            try clear c0 c1 c2 c3 c4
            have c0 := (H.was HB.out (fun h => h)).trans HC0.out
            have c1 := (H.was HB.out (fun h => h)).trans HC1.out
            have c2 := (H.was HB.out (fun h => h)).trans HC2.out
            have c3 := (H.was HB.out (fun h => h)).trans HC3.out
            have c4 := (H.was HB.out (fun h => h)).trans HC4.out
            go_wp2_with fail
            refine (HPA.out _ ⟨⟨pb, pc, rfl, HPC.out, H.liesUp HPG.out⟩, ⟨tb, tc, rfl, HTC.out, H.liesUp HTD.out⟩⟩).mono ?_
            rintro _ w2 ⟨rfl, hb⟩
            replace H := H.below hb
            clear hb
            try clear C
            try simp only [World.size_alloc, List.nil_append, List.cons_append, List.append_assoc] at H
            try clear w1
            have C := H.cells
            try simp only [cellsOf, cellsM, apartOf, apartM, and_true] at C
            dsimp only
            clear c0 c1 c2 c3 c4
            go_wp2_with fail
            refine (HW1.out _).mono ?_
            rintro _ w3 ⟨rfl, hb⟩
            replace H := H.below hb
            clear hb
            try clear C
            try simp only [World.size_alloc, List.nil_append, List.cons_append, List.append_assoc] at H
            try clear w2
            have C := H.cells
            try simp only [cellsOf, cellsM, apartOf, apartM, and_true] at C
            dsimp only
            go_wp2_with fail
            refine (HW2.out _).mono ?_
            rintro _ w4 ⟨rfl, hb⟩
            replace H := H.below hb
            clear hb
            try clear C
            try simp only [World.size_alloc, List.nil_append, List.cons_append, List.append_assoc] at H
            try clear w3
            have C := H.cells
            try simp only [cellsOf, cellsM, apartOf, apartM, and_true] at C
            dsimp only
            go_wp2_with fail
            refine (HU.out _ (H.psUp HPS.out)).mono ?_
            rintro _ w5 ⟨rfl, hb⟩
            replace H := H.below hb
            clear hb
            try clear C
            try simp only [World.size_alloc, List.nil_append, List.cons_append, List.append_assoc] at H
            try clear w4
            have C := H.cells
            try simp only [cellsOf, cellsM, apartOf, apartM, and_true] at C
            dsimp only
            try clear c0 c1 c2 c3 c4
            have c0 := (H.was HB.out (fun h => h)).trans HC0.out
            have c1 := (H.was HB.out (fun h => h)).trans HC1.out
            have c2 := (H.was HB.out (fun h => h)).trans HC2.out
            have c3 := (H.was HB.out (fun h => h)).trans HC3.out
            have c4 := (H.was HB.out (fun h => h)).trans HC4.out
            go_wp2_with fail
            clear c0 c1 c2 c3 c4 HC0 HC1 HC2 HC3 HC4 HPG HTD HPC HTC HPA HA HU HW1 HW2 HX HM HL HI HB HSO
            refine (HCP.out _ (H.psUp HPS.out)).mono ?_
            rintro _ w6 ⟨v4, rs, rfl, hrs, K⟩
            replace H := H.join1 K
            clear K HCP
            try clear C
            have hrl : rs.length = ps.length := by rw [← hrs]; simp
            have hir : i < rs.length := by omega
            have hop := HS.openAt (L := []) H hir
            clear H
            obtain ⟨g, d, pb, pc, tb, tc, rfl, hcap, hpa, hta, H⟩ := hop
            simp only [List.nil_append, List.cons_append] at H
            obtain ⟨pv, hpv⟩ : ∃ q, q = rs[i]! := ⟨_, rfl⟩
            rw [← hpv] at H hpa hta
            have hpe : ps[i]! = pv.p := by rw [← hrs, map_at hir, hpv]
            have HPV := Lib.hid hpv
            have HRS := Lib.hid hrs
            have HPE := Lib.hid hpe
            have HRL := Lib.hid hrl
            clear hpv hrs hpe
            obtain ⟨p4, pa, ta⟩ := pv
            have f0 : p4 = ⟨pi, pt, pd, pg, td⟩ := HPE.out.symm.trans HP0.out
            subst f0
            have f1 : pa = .slice pb pg.length pc := hpa
            have f2 : ta = .slice tb td.length tc := hta
            clear hpa hta
            subst f1 f2
            clear hrl
            dsimp only at H HPE ⊢
            clear hqq
            have k3 := (H.outerCell 0 rfl rfl hir (m := 3) (u := .slice pb pg.length pc) (by decide) (by rw [← HPV.out]; rfl)).1
            go_wp2_with fail
            clear k3
            refine (insert_anyPg (cs := pg.flatMap pgC) (X := [.int .i64 n, .int .i64 f, .bool false]) rfl (fun u hu => pgC_one [⟨n, f, false⟩] u (by simpa [pgC] using hu)) hpl (by omega) (fun g e => ?hne) (pgC_one pg) _ (H.alloc.at 1 rfl) (H.alloc.at 4 rfl)).mono ?_
            case hne =>
              subst e
              have hgl := (World.ownsRow.lt (H.at 1 rfl) g rfl).2
              omega
            rintro _ w9 ⟨g9, c9, rfl, h2, h3, h4⟩
            replace H := H.alloc.grewAt 1 rfl h2 h3 h4
            clear h2 h3 h4
            simp only [List.nil_append, List.cons_append, List.append_assoc, List.set_cons_succ, List.set_cons_zero] at H
            skip
            dsimp only
            have k3 := H.outerCell 0 rfl rfl hir (m := 3) (u := .slice pb pg.length pc) (by decide) (by rw [← HPV.out]; rfl)
            obtain ⟨k3, k3f⟩ := k3
            go_wp2_with fail
            clear k3 k3f
            generalize hwb : World.setCell _ _ _ = wf
            have H9 := HS.eqW hwb (H.rowSet 0 rfl (i * 5 + 3) (.slice (some ⟨g9, 0, none⟩) (pg.length + 1) c9))
            clear hwb H
            obtain ⟨q', hq'⟩ : ∃ q' : Pv, q' = ⟨⟨pi, pt, pd, insPg pg ⟨n, f, false⟩, td⟩, .slice (some ⟨g9, 0, none⟩) (pg.length + 1) c9, .slice tb td.length tc⟩ := ⟨_, rfl⟩
            have hil2 := insPg_len pg ⟨n, f, false⟩
            have hfl : (insPg pg ⟨n, f, false⟩).flatMap pgC = (pg.flatMap pgC).take (kk * 3) ++ [.int .i64 n, .int .i64 f, .bool false] ++ (pg.flatMap pgC).drop (kk * 3) := by
              rw [HPO.out, flatTake pgC_len, flatDrop pgC_len, List.flatMap_append, List.flatMap_cons]; simp [pgC]
            have hpv : pvC q' = (pvC rs[i]!).set 3 (.slice (some ⟨g9, 0, none⟩) (pg.length + 1) c9) := by rw [hq', ← HPV.out]; rfl
            have H := HS.shutAt (L := []) (g := g) (d := d) (rs := rs) (i := i) (cells := (rs.flatMap pvC).set (i * 5 + 3) (.slice (some ⟨g9, 0, none⟩) (pg.length + 1) c9)) q' (by
              rw [hq']; unfold pagesR toldR; dsimp only; rw [hil2, hfl]
              simp only [List.append_assoc]
              exact HS.less H9 (by simp only [List.append_assoc, List.cons_append, List.nil_append]; repeat (first | exact .slnil | refine .cons_cons _ ?_ | refine .cons _ ?_))) hir (flat_set pvC_len rs i 3 _ _ hir (by decide) hpv).symm
            clear H9 hfl hpv
            try clear C
            try simp only [World.size_alloc, List.nil_append, List.cons_append, List.append_assoc] at H
            have C := H.cells
            try simp only [cellsOf, cellsM, apartOf, apartM, and_true] at C
            go_wp2_with fail
            refine bodyPost_ret (by simp [results, Try.results32, go_sem, C]; try rfl) rfl ?_
            rw [HE.out]
            exact ⟨.slice (some ⟨g, 0, none⟩) rs.length d, rs.set i q', rfl, by rw [List.map_set, HRS.out, hq'], H⟩
end Go.Proofs.Ytmnddnlabdafcaa
