/- Package owner: program, place, find, Find, unused, left, within. -/
import Derived.Test.YtedbpmckgiifpaaGreatOP1
namespace Go.Proofs.YtedbpmckgiifpaaGreat
set_option linter.unusedSimpArgs false
set_option linter.unusedVariables false
open Go.RowKit
set_option maxRecDepth 100000
attribute [local go_sem] lt_more ne_more ne_more'
attribute [local irreducible] wpX wpF Calls

def progR (ps : List Pr) (id : Int) : Value := match ps.findIdx? (live id) with | none => .tuple #[.int .i64 0, .int .i64 42] | some i => .tuple #[.int .i64 i, .int .i64 0]
theorem find_of {p : Pr → Bool} {qs : List Pv} {r : Int} (h : (r = -1 ∧ ∀ i, i < qs.length → p (qs[i]!).p = false) ∨ ∃ i : Nat, i < qs.length ∧ r = i ∧ p (qs[i]!).p = true ∧ ∀ j, j < i → p (qs[j]!).p = false) : r = idx? ((qs.map (·.p)).findIdx? p) := by
  rcases h with ⟨rfl, h⟩ | ⟨i, hi, rfl, h, h2⟩
  · rw [findIdx_none fun i hi => by rw [map_at (by simpa using hi)]; exact h i (by simpa using hi)]; rfl
  · rw [findIdx_first (k := i) (by simpa using hi) (by rw [map_at hi]; exact h) (fun j hj => by rw [map_at (by omega)]; exact h2 j hj)]; rfl
theorem program_any (id : Int) {v : Value} {ps : List Pr} (hx : ps.length ≤ 1000) (w : World) (hl : Ps w w.heap.size v ps) :
    Calls Tryz.prog 80 #[v, .int .i64 id] w (Gives (progR ps id) w) := by
  obtain ⟨qs, rfl, ⟨sa, c, rfl, hc, hl⟩, hi⟩ := hl
  rw [List.length_map] at hx
  have HL := Lib.hid hl
  clear hl hi hc
  obtain ⟨R, hR⟩ : ∃ R, R = progR (qs.map (·.p)) id := ⟨_, rfl⟩
  rw [← hR]
  have HR := Lib.hid hR
  clear hR
  go_enter Tryz.func80, Tryz.ntmps80
  have H := HS.start NoD w
  go_wp2_with fail
  generalize hwb : w.alloc _ = w1
  replace H := HS.eqW hwb H.alloc
  try simp only [World.size_alloc, List.nil_append, List.cons_append, List.append_assoc] at H
  clear hwb
  generalize w.heap.size = bI at H ⊢
  try clear C
  have C := H.cells
  try simp only [cellsOf, cellsM, apartOf, apartM, and_true] at C
  have hcon := findPr 89 (fun _ _ => rfl) #[.pointer (some ⟨bI, 0, none⟩)] (fun q => live id q.p) c (by omega) w1 (H.liesUp HL.out) (fun W x hb => prog1_any x id bI W ((Blk.below (H.at 0 rfl) hb).cell 0) (Blk.below (H.at 0 rfl) hb).lt)
  refine (hcon).mono ?_
  rintro _ w2 ⟨r, rfl, hr, hb⟩
  replace H := H.below hb
  clear hb
  try clear C
  try simp only [World.size_alloc, List.nil_append, List.cons_append, List.append_assoc] at H
  try clear w1
  have C := H.cells
  try simp only [cellsOf, cellsM, apartOf, apartM, and_true] at C
  dsimp only
  have hr2 := find_of (p := live id) hr
  cases hf : (qs.map (·.p)).findIdx? (live id) with
  | none =>
    rw [hf] at hr2
    have HE := Lib.hid (HR.out.trans (show _ = Value.tuple #[.int .i64 0, .int .i64 42] by unfold progR; rw [hf]))
    clear hr hf HR hcon
    subst hr2
    dsimp only [idx?]
    go_wp2_with fail
    refine bodyPost_ret (by simp [results, Tryz.results80, go_sem, C]; try rfl) rfl ?_
    exact ⟨by rw [HE.out], H.done⟩
  | some i =>
    rw [hf] at hr2
    have HE := Lib.hid (HR.out.trans (show _ = Value.tuple #[.int .i64 i, .int .i64 0] by unfold progR; rw [hf]))
    clear hr hf HR hcon
    subst hr2
    dsimp only [idx?]
    go_wp2_with fail
    refine bodyPost_ret (by simp [results, Tryz.results80, go_sem, C]; try rfl) rfl ?_
    exact ⟨by rw [HE.out], H.done⟩
def posN (pg : List Pg) (n : Int) : Nat := (pg.takeWhile fun y => decide (y.n < n)).length
theorem pos_le (pg : List Pg) (n : Int) : posN pg n ≤ pg.length := (List.takeWhile_sublist _).length_le
theorem pos_of {pg : List Pg} {n : Int} (hs : pg.Pairwise (·.n < ·.n)) {i : Nat} (h0 : i ≤ pg.length) (h1 : ∀ k, k < i → (pg[k]!).n < n) (h2 : ∀ k, i ≤ k → k < pg.length → n ≤ (pg[k]!).n) : i = posN pg n ∧ decide (i < pg.length ∧ (pg[i]!).n = n) = pg.any (numb n) := by
  have h3 := (takeWhile_at (p := fun y : Pg => decide (y.n < n)) h0 (fun m hm => decide_eq_true (h1 m hm)) (fun h => decide_eq_false (by have := h2 i (Nat.le_refl _) h; omega))).1
  refine ⟨by unfold posN; rw [h3, List.length_take]; omega, ?_⟩
  rw [Bool.eq_iff_iff, decide_eq_true_eq, List.any_eq_true]
  constructor
  · rintro ⟨a, b⟩
    exact ⟨_, mem_at a, decide_eq_true b⟩
  · rintro ⟨x, hx, h⟩
    obtain ⟨m, hm, rfl⟩ := List.getElem_of_mem hx
    have h := of_decide_eq_true h
    rw [← getElem!_pos pg m hm] at h
    have hmi : i ≤ m := by
      refine Nat.le_of_not_lt fun hlt => ?_
      have := h1 m hlt; omega
    have hlt : i < pg.length := by omega
    refine ⟨hlt, ?_⟩
    rcases Nat.lt_or_eq_of_le hmi with h4 | rfl
    · have h5 := List.pairwise_iff_getElem.1 hs i m hlt hm h4
      rw [← getElem!_pos pg m hm, ← getElem!_pos pg i hlt] at h5
      have := h2 i (Nat.le_refl _) hlt
      omega
    · exact h
theorem pos_some {pg : List Pg} (hs : pg.Pairwise (·.n < ·.n)) {n : Int} {k : Nat} (h : pg.findIdx? (numb n) = some k) : posN pg n = k ∧ pg.any (numb n) = true := by
  obtain ⟨h1, h2⟩ := findIdx_some h
  have h3 := of_decide_eq_true h2
  have := pos_of (n := n) hs (i := k) (by omega) (fun m hm => by
    have := List.pairwise_iff_getElem.1 hs m k (by omega) h1 hm
    rw [← getElem!_pos pg m (by omega), ← getElem!_pos pg k h1] at this
    omega) (fun m hm hl => by
    rcases Nat.lt_or_eq_of_le hm with h4 | rfl
    · have := List.pairwise_iff_getElem.1 hs k m h1 hl h4
      rw [← getElem!_pos pg m hl, ← getElem!_pos pg k h1] at this
      omega
    · omega)
  exact ⟨this.1.symm, List.any_eq_true.2 ⟨_, mem_at h1, h2⟩⟩
theorem pos_none {pg : List Pg} {n : Int} (h : pg.findIdx? (numb n) = none) : pg.any (numb n) = false := by
  rw [List.any_eq_false]
  intro x hx
  rw [List.findIdx?_eq_none_iff] at h
  rw [h x hx]; decide
theorem oplace_any (n : Int) {q : Pv} (hx : q.p.pages.length ≤ 1000) (hs : q.p.pages.Pairwise (·.n < ·.n)) (w : World) (hl : PvAt w w.heap.size q) :
    Calls Tryz.prog 93 #[vPr q, .int .i64 n] w (Gives (.tuple #[.int .i64 (posN q.p.pages n), .bool (q.p.pages.any (numb n))]) w) := by
  obtain ⟨⟨pi, pt, pd, pg, td⟩, pa, ta⟩ := q
  obtain ⟨⟨pb, pc, e1, hpc, hpl⟩, ⟨tb, tc, e2, htc, -⟩⟩ := hl
  have f1 : pa = .slice pb pg.length pc := e1
  have f2 : ta = .slice tb td.length tc := e2
  clear e1 e2
  subst f1 f2
  have hx : pg.length ≤ 1000 := hx
  have hs : pg.Pairwise (·.n < ·.n) := hs
  have HL : Hid (Lies w w.heap.size pb 3 pg.length (fun j => pgC pg[j]!)) := hpl
  have HS0 := Lib.hid hs
  obtain ⟨r, hr⟩ : ∃ r, r = posN pg n := ⟨_, rfl⟩
  obtain ⟨bo, hbo⟩ : ∃ r, r = pg.any (numb n) := ⟨_, rfl⟩
  show Calls Tryz.prog 93 #[.agg #[.int .i64 pi, .bool pt, .bool pd, .slice pb pg.length pc, .slice tb td.length tc], .int .i64 n] w (Gives (.tuple #[.int .i64 (posN pg n), .bool (pg.any (numb n))]) w)
  rw [← hr, ← hbo]
  have HR := Lib.hid hr
  have HBO := Lib.hid hbo
  clear hr hpl hs hbo hpc htc
  go_enter Tryz.func93, Tryz.ntmps93
  have H := HS.start NoD w
  go_wp2_with fail
  generalize hwb : w.alloc _ = w1
  replace H := HS.eqW hwb H.alloc
  try simp only [World.size_alloc, List.nil_append, List.cons_append, List.append_assoc] at H
  clear hwb
  generalize w.heap.size = bX at H ⊢
  try clear C
  have C := H.cells
  try simp only [cellsOf, cellsM, apartOf, apartM, and_true] at C
  go_wp2_with fail
  refine (bsearchPg n pc (by omega) HS0.out _ (H.liesUp HL.out)).mono ?_
  rintro _ w2 ⟨i, h0, h1, h2, rfl, hb⟩
  replace H := H.below hb
  have h3 := pos_of HS0.out h0 h1 h2
  clear hb h1 h2
  obtain ⟨h3, h4⟩ := h3
  rw [← HR.out] at h3
  rw [← HBO.out] at h4
  rw [h4]
  subst h3
  clear h4
  dsimp only
  go_wp2_with fail
  refine bodyPost_ret (by simp [results, Tryz.results93, go_sem, C]; try rfl) rfl ?_
  exact ⟨rfl, H.done⟩
def ofindR (ps : List Pr) (id n : Int) : Value := match findP ps id n with | (0, i, k) => .tuple #[.int .i64 i, .int .i64 k, .int .i64 0] | (e, _, _) => .tuple #[.int .i64 0, .int .i64 0, .int .i64 e]
theorem GoodP.smallP {F : Int} {ps : List Pr} (h : GoodP F ps) : SmallP ps := ⟨by have := h.len; omega, fun p hp => by have := (h.one p hp).plen; have := (h.one p hp).told; omega⟩
theorem goodAt {F : Int} {ps : List Pr} {qs : List Pv} (h : GoodP F ps) (e : qs.map (·.p) = ps) {j : Nat} (hj : j < qs.length) : Good1 F (qs[j]!).p := h.one _ (by rw [← e]; exact List.mem_map.2 ⟨_, mem_at hj, rfl⟩)
set_option maxHeartbeats 2000000 in
theorem ofind_any (id n : Int) {F : Int} {v : Value} {ps : List Pr} (hg : GoodP F ps) (w : World) (hl : Ps w w.heap.size v ps) :
    Calls Tryz.prog 86 #[v, .int .i64 id, .int .i64 n] w (Gives (ofindR ps id n) w) := by
  have hx := hg.smallP
  have HA := Lib.hid (program_any id hx.1 w hl)
  obtain ⟨qs, hqs, ⟨sa, c, rfl, hc, hl⟩, hi⟩ := hl
  have hx1 : qs.length ≤ 1000 := by have := hx.1; rw [← hqs] at this; simpa using this
  have HGD := Lib.hid (fun j => goodAt (j := j) hg hqs)
  have HL := Lib.hid hl
  have HI := Lib.hid hi
  have HQS := Lib.hid hqs
  obtain ⟨R, hR⟩ : ∃ R, R = ofindR ps id n := ⟨_, rfl⟩
  rw [← hR]
  have HR := Lib.hid hR
  clear hl hi hx hqs hc hR hg
  cases hi : ps.findIdx? (live id) with
  | none =>
    rw [show progR ps id = .tuple #[.int .i64 0, .int .i64 42] by unfold progR; rw [hi]] at HA
    have HE := Lib.hid (HR.out.trans (show _ = Value.tuple #[.int .i64 0, .int .i64 0, .int .i64 42] by unfold ofindR findP; rw [hi]; rfl))
    clear hi HR
    go_enter Tryz.func86, Tryz.ntmps86
    have H := HS.start NoD w
    go_wp2_with fail
    refine (HA.out).mono ?_
    rintro _ w1 ⟨rfl, hb⟩
    replace H := H.below hb
    clear hb
    try clear C
    try simp only [World.size_alloc, List.nil_append, List.cons_append, List.append_assoc] at H
    have C := H.cells
    try simp only [cellsOf, cellsM, apartOf, apartM, and_true] at C
    dsimp only
    go_wp2_with fail
    refine bodyPost_ret (by simp [results, Tryz.results86, go_sem, C]; try rfl) rfl ?_
    exact ⟨by rw [HE.out], H.done⟩
  | some i =>
    rw [show progR ps id = .tuple #[.int .i64 i, .int .i64 0] by unfold progR; rw [hi]] at HA
    have hlt : i < qs.length := by have := (findIdx_some hi).1; rw [← HQS.out] at this; simpa using this
    have hsm := HGD.out i hlt
    obtain ⟨b, o, e0, hb, hc⟩ := HL.out.at hlt
    cases e0
    have HM := Lib.hid (map_at hlt)
    have hpv := HI.out _ (mem_at hlt)
    obtain ⟨q, hxj⟩ : ∃ q, q = qs[i]! := ⟨_, rfl⟩
    rw [← hxj] at hc hpv
    have HX := Lib.hid hxj
    obtain ⟨⟨pi, pt, pd, pg, td⟩, pa, ta⟩ := q
    obtain ⟨⟨pb, pc, e1, hpc, hpl⟩, ⟨tb, tc, e2, htc, htl⟩⟩ := hpv
    have f1 : pa = .slice pb pg.length pc := e1
    have f2 : ta = .slice tb td.length tc := e2
    clear e1 e2
    subst f1 f2
    have HPG : Hid (Lies w w.heap.size pb 3 pg.length (fun j => pgC pg[j]!)) := hpl
    have HTD : Hid (Lies w w.heap.size tb 1 td.length (fun j => iC td[j]!)) := htl
    have HPC : Hid (pg.length ≤ pc ∧ (pb = none → pc = 0)) := hpc
    have HTC : Hid (td.length ≤ tc ∧ (tb = none → tc = 0)) := htc
    clear hpc htc
    clear hpl htl
    have HC0 : Hid (w.cell? ⟨b, o + i * 5, none⟩ = some (.int .i64 pi)) := hc 0 _ rfl
    have HC1 : Hid (w.cell? ⟨b, o + i * 5 + 1, none⟩ = some (.bool pt)) := hc 1 _ rfl
    have HC2 : Hid (w.cell? ⟨b, o + i * 5 + 2, none⟩ = some (.bool pd)) := hc 2 _ rfl
    have HC3 : Hid (w.cell? ⟨b, o + i * 5 + 3, none⟩ = some (.slice pb pg.length pc)) := hc 3 _ rfl
    have HC4 : Hid (w.cell? ⟨b, o + i * 5 + 4, none⟩ = some (.slice tb td.length tc)) := hc 4 _ rfl
    have HB := Lib.hid hb
    clear hc hxj hb
    rw [← HX.out] at hsm
    have hs1 : pg.length ≤ 1000 := by have : pg.length ≤ 16 := hsm.plen; omega
    have HSO := Lib.hid (show pg.Pairwise (·.n < ·.n) from hsm.pasc)
    clear hsm HGD
    have HPE := Lib.hid (show ps[i]! = ⟨pi, pt, pd, pg, td⟩ by rw [← HQS.out, HM.out, ← HX.out])
    have HPA := Lib.hid (fun w h => oplace_any n (q := ⟨⟨pi, pt, pd, pg, td⟩, .slice pb pg.length pc, .slice tb td.length tc⟩) hs1 HSO.out w h)
    dsimp only at HPA
    have HF := Lib.hid (show R = (match pg.findIdx? (numb n) with | none => Value.tuple #[.int .i64 0, .int .i64 0, .int .i64 41] | some k => .tuple #[.int .i64 i, .int .i64 k, .int .i64 0]) by
      rw [HR.out]; unfold ofindR findP; rw [hi]; dsimp only; rw [HPE.out]; cases pg.findIdx? (numb n) <;> rfl)
    clear hi HR
    cases hk : pg.findIdx? (numb n) with
    | none =>
      rw [hk] at HF
      rw [pos_none hk] at HPA
      clear hk
      generalize posN pg n = r at HPA
      go_enter Tryz.func86, Tryz.ntmps86
      have H := HS.start NoD w
      go_wp2_with fail
      refine (HA.out).mono ?_
      rintro _ w1 ⟨rfl, hb⟩
      replace H := H.below hb
      clear hb
      try clear C
      try simp only [World.size_alloc, List.nil_append, List.cons_append, List.append_assoc] at H
      have C := H.cells
      try simp only [cellsOf, cellsM, apartOf, apartM, and_true] at C
      dsimp only
      try clear c0 c1 c2 c3 c4
      have c0 := (H.was HB.out (fun h => h)).trans HC0.out
      have c1 := (H.was HB.out (fun h => h)).trans HC1.out
      have c2 := (H.was HB.out (fun h => h)).trans HC2.out
      have c3 := (H.was HB.out (fun h => h)).trans HC3.out
      have c4 := (H.was HB.out (fun h => h)).trans HC4.out
      go_wp2_with fail
      refine (HPA.out _ ⟨⟨pb, pc, rfl, HPC.out, H.liesUp HPG.out⟩, ⟨tb, tc, rfl, HTC.out, H.liesUp HTD.out⟩⟩).mono ?_
      rintro _ w2 ⟨rfl, hb⟩
      replace H := H.below hb
      clear hb
      try clear C
      try simp only [World.size_alloc, List.nil_append, List.cons_append, List.append_assoc] at H
      try clear w1
      have C := H.cells
      try simp only [cellsOf, cellsM, apartOf, apartM, and_true] at C
      dsimp only
      go_wp2_with fail
      refine bodyPost_ret (by simp [results, Tryz.results86, go_sem, C]; try rfl) rfl ?_
      exact ⟨by rw [HF.out], H.done⟩
    | some k =>
      rw [hk] at HF
      rw [(pos_some HSO.out hk).1, (pos_some HSO.out hk).2] at HPA
      clear hk
      go_enter Tryz.func86, Tryz.ntmps86
      have H := HS.start NoD w
      go_wp2_with fail
      refine (HA.out).mono ?_
      rintro _ w1 ⟨rfl, hb⟩
      replace H := H.below hb
      clear hb
      try clear C
      try simp only [World.size_alloc, List.nil_append, List.cons_append, List.append_assoc] at H
      have C := H.cells
      try simp only [cellsOf, cellsM, apartOf, apartM, and_true] at C
      dsimp only
      try clear c0 c1 c2 c3 c4
      have c0 := (H.was HB.out (fun h => h)).trans HC0.out
      have c1 := (H.was HB.out (fun h => h)).trans HC1.out
      have c2 := (H.was HB.out (fun h => h)).trans HC2.out
      have c3 := (H.was HB.out (fun h => h)).trans HC3.out
      have c4 := (H.was HB.out (fun h => h)).trans HC4.out
      go_wp2_with fail
      refine (HPA.out _ ⟨⟨pb, pc, rfl, HPC.out, H.liesUp HPG.out⟩, ⟨tb, tc, rfl, HTC.out, H.liesUp HTD.out⟩⟩).mono ?_
      rintro _ w2 ⟨rfl, hb⟩
      replace H := H.below hb
      clear hb
      try clear C
      try simp only [World.size_alloc, List.nil_append, List.cons_append, List.append_assoc] at H
      try clear w1
      have C := H.cells
      try simp only [cellsOf, cellsM, apartOf, apartM, and_true] at C
      dsimp only
      go_wp2_with fail
      refine bodyPost_ret (by simp [results, Tryz.results86, go_sem, C]; try rfl) rfl ?_
      exact ⟨by rw [HF.out], H.done⟩
theorem within_any (n a b : Int) (w : World) : Calls Tryz.prog 77 #[.int .i64 n, .int .i64 a, .int .i64 b] w (Gives (.bool (decide (a ≤ n) && decide (n ≤ b))) w) := by
  by_cases h1 : a ≤ n
  · go_enter Tryz.func77, Tryz.ntmps77
    have H := HS.start NoD w
    go_wp2_with fail
    go_ret
    exact ⟨by simp [h1], H.done⟩
  · go_enter Tryz.func77, Tryz.ntmps77
    have H := HS.start NoD w
    go_wp2_with fail
    go_ret
    exact ⟨by rw [show decide (a ≤ n) = false from decide_eq_false (by omega)]; first | rfl | (simp; done) | (simp; omega), H.done⟩
theorem ounused_any (f : Int) {v : Value} {ps : List Pr} (hx : SmallP ps) (w : World) (hl : Ps w w.heap.size v ps) :
    Calls Tryz.prog 78 #[v, .int .i64 f] w (Gives (.bool (!usedB ps f)) w) := by
  have HU := Lib.hid (ousers_any f hx w hl)
  have HI := Lib.hid (used_iff ps f)
  generalize (usersL ps f).flatMap uC = cs at HU
  generalize (usersL ps f).length = n at HU HI
  clear hl
  by_cases hn : 0 < n
  · have e : usedB ps f = true := HI.out.2 hn
    rw [e]
    go_enter Tryz.func78, Tryz.ntmps78
    have H := HS.start NoD w
    go_wp2_with fail
    refine (HU.out).mono ?_
    rintro _ w1 ⟨sa, c, rfl, hr, hb⟩
    replace H := (H).getsRow hb hr
    clear hb hr
    try clear C
    try simp only [World.size_alloc, List.nil_append, List.cons_append, List.append_assoc] at H
    have C := H.cells
    try simp only [cellsOf, cellsM, apartOf, apartM, and_true] at C
    dsimp only
    go_wp2_with fail
    go_ret
    exact ⟨by simp; omega, H.done⟩
  · have e : usedB ps f = false := by cases h : usedB ps f with | true => exact absurd (HI.out.1 h) hn | false => rfl
    rw [e]
    obtain rfl : n = 0 := by omega
    go_enter Tryz.func78, Tryz.ntmps78
    have H := HS.start NoD w
    go_wp2_with fail
    refine (HU.out).mono ?_
    rintro _ w1 ⟨sa, c, rfl, hr, hb⟩
    replace H := (H).getsRow hb hr
    clear hb hr
    try clear C
    try simp only [World.size_alloc, List.nil_append, List.cons_append, List.append_assoc] at H
    have C := H.cells
    try simp only [cellsOf, cellsM, apartOf, apartM, and_true] at C
    dsimp only
    go_wp2_with fail
    go_ret
    exact ⟨rfl, H.done⟩
theorem oleft_any (f : Int) {v : Value} {ps : List Pr} (hx : SmallP ps) (w : World) (hl : Ps w w.heap.size v ps) :
    Calls Tryz.prog 88 #[v, .int .i64 f] w (Gives (.int .i64 (leftP ps f)) w) := by
  have HU := Lib.hid (ounused_any f hx w hl)
  clear hl
  cases hn : usedB ps f with
  | true =>
    have e : leftP ps f = -1 := by unfold leftP; rw [if_pos hn]
    rw [e]
    rw [hn] at HU
    clear hn e
    go_enter Tryz.func88, Tryz.ntmps88
    have H := HS.start NoD w
    go_wp2_with fail
    refine (HU.out).mono ?_
    rintro _ w1 ⟨rfl, hb⟩
    replace H := H.below hb
    clear hb
    try clear C
    try simp only [World.size_alloc, List.nil_append, List.cons_append, List.append_assoc] at H
    have C := H.cells
    try simp only [cellsOf, cellsM, apartOf, apartM, and_true] at C
    dsimp only
    go_wp2_with fail
    go_ret
    exact ⟨rfl, H.done⟩
  | false =>
    have e : leftP ps f = f := by unfold leftP; rw [if_neg (by rw [hn]; decide)]
    rw [e]
    rw [hn] at HU
    clear hn e
    go_enter Tryz.func88, Tryz.ntmps88
    have H := HS.start NoD w
    go_wp2_with fail
    refine (HU.out).mono ?_
    rintro _ w1 ⟨rfl, hb⟩
    replace H := H.below hb
    clear hb
    try clear C
    try simp only [World.size_alloc, List.nil_append, List.cons_append, List.append_assoc] at H
    have C := H.cells
    try simp only [cellsOf, cellsM, apartOf, apartM, and_true] at C
    dsimp only
    go_wp2_with fail
    go_ret
    exact ⟨rfl, H.done⟩
end Go.Proofs.YtedbpmckgiifpaaGreat
