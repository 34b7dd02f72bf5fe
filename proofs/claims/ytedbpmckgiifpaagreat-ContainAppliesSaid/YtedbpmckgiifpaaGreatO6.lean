/- Programs (memfaultref29): a program's pages laid open; Fork. -/
import Derived.Test.YtedbpmckgiifpaaGreatO5
namespace Go.Proofs.YtedbpmckgiifpaaGreat
set_option linter.unusedSimpArgs false
set_option linter.unusedVariables false
open Go.RowKit
set_option maxRecDepth 100000
attribute [local go_sem] lt_more ne_more ne_more'
attribute [local irreducible] wpX wpF Calls

/-- What is within, but the pages of program i. -/
def restR (qs : List Pv) (i : Nat) : List Item := (qs.take i).flatMap innerR ++ (.row (qs[i]!).ta 3 1 (qs[i]!).p.told.length ((qs[i]!).p.told.flatMap iC) :: (qs.drop (i + 1)).flatMap innerR)
def pagesR (q : Pv) : Item := .row q.pa 49 3 q.p.pages.length (q.p.pages.flatMap pgC)
theorem inner_perm {qs : List Pv} {i : Nat} (hi : i < qs.length) : (qs.flatMap innerR).Perm (pagesR qs[i]! :: restR qs i) := by
  rw [flat_split hi]
  show ((qs.take i).flatMap innerR ++ (pagesR qs[i]! :: (.row (qs[i]!).ta 3 1 (qs[i]!).p.told.length ((qs[i]!).p.told.flatMap iC) :: (qs.drop (i + 1)).flatMap innerR))).Perm _
  exact List.perm_middle
theorem inner_set_perm {qs : List Pv} {i : Nat} (hi : i < qs.length) {q : Pv} (ht : q.ta = (qs[i]!).ta) (hd : q.p.told = (qs[i]!).p.told) : ((qs.set i q).flatMap innerR).Perm (pagesR q :: restR qs i) := by
  rw [flat_set_split hi]
  unfold restR
  rw [← ht, ← hd]
  exact List.perm_middle
theorem restR_low {qs : List Pv} {i : Nat} : ∀ A ∈ restR qs i, A.low = 0 := fun A hA => by
  unfold restR at hA
  rcases List.mem_append.1 hA with hA | hA
  · exact inner_low A hA
  · rcases List.mem_cons.1 hA with rfl | hA
    · rfl
    · exact inner_low A hA
section
variable {D : Nat → Prop} {W w : World} {L : List Item}
theorem HS.openInner {qs : List Pv} (h : HS D W (L ++ [Item.many (qs.flatMap innerR)]) w) {i : Nat} (hi : i < qs.length) : HS D W (L ++ [pagesR qs[i]!, Item.many (restR qs i)]) w := by
  have h1 := h.ofMany.permu ((inner_perm hi).append_left L)
  rw [show L ++ pagesR qs[i]! :: restR qs i = (L ++ [pagesR qs[i]!]) ++ restR qs i by simp] at h1
  have := h1.toMany restR_low
  simpa using this
theorem HS.shutInner {qs : List Pv} {i : Nat} (q : Pv) (h : HS D W (L ++ [pagesR q, Item.many (restR qs i)]) w) (hi : i < qs.length) (ht : q.ta = (qs[i]!).ta) (hd : q.p.told = (qs[i]!).p.told) : HS D W (L ++ [Item.many ((qs.set i q).flatMap innerR)]) w := by
  rw [show L ++ [pagesR q, Item.many (restR qs i)] = (L ++ [pagesR q]) ++ [Item.many (restR qs i)] by simp] at h
  have h1 := h.ofMany
  rw [show (L ++ [pagesR q]) ++ restR qs i = L ++ (pagesR q :: restR qs i) by simp] at h1
  exact (h1.permu ((inner_set_perm hi ht hd).symm.append_left L)).toMany inner_low
/-- A cell of the programs' own slice. -/
theorem HS.outerCell {g cap n : Nat} {qs : List Pv} (h : HS D W L w) (k : Nat) (hk : L[k]? = some (.row (.slice (some ⟨g, 0, none⟩) n cap) 52 5 n (qs.flatMap pvC))) (hn : n = qs.length) {i m : Nat} {u : Value} (hi : i < qs.length) (hm : m < 5) (hu : (pvC qs[i]!)[m]? = some u) : w.cell? ⟨g, i * 5 + m, none⟩ = some u ∧ w.frozen? ⟨g, i * 5 + m, none⟩ = false := by
  subst hn
  have h1 := h.rowCells k hk (i * 5 + m) (by omega)
  exact ⟨h1.1.trans (flat_get pvC_len qs i m u hi hu), h1.2⟩
theorem HS.pageCell {g cap n : Nat} {pg : List Pg} (h : HS D W L w) (k : Nat) (hk : L[k]? = some (.row (.slice (some ⟨g, 0, none⟩) n cap) 49 3 n (pg.flatMap pgC))) (hn : n = pg.length) {i m : Nat} {u : Value} (hi : i < pg.length) (hm : m < 3) (hu : (pgC pg[i]!)[m]? = some u) : w.cell? ⟨g, i * 3 + m, none⟩ = some u ∧ w.frozen? ⟨g, i * 3 + m, none⟩ = false := by
  subst hn
  have h1 := h.rowCells k hk (i * 3 + m) (by omega)
  exact ⟨h1.1.trans (flat_get pgC_len pg i m u hi hu), h1.2⟩
end
theorem perm6 {α : Type} (a b c d e f : α) : [a, b, c, d, e, f].Perm [a, c, e, b, f, d] := by
  refine List.Perm.cons _ ?_
  refine (List.Perm.swap c b _).trans (List.Perm.cons _ ?_)
  refine (List.Perm.cons _ (List.Perm.swap e d _)).trans ?_
  refine (List.Perm.swap e b _).trans (List.Perm.cons _ (List.Perm.cons _ (List.Perm.swap f d _)))
/-- One program more. -/
theorem HS.insertPv {D : Nat → Prop} {W w : World} {L : List Item} {ts : List Pv} (x : Pv) (k : Nat) (h : HS D W (L ++ [pagesR x, .row x.ta 3 1 x.p.told.length (x.p.told.flatMap iC), Item.many (ts.flatMap innerR)]) w) : HS D W (L ++ [Item.many ((ts.take k ++ x :: ts.drop k).flatMap innerR)]) w := by
  rw [show L ++ [pagesR x, .row x.ta 3 1 x.p.told.length (x.p.told.flatMap iC), Item.many (ts.flatMap innerR)] = (L ++ innerR x) ++ [Item.many (ts.flatMap innerR)] by simp [innerR, pagesR]] at h
  have h1 := h.ofMany
  refine HS.toMany (h1.permu ?_) inner_low
  rw [List.append_assoc]
  refine List.Perm.append_left _ ?_
  have e : ts.flatMap innerR = (ts.take k).flatMap innerR ++ (ts.drop k).flatMap innerR := by rw [← List.flatMap_append, List.take_append_drop]
  rw [e, List.flatMap_append, List.flatMap_cons, ← List.append_assoc, ← List.append_assoc]
  exact List.Perm.append_right _ List.perm_append_comm
theorem ins_map {ts : List Pv} {k : Nat} {x : Pv} {l : List Pr} (hl : ts.map (·.p) = l) (h : ts.takeWhile (fun y => decide (y.p.id < x.p.id)) = ts.take k ∧ ts.dropWhile (fun y => decide (y.p.id < x.p.id)) = ts.drop k) : (ts.take k ++ x :: ts.drop k).map (·.p) = insPr l x.p := by
  subst hl
  unfold insPr
  rw [List.takeWhile_map, List.dropWhile_map, List.map_append, List.map_cons, ← h.1, ← h.2]
  rfl
/-- The cells of programs are cells. -/
theorem pv_one {w : World} {qs : List Pv} (h : ∀ A ∈ qs.flatMap innerR, A.ok w) : ∀ y ∈ qs.flatMap pvC, y.oneCell' = true := fun y hy => by
  obtain ⟨q, hq, hy⟩ := List.mem_flatMap.1 hy
  obtain ⟨⟨a, c, e1, -, -⟩, ⟨a', c', e2, -, -⟩⟩ := innerAt h q hq
  simp only [pvC, List.mem_cons, List.mem_nil_iff, or_false] at hy
  rcases hy with rfl | rfl | rfl | rfl | rfl
  · rfl
  · rfl
  · rfl
  · rw [e1]; rfl
  · rw [e2]; rfl
theorem HS.manyOks {D : Nat → Prop} {W w : World} {L R : List Item} (h : HS D W L w) (i : Nat) (hi : L[i]? = some (Item.many R)) : ∀ A ∈ R, A.ok w := fun A hA => ((Item.ofMany (h.at i hi)).1 A hA).1
def markS (k : Nat) (pg : List Pg) : List Pg := (pg.take k).map (fun x => { x with s := true }) ++ pg.drop k
theorem markS_len (k : Nat) (pg : List Pg) : (markS k pg).length = pg.length := by unfold markS; rw [List.length_append, List.length_map, List.length_take, List.length_drop]; omega
theorem markS_zero (pg : List Pg) : markS 0 pg = pg := by simp [markS]
theorem markS_all {k : Nat} {pg : List Pg} (h : pg.length ≤ k) : markS k pg = pg.map (fun x => { x with s := true }) := by
  unfold markS; rw [List.take_of_length_le h, List.drop_eq_nil_of_le h, List.append_nil]
theorem markS_at {k : Nat} {pg : List Pg} (h : k < pg.length) : (markS k pg)[k]! = pg[k]! := by
  have hl : ((pg.take k).map (fun x : Pg => ({ x with s := true } : Pg))).length = k := by rw [List.length_map, List.length_take]; omega
  unfold markS
  rw [getElem!_pos _ k (by rw [List.length_append, hl, List.length_drop]; omega), getElem!_pos pg k h, List.getElem_append_right (by omega)]
  simp only [List.getElem_drop]
  congr 1
  omega
theorem markS_succ {k : Nat} {pg : List Pg} (h : k < pg.length) : markS (k + 1) pg = (markS k pg).set k { pg[k]! with s := true } := by
  have hl : ((pg.take k).map (fun x : Pg => ({ x with s := true } : Pg))).length = k := by rw [List.length_map, List.length_take]; omega
  unfold markS
  rw [take_snoc h, List.map_append, List.set_append_right _ _ (by omega), hl, Nat.sub_self, List.drop_eq_getElem_cons h, List.append_assoc]
  rfl
set_option maxHeartbeats 8000000 in
theorem rfork_any (id ot : Int) {v : Value} {ps : List Pr} (hx : SmallP ps) (w : World) (hl : Ps w w.heap.size v ps) :
    Calls Tryz.prog 38 #[v, .int .i64 id, .int .i64 ot] w (GivesP (fun v => .tuple #[v, .int .i64 (forkP ps id ot).1]) (forkP ps id ot).2 w) := by
  have HA := Lib.hid (fun w h => rat_any id (v := v) hx.1 w h)
  have HCP := Lib.hid (fun w h => rcopy_any (v := v) hx w h)
  have HPS := Lib.hid hl
  obtain ⟨qs, hqs, ⟨sa, c, rfl, hc, hl⟩, hi⟩ := hl
  have hx1 : qs.length ≤ 1000 := by have := hx.1; rw [← hqs] at this; simpa using this
  have HSM := Lib.hid (fun j => smallQ (j := j) hx hqs)
  have HL := Lib.hid hl
  have HI := Lib.hid hi
  have HQS := Lib.hid hqs
  obtain ⟨R, hR⟩ : ∃ R, R = forkP ps id ot := ⟨_, rfl⟩
  rw [← hR]
  have HR := Lib.hid hR
  clear hl hi hx hqs hc hR
  cases hi : ps.findIdx? (live id) with
  | none =>
    rw [hi] at HA
    dsimp only [idx?] at HA
    have HE := Lib.hid (HR.out.trans (show _ = ((42 : Int), ([] : List Pr)) by unfold forkP; rw [hi]))
    clear hi HR HCP HSM
    go_enter Tryz.func38, Tryz.ntmps38
    have H := HS.start NoD w
    go_wp2_with fail
    refine (HA.out _ (H.psUp HPS.out)).mono ?_
    rintro _ w1 ⟨rfl, hb⟩
    replace H := H.below hb
    clear hb
    try clear C
    try simp only [World.size_alloc, List.nil_append, List.cons_append, List.append_assoc] at H
    have C := H.cells
    try simp only [cellsOf, cellsM, apartOf, apartM, and_true] at C
    dsimp only
    go_wp2_with fail
    refine bodyPost_ret (by simp [results, Tryz.results38, go_sem, C]; try rfl) rfl ?_
    rw [HE.out]
    exact givesP_nil H _
  | some i =>
    rw [hi] at HA
    dsimp only [idx?] at HA
    have hlt : i < qs.length := by have := (findIdx_some hi).1; rw [← HQS.out] at this; simpa using this
    have hsm := HSM.out i hlt
    obtain ⟨b, o, e0, hb, hc⟩ := HL.out.at hlt
    cases e0
    have HM := Lib.hid (map_at hlt)
    have hpv := HI.out _ (mem_at hlt)
    obtain ⟨q, hxj⟩ : ∃ q, q = qs[i]! := ⟨_, rfl⟩
    rw [← hxj] at hc hpv
    have HX := Lib.hid hxj
    obtain ⟨⟨pi, pt, pd, pg, td⟩, pa, ta⟩ := q
    obtain ⟨⟨pb, pc, e1, hpc, hpl⟩, ⟨tb, tc, e2, htc, htl⟩⟩ := hpv
    have f1 : pa = .slice pb pg.length pc := e1
    have f2 : ta = .slice tb td.length tc := e2
    clear e1 e2
    subst f1 f2
    have HPG : Hid (Lies w w.heap.size pb 3 pg.length (fun j => pgC pg[j]!)) := hpl
    have HTD : Hid (Lies w w.heap.size tb 1 td.length (fun j => iC td[j]!)) := htl
    have HPC : Hid (pg.length ≤ pc ∧ (pb = none → pc = 0)) := hpc
    have HTC : Hid (td.length ≤ tc ∧ (tb = none → tc = 0)) := htc
    clear hpc htc
    clear hpl htl
    have HC0 : Hid (w.cell? ⟨b, o + i * 5, none⟩ = some (.int .i64 pi)) := hc 0 _ rfl
    have HC1 : Hid (w.cell? ⟨b, o + i * 5 + 1, none⟩ = some (.bool pt)) := hc 1 _ rfl
    have HC2 : Hid (w.cell? ⟨b, o + i * 5 + 2, none⟩ = some (.bool pd)) := hc 2 _ rfl
    have HC3 : Hid (w.cell? ⟨b, o + i * 5 + 3, none⟩ = some (.slice pb pg.length pc)) := hc 3 _ rfl
    have HC4 : Hid (w.cell? ⟨b, o + i * 5 + 4, none⟩ = some (.slice tb td.length tc)) := hc 4 _ rfl
    have HB := Lib.hid hb
    clear hc hxj hb
    rw [← HX.out] at hsm
    have hs1 : pg.length ≤ 1000 := hsm.1
    clear hsm HSM
    have HPE := Lib.hid (show ps[i]! = ⟨pi, pt, pd, pg, td⟩ by rw [← HQS.out, HM.out, ← HX.out])
    have HF := Lib.hid (show R = (if ot < 1 ∨ 999 < ot then (2, []) else if ps.any (fun p => decide (p.id = ot)) = true then (8, []) else if 8 ≤ ps.length then (16, []) else (0, insPr (ps.set i ⟨pi, pt, pd, markS pg.length pg, td⟩) ⟨ot, pt, false, markS pg.length pg, []⟩)) by rw [HR.out]; unfold forkP; rw [hi]; dsimp only; rw [HPE.out, markS_all (Nat.le_refl _)]; rfl)
    clear hi HR
    by_cases hr : ot < 1 ∨ 999 < ot
    · have HE := Lib.hid (HF.out.trans (if_pos hr))
      have HRR := Lib.hid hr
      clear HF hr HCP
      go_enter Tryz.func38, Tryz.ntmps38
      have H := HS.start NoD w
      go_wp2_with fail
      refine (HA.out _ (H.psUp HPS.out)).mono ?_
      rintro _ w1 ⟨rfl, hb⟩
      replace H := H.below hb
      clear hb
      try clear C
      try simp only [World.size_alloc, List.nil_append, List.cons_append, List.append_assoc] at H
      have C := H.cells
      try simp only [cellsOf, cellsM, apartOf, apartM, and_true] at C
      dsimp only
      by_cases r1 : ot < 1
      · skip
        go_wp2_with fail
        refine bodyPost_ret (by simp [results, Tryz.results38, go_sem, C]; try rfl) rfl ?_
        rw [HE.out]
        exact givesP_nil H _
      · have r2 : 999 < ot := by have := HRR.out; omega
        skip
        go_wp2_with fail
        refine bodyPost_ret (by simp [results, Tryz.results38, go_sem, C]; try rfl) rfl ?_
        rw [HE.out]
        exact givesP_nil H _
    · have HF2 := Lib.hid (HF.out.trans (if_neg hr))
      have hr1 : 1 ≤ ot ∧ ot ≤ 999 := by omega
      clear HF hr
      go_enter Tryz.func38, Tryz.ntmps38
      have H := HS.start NoD w
      go_wp2_with fail
      refine (HA.out _ (H.psUp HPS.out)).mono ?_
      rintro _ w1 ⟨rfl, hb⟩
      replace H := H.below hb
      clear hb
      try clear C
      try simp only [World.size_alloc, List.nil_append, List.cons_append, List.append_assoc] at H
      have C := H.cells
      try simp only [cellsOf, cellsM, apartOf, apartM, and_true] at C
      dsimp only
      go_wp2_with fail
      go_loopw [28] (fun ii wr => ∃ (j : Nat), ii = .int .i64 j ∧ j ≤ qs.length ∧ Hid (∀ m, m < j → (qs[m]!).p.id ≠ ot) ∧ HS NoD w [] wr) (fun ii _ => qs.length - (intOf ii).toNat)
      case atStart => exact ⟨0, rfl, Nat.zero_le _, fun m hm => absurd hm (Nat.not_lt_zero _), H⟩
      case round =>
        clear H
        obtain ⟨j, rfl, hj, HJ, H⟩ := hrel
        skip
        by_cases hlj : j < qs.length
        · have HLj := HL
          have HIj := HI
          have hltj := hlj
          obtain ⟨bj, oj, e0, hbj, hcj⟩ := (H.lies HLj.out).at hltj
          cases e0
          have HMj := Lib.hid (map_at hltj)
          have hpvj := HIj.out _ (mem_at hltj)
          obtain ⟨qj, hxjj⟩ : ∃ q, q = qs[j]! := ⟨_, rfl⟩
          rw [← hxjj] at hcj hpvj
          have HXj := Lib.hid hxjj
          obtain ⟨⟨pij, ptj, pdj, pgj, tdj⟩, paj, taj⟩ := qj
          obtain ⟨⟨pbj, pcj, e1, hpcj, hplj⟩, ⟨tbj, tcj, e2, htcj, htlj⟩⟩ := hpvj
          have f1 : paj = .slice pbj pgj.length pcj := e1
          have f2 : taj = .slice tbj tdj.length tcj := e2
          clear e1 e2
          subst f1 f2
          have HPGj : Hid (Lies w w.heap.size pbj 3 pgj.length (fun j => pgC pgj[j]!)) := hplj
          have HTDj : Hid (Lies w w.heap.size tbj 1 tdj.length (fun j => iC tdj[j]!)) := htlj
          have HPCj : Hid (pgj.length ≤ pcj ∧ (pbj = none → pcj = 0)) := hpcj
          have HTCj : Hid (tdj.length ≤ tcj ∧ (tbj = none → tcj = 0)) := htcj
          clear hpcj htcj
          clear hplj htlj
          have c0j : wr.cell? ⟨b, o + j * 5, none⟩ = some (.int .i64 pij) := hcj 0 _ rfl
          have c1j : wr.cell? ⟨b, o + j * 5 + 1, none⟩ = some (.bool ptj) := hcj 1 _ rfl
          have c2j : wr.cell? ⟨b, o + j * 5 + 2, none⟩ = some (.bool pdj) := hcj 2 _ rfl
          have c3j : wr.cell? ⟨b, o + j * 5 + 3, none⟩ = some (.slice pbj pgj.length pcj) := hcj 3 _ rfl
          have c4j : wr.cell? ⟨b, o + j * 5 + 4, none⟩ = some (.slice tbj tdj.length tcj) := hcj 4 _ rfl
          clear hcj hxjj
          by_cases hq : pij = ot
          · have hany : ps.any (fun p => decide (p.id = ot)) = true := by
              rw [List.any_eq_true, ← HQS.out]
              exact ⟨(qs[j]!).p, List.mem_map.2 ⟨_, mem_at hlj, rfl⟩, by rw [← HXj.out]; exact decide_eq_true hq⟩
            have HE := Lib.hid (HF2.out.trans (if_pos hany))
            clear HF2 hany
            subst hq
            go_wp2_with fail
            refine bodyPost_ret (by simp [results, Tryz.results38, go_sem, C]; try rfl) rfl ?_
            rw [HE.out]
            exact givesP_nil H.alloc _
          · go_wp2_with fail
            go_roundw
            case rel =>
              refine ⟨j + 1, by go_num, by omega, (show Hid _ from fun m hm => ?_), H.alloc.less (by repeat (first | exact .slnil | refine .cons_cons _ ?_ | refine .cons _ ?_))⟩
              rcases Nat.lt_succ_iff_lt_or_eq.1 hm with hm | rfl
              · exact HJ.out m hm
              · rw [← HXj.out]; exact hq
            case measure => simp [intOf]; omega
        · have hany : ¬ ps.any (fun p => decide (p.id = ot)) = true := by
            rw [List.any_eq_true, ← HQS.out]
            rintro ⟨p, hp, h⟩
            obtain ⟨q, hq, rfl⟩ := List.mem_map.1 hp
            obtain ⟨m, hm, rfl⟩ := List.getElem_of_mem hq
            have := HJ.out m (by omega)
            rw [getElem!_pos qs m hm] at this
            exact this (of_decide_eq_true h)
          have HF3 := Lib.hid (HF2.out.trans (if_neg hany))
          have hpl : ps.length = qs.length := by rw [← HQS.out]; simp
          rw [hpl] at HF3
          clear HF2 hany
          by_cases hfu : 8 ≤ qs.length
          · have HE := Lib.hid (HF3.out.trans (if_pos hfu))
            have hfu2 : (8 : Int) ≤ qs.length := by omega
            clear HF3
            go_wp2_with fail
            refine bodyPost_ret (by simp [results, Tryz.results38, go_sem, C]; try rfl) rfl ?_
            rw [HE.out]
            exact givesP_nil H _
          · have HE := Lib.hid (HF3.out.trans (if_neg hfu))
            have hfu2 : ¬ (8 : Int) ≤ qs.length := by omega
            clear HF3
            go_wp2_with fail
            refine (HCP.out _ (H.psUp HPS.out)).mono ?_
            rintro _ w4 ⟨v4, rs, rfl, hrs, K⟩
            replace H := H.join1 K
            clear K HCP HA
            replace H := H.manyCons 0 rfl
            simp only [List.eraseIdx_cons_zero, List.nil_append, List.cons_append, outerR] at H
            have hrl : rs.length = qs.length := by have := congrArg List.length (hrs.trans HQS.out.symm); simpa using this
            have hir : i < rs.length := by omega
            have hrle : rs.length < 8 := by omega
            have HRS := Lib.hid hrs
            have HRL := Lib.hid hrl
            clear hrs hrl
            obtain ⟨sb, d4, rfl⟩ := ownsRow_slice (H.at 0 rfl)
            obtain ⟨g4, rfl, hg4, hcap4⟩ := ownsRow_ptr (H.at 0 rfl) (by omega)
            clear hg4
            replace H := HS.openInner (L := [_]) H hir
            have hrp : (rs[i]!).p = ⟨pi, pt, pd, pg, td⟩ := by rw [← map_at hir, HRS.out]; exact HPE.out
            obtain ⟨q4, hq4⟩ : ∃ q, q = rs[i]! := ⟨_, rfl⟩
            rw [← hq4] at H hrp
            have HQ4 := Lib.hid hq4
            clear hq4
            obtain ⟨p4, pa4, ta4⟩ := q4
            obtain rfl : p4 = ⟨pi, pt, pd, pg, td⟩ := hrp
            simp only [pagesR, List.cons_append, List.nil_append] at H
            obtain ⟨pb4, pc4, e4⟩ : ∃ s c, pa4 = .slice s pg.length c := by obtain ⟨s, c, e⟩ := ownsRow_slice (H.at 1 rfl); exact ⟨s, c, e⟩
            subst e4
            have k3 := H.outerCell 0 rfl rfl hir (m := 3) (u := .slice pb4 pg.length pc4) (by decide) (by rw [← HQ4.out]; rfl)
            obtain ⟨k3, k3f⟩ := k3
            skip
            dsimp only
            go_wp2_with fail
            clear k3 k3f
            go_loopw [48] (fun kk wr => ∃ (k : Nat), kk = .int .i64 k ∧ k ≤ pg.length ∧ HS NoD w [.row (.slice (some ⟨g4, 0, none⟩) rs.length d4) 52 5 rs.length (rs.flatMap pvC), .row (.slice pb4 pg.length pc4) 49 3 pg.length ((markS k pg).flatMap pgC), Item.many (restR rs i)] wr) (fun kk _ => pg.length - (intOf kk).toNat)
            case atStart => exact ⟨0, rfl, Nat.zero_le _, by rw [markS_zero]; exact H⟩
            case round =>
              clear H
              obtain ⟨k, rfl, hk, H⟩ := hrel
              skip
              obtain ⟨k3, k3f⟩ := H.outerCell 0 rfl rfl hir (m := 3) (u := .slice pb4 pg.length pc4) (by decide) (by rw [← HQ4.out]; rfl)
              by_cases hlk : k < pg.length
              · obtain ⟨gp, rfl, hgp, hcp⟩ := ownsRow_ptr (H.at 1 rfl) (by omega)
                obtain ⟨p2, p2f⟩ := H.pageCell 1 rfl (markS_len k pg).symm (i := k) (m := 2) (u := .bool (pg[k]!).s) (by rw [markS_len]; exact hlk) (by decide) (by rw [markS_at hlk]; rfl)
                go_wp2_with fail
                go_roundw
                case rel =>
                  refine ⟨k + 1, by go_num, by omega, ?_⟩
                  have H9 := H.rowSet 1 rfl (k * 3 + 2) (.bool true)
                  rw [markS_succ hlk, flat_set pgC_len (markS k pg) k 2 _ (.bool true) (by rw [markS_len]; exact hlk) (by decide) (by rw [markS_at hlk]; rfl)]
                  exact H9
                case measure => simp [intOf]; omega
              · have hke : k = pg.length := by omega
                subst hke
                try clear c0 c1 c2 c3 c4
                have c0 := (H.was HB.out (fun h => h)).trans HC0.out
                have c1 := (H.was HB.out (fun h => h)).trans HC1.out
                have c2 := (H.was HB.out (fun h => h)).trans HC2.out
                have c3 := (H.was HB.out (fun h => h)).trans HC3.out
                have c4 := (H.was HB.out (fun h => h)).trans HC4.out
                go_upto_region 20 with fail
                clear c0 c1 c2 c3 c4 k3 k3f
                obtain ⟨mg, hmg⟩ : ∃ mg, mg = markS pg.length pg := ⟨_, rfl⟩
                have hml : pg.length = mg.length := by rw [hmg, markS_len]
                rw [← hmg] at H HE
                have HML := Lib.hid hml
                clear hmg hml
                replace H := H.nilRow 49 3
                simp only [List.nil_append, List.cons_append] at H
                refine wp_region_hz (by kernel_rfl) [0, 1, 2, 3, 4, 5, 6, 7, 8, 9, 10, 11, 12, 13] (by kernel_rfl) (by kernel_rfl) (by kernel_rfl) rfl (fun _ => False) (H) ?_
                clear H; intro w2 H hz0
                try clear C
                try simp only [World.size_alloc, List.nil_append, List.cons_append, List.append_assoc] at H hz0 ⊢
                clear hz0
                try clear wr
                have C := H.cells
                try simp only [cellsOf, cellsM, apartOf, apartM, and_true] at C
                have Z := H.zs
                try simp only [ltsOf, ltsM, and_true] at Z
                simp only [List.filterMap_cons, List.filterMap_nil, List.getElem?_toArray, List.getElem?_cons_zero, List.getElem?_cons_succ]
                try clear c0 c1 c2 c3 c4
                have c0 := (H.was HB.out (fun h => h)).trans HC0.out
                have c1 := (H.was HB.out (fun h => h)).trans HC1.out
                have c2 := (H.was HB.out (fun h => h)).trans HC2.out
                have c3 := (H.was HB.out (fun h => h)).trans HC3.out
                have c4 := (H.was HB.out (fun h => h)).trans HC4.out
                have hb4 : b < w2.heap.size := Nat.lt_of_lt_of_le HB.out H.size
                have hg4 : g4 < w2.heap.size := Item.lt (H.at 0 rfl) (k := g4) rfl
                obtain ⟨k3, k3f⟩ := H.outerCell 0 rfl rfl hir (m := 3) (u := .slice pb4 pg.length pc4) (by decide) (by rw [← HQ4.out]; rfl)
                (refine wpH_free rfl rfl rfl (fun _ _ => ?_); go_step; go_step)
                (refine wpH_free rfl rfl rfl (fun _ _ => ?_); go_step; go_step)
                (refine wpH_free rfl rfl rfl (fun _ _ => ?_); go_step; go_step)
                (refine wpH_yield rfl rfl (.pointer (some ⟨b, o + i * 5, none⟩)) (fun w _ => by go_simp) ?_; go_simp)
                (refine wpH_free rfl rfl rfl (fun _ _ => ?_); go_step; go_step)
                (refine wpH_load rfl rfl rfl (by simp [Stay, OneD, NoD, *]) (by simp [*]) (fun _ _ => ?_); go_step; go_step)
                (refine wpH_free rfl rfl rfl (fun _ _ => ?_); go_step; go_step)
                (refine wpH_free rfl rfl rfl (fun _ _ => ?_); go_step; go_step)
                (refine wpH_yield rfl rfl (.pointer (some ⟨g4, i * 5, none⟩)) (fun w _ => by go_simp) ?_; go_simp)
                (refine wpH_free rfl rfl rfl (fun _ _ => ?_); go_step; go_step)
                (refine wpH_load rfl rfl rfl (by simp [Stay, OneD, NoD, *]) (by simp [*]) (fun _ _ => ?_); go_step; go_step)
                refine wpH_append rfl (.const (.slice none 0 0)) (.tmp 70) 50 rfl elemPg 3 rfl rfl (by simp [Value.ownBlock]) (fun _ h => h.1) rfl (news := mg.flatMap pgC) (fun w hc => by have := (src_pre (hc.hs.at 1 rfl) (Nat.le_refl _)).1; rwa [List.take_of_length_le (by rw [flat_len pgC_len, HML.out]; exact Nat.le_refl _)] at this) (by rw [flat_len pgC_len, HML.out]) (pgC_one _) (by unfold maxLen; omega) (by omega) (N := pg.length) (Nat.zero_add _) (fun s1 e1 he1 => ?_)
                (refine wpH_free rfl rfl rfl (fun _ _ => ?_); go_step; go_step)
                (refine wpH_float rfl rfl #[.int .i64 0, .bool false, .bool false, .slice none 0 0, .slice none 0 0]   52 (fun w => by kernel_rfl) (fun bx hbx nbx _ _ => ?_); go_simp; go_step)
                refine wpH_nil ?_
                intro w3 hC
                have hL := hC.laid bx _ (Fl.at _ _ _)
                replace H := hC.hs.lay hL.2.1 (Nat.le_trans H.size hL.1) hL.2.2
                clear hC hL
                try clear C
                try clear Z
                try simp only [List.nil_append, List.cons_append, List.append_assoc, List.set_cons_succ, List.set_cons_zero] at H
                try clear w2
                have C := H.cells
                try simp only [cellsOf, cellsM, apartOf, apartM, and_true] at C
                go_wp2_with fail
                clear k3 k3f c0 c1 c2 c3 c4
                generalize hwb : ((((w3.setCell _ _).setCell _ _).setCell _ _).setCell _ _).setCell _ _ = w4
                replace H := HS.eqW hwb (H.putAll (i := 4) rfl (vs := [.int .i64 ot, .bool pt, .bool false, .slice s1 pg.length e1, .slice none 0 0]) rfl rfl)
                simp only [List.nil_append, List.cons_append, List.append_assoc, List.set_cons_succ, List.set_cons_zero] at H
                clear hwb
                try clear C
                try clear w3
                have C := H.cells
                try simp only [cellsOf, cellsM, apartOf, apartM, and_true] at C
                replace H := H.less (L' := [.row (.slice (some ⟨g4, 0, none⟩) rs.length d4) 52 5 rs.length (rs.flatMap pvC), .row (.slice pb4 pg.length pc4) 49 3 pg.length (mg.flatMap pgC), Item.many (restR rs i), .row (.slice s1 pg.length e1) 49 3 pg.length (mg.flatMap pgC), .blk bx #[.int .i64 ot, .bool pt, .bool false, .slice s1 pg.length e1, .slice none 0 0] 52]) (by first | exact List.Sublist.refl _ | (repeat (first | exact .slnil | refine .cons_cons _ ?_ | refine .cons _ ?_)))
                replace H := H.permu (L' := [.row (.slice (some ⟨g4, 0, none⟩) rs.length d4) 52 5 rs.length (rs.flatMap pvC), .row (.slice s1 pg.length e1) 49 3 pg.length (mg.flatMap pgC), .blk bx #[.int .i64 ot, .bool pt, .bool false, .slice s1 pg.length e1, .slice none 0 0] 52] ++ [.row (.slice pb4 pg.length pc4) 49 3 pg.length (mg.flatMap pgC), Item.many (restR rs i)]) (List.Perm.cons _ (List.perm_append_comm (l₁ := [_, _]) (l₂ := [_, _])))
                obtain ⟨q', hq'⟩ : ∃ q' : Pv, q' = ⟨⟨pi, pt, pd, mg, td⟩, .slice pb4 pg.length pc4, ta4⟩ := ⟨_, rfl⟩
                replace H := HS.shutInner q' (by rw [hq']; unfold pagesR; dsimp only; rw [← HML.out]; exact H) hir (by rw [hq', ← HQ4.out]) (by rw [hq', ← HQ4.out])
                have hpv : pvC q' = pvC rs[i]! := by rw [hq', ← HQ4.out]; rfl
                have hsame : (rs.set i q').flatMap pvC = rs.flatMap pvC := by rw [flat_set_split hir, hpv, ← flat_split hir]
                have hts : (rs.set i q').map (·.p) = ps.set i ⟨pi, pt, pd, mg, td⟩ := by rw [List.map_set, HRS.out, hq']
                have htl : rs.length = (rs.set i q').length := by rw [List.length_set]
                rw [← hsame, htl] at H
                obtain ⟨ts, hte⟩ : ∃ ts, ts = rs.set i q' := ⟨_, rfl⟩
                rw [← hte] at H hts htl
                rw [htl] at hrle hcap4 hir
                have HTS := Lib.hid hts
                have HPL := Lib.hid HML.out
                rw [htl]
                generalize rs.length = rl at *
                clear hte hts hsame hpv hq' HQ4 HRS HRL
                subst htl
                simp only [List.nil_append, List.cons_append] at H
                try clear C
                try simp only [World.size_alloc, List.nil_append, List.cons_append, List.append_assoc] at H
                have C := H.cells
                try simp only [cellsOf, cellsM, apartOf, apartM, and_true] at C
                go_upto_region 21 with fail
                go_wp2_with fail
                go_loopw [14] (fun kk wr => ∃ (k : Nat), kk = .int .i64 k ∧ k ≤ ts.length ∧ Hid (∀ m, m < k → decide ((ts[m]!).p.id < ot) = true) ∧ HS NoD w [.row (.slice (some ⟨g4, 0, none⟩) ts.length d4) 52 5 ts.length (ts.flatMap pvC), .row (.slice s1 pg.length e1) 49 3 pg.length (mg.flatMap pgC), .blk bx #[.int .i64 ot, .bool pt, .bool false, .slice s1 pg.length e1, .slice none 0 0] 52, Item.many (ts.flatMap innerR)] wr) (fun kk _ => ts.length - (intOf kk).toNat)
                case atStart => exact ⟨0, rfl, Nat.zero_le _, fun m hm => absurd hm (Nat.not_lt_zero _), H⟩
                case round =>
                  clear H C
                  obtain ⟨k, rfl, hk, HK, H⟩ := hrel
                  skip
                  try clear C
                  try simp only [World.size_alloc, List.nil_append, List.cons_append, List.append_assoc] at H
                  have C := H.cells
                  try simp only [cellsOf, cellsM, apartOf, apartM, and_true] at C
                  by_cases hlk : k < ts.length
                  · have k0 : wr.cell? ⟨g4, k * 5, none⟩ = some (.int .i64 (ts[k]!).p.id) := (H.outerCell 0 rfl rfl hlk (m := 0) (u := .int .i64 (ts[k]!).p.id) (by decide) rfl).1
                    by_cases hn : (ts[k]!).p.id < ot
                    · have HN := Lib.hid hn
                      obtain ⟨di, hdi⟩ : ∃ di, di = (ts[k]!).p.id := ⟨_, rfl⟩
                      rw [← hdi] at k0 hn
                      clear hdi
                      go_wp2_with fail
                      go_roundw
                      case rel =>
                        refine ⟨k + 1, by go_num, by omega, (show Hid _ from fun m hm => ?_), H⟩
                        rcases Nat.lt_succ_iff_lt_or_eq.1 hm with hm | rfl
                        · exact HK.out m hm
                        · exact decide_eq_true HN.out
                      case measure => simp [intOf]; omega
                    · have HEX : k < ts.length → decide ((ts[k]!).p.id < ot) = false := fun _ => decide_eq_false hn
                      obtain ⟨di, hdi⟩ : ∃ di, di = (ts[k]!).p.id := ⟨_, rfl⟩
                      rw [← hdi] at k0 hn
                      clear hdi
                      have HTW := Lib.hid (takeWhile_at (xs := ts) (p := fun y => decide (y.p.id < ot)) hk HK.out HEX)
                      clear HEX HK
                      go_upto_region 24 with fail
                      try clear k0
                      replace H := H.nilRow 52 5
                      simp only [List.nil_append, List.cons_append] at H
                      refine wp_region_h (by kernel_rfl) [0, 1, 2, 3, 4, 5, 6, 7, 8, 9, 10, 11, 12] (by kernel_rfl) (by kernel_rfl) (by kernel_rfl) (fun _ => False) (H) ?_
                      clear H; intro w5 H hz0
                      try clear C
                      try simp only [World.size_alloc, List.nil_append, List.cons_append, List.append_assoc] at H hz0 ⊢
                      clear hz0
                      try clear wr
                      have C := H.cells
                      try simp only [cellsOf, cellsM, apartOf, apartM, and_true] at C
                      have Z := H.zs
                      try simp only [ltsOf, ltsM, and_true] at Z
                      simp only [List.filterMap_cons, List.filterMap_nil, List.getElem?_toArray, List.getElem?_cons_zero, List.getElem?_cons_succ]
                      have hkl2 : (k : Int) ≤ ts.length := by omega
                      have hkc : (k : Int) ≤ d4 := by omega
                      obtain ⟨sx, hsx⟩ : ∃ sx : Option Addr, sx = (if d4 = k then (some ⟨g4, 0, none⟩ : Option Addr) else (some ⟨g4, 0, none⟩ : Option Addr).map (·.add (k * 5))) := ⟨_, rfl⟩
                      have HSX := Lib.hid hsx
                      clear hsx
                      (refine wpH_free rfl rfl rfl (fun _ _ => ?_); go_step; go_step)
                      (refine wpH_free rfl rfl rfl (fun _ _ => ?_); go_step; go_step)
                      (refine wpH_yield rfl rfl (.slice (some ⟨g4, 0, none⟩ : Option Addr) k d4) (fun w _ => by go_simp) ?_; go_simp)
                      refine wpH_append rfl (.const (.slice none 0 0)) (.tmp 90) 28 rfl elemPr 4 rfl rfl (by simp [Value.ownBlock]) (fun _ h => h.1) rfl (fun w hc => (src_pre (hc.hs.at 0 rfl) hk).1) (src_pre (H.at 0 rfl) hk).2 (fun y hy => pv_one (H.manyOks 3 rfl) y (List.mem_of_mem_take hy)) (by unfold maxLen; omega) (by omega) (N := k) (Nat.zero_add k) (fun s2 e2 he2 => ?_)
                      (refine wpH_load rfl rfl rfl (by simp [Stay, OneD, NoD, *]) (by simp [*]) (fun _ _ => ?_); go_step; go_step)
                      (refine wpH_lit rfl rfl #[.int .i64 ot, .bool pt, .bool false, .slice s1 pg.length e1, .slice none 0 0]   52 1 (fun w => by kernel_rfl) (fun bL hbL nbL _ _ => ?_); go_simp; go_step)
                      refine wpH_append rfl (.tmp 91) (.tmp 93) 28 rfl elemPr 4 rfl rfl he2 (fun _ h => h.1) rfl (fun w hc => src_lit (Fl.at _ _ _) hc) rfl (fun y hy => by simp only [List.mem_cons, List.mem_nil_iff, or_false] at hy; rcases hy with rfl | rfl | rfl | rfl | rfl <;> rfl) (by unfold maxLen; omega) (by omega) (N := k + 1) rfl (fun s3 e3 he3 => ?_)
                      (refine wpH_free rfl rfl rfl (fun _ _ => ?_); go_step; go_step)
                      (refine wpH_free rfl rfl rfl (fun _ _ => ?_); go_step; go_step)
                      (refine wpH_yield rfl rfl (.slice sx (ts.length - k) (d4 - k) ) (fun w _ => by  (rw [HSX.out]; go_simp)) ?_; go_simp)
                      refine wpH_append rfl (.tmp 94) (.tmp 97) 28 rfl elemPr 4 rfl rfl he3 (fun _ h => h.1) rfl (fun w hc => by rw [HSX.out]; exact (src_part (hc.hs.at 0 rfl) hk (Nat.le_refl _)).1) (src_part (H.at 0 rfl) hk (Nat.le_refl _)).2 (fun y hy => pv_one (H.manyOks 3 rfl) y (List.mem_of_mem_drop (List.mem_of_mem_take hy))) (by unfold maxLen; omega) (by omega) (N := ts.length + 1) (by omega) (fun s4 e4 he4 => ?_)
                      (refine wpH_free rfl rfl rfl (fun _ _ => ?_); go_step; go_step)
                      (refine wpH_free rfl rfl rfl (fun _ _ => ?_); go_step; go_step)
                      refine wpH_nil ?_
                      intro w6 hC
                      replace H := hC.hs
                      clear hC
                      try clear C
                      try clear Z
                      try simp only [List.nil_append, List.cons_append, List.append_assoc, List.set_cons_succ, List.set_cons_zero] at H
                      try clear w5
                      have C := H.cells
                      try simp only [cellsOf, cellsM, apartOf, apartM, and_true] at C
                      go_wp2_with fail
                      have htk : ((ts.flatMap pvC).drop (k * 5)).take ((ts.length - k) * 5) = (ts.flatMap pvC).drop (k * 5) := by
                        refine List.take_of_length_le ?_
                        rw [List.length_drop, flat_len pvC_len]
                        omega
                      rw [htk] at H
                      replace H := H.nilRow 3 1
                      simp only [List.nil_append, List.cons_append] at H
                      obtain ⟨x, hx⟩ : ∃ x : Pv, x = ⟨⟨ot, pt, false, mg, []⟩, .slice s1 pg.length e1, .slice none 0 0⟩ := ⟨_, rfl⟩
                      have hzl : (ts.take k ++ x :: ts.drop k).length = ts.length + 1 := by rw [List.length_append, List.length_cons, List.length_take, List.length_drop]; omega
                      have hzf : (ts.take k ++ x :: ts.drop k).flatMap pvC = (ts.flatMap pvC).take (k * 5) ++ (Value.int .i64 ot :: Value.bool pt :: Value.bool false :: Value.slice s1 pg.length e1 :: Value.slice none 0 0 :: (ts.flatMap pvC).drop (k * 5)) := by
                        rw [flatTake pvC_len, flatDrop pvC_len, List.flatMap_append, List.flatMap_cons, hx]; rfl
                      rw [← hzf, ← hzl] at H
                      have H9 := H.permu (L' := [.row (.slice (some ⟨g4, 0, none⟩) ts.length d4) 52 5 ts.length (ts.flatMap pvC), .blk bx #[.int .i64 ot, .bool pt, .bool false, .slice s1 pg.length e1, .slice none 0 0] 52, .row (.slice s4 (ts.take k ++ x :: ts.drop k).length e4) 52 5 (ts.take k ++ x :: ts.drop k).length ((ts.take k ++ x :: ts.drop k).flatMap pvC), .row (.slice s1 pg.length e1) 49 3 pg.length (mg.flatMap pgC), .row (.slice none 0 0) 3 1 0 [], Item.many (ts.flatMap innerR)]) (by exact perm6 _ _ _ _ _ _)
                      have H10 := H9.less (L' := [.row (.slice s4 (ts.take k ++ x :: ts.drop k).length e4) 52 5 (ts.take k ++ x :: ts.drop k).length ((ts.take k ++ x :: ts.drop k).flatMap pvC)] ++ [.row (.slice s1 pg.length e1) 49 3 pg.length (mg.flatMap pgC), .row (.slice none 0 0) 3 1 0 [], Item.many (ts.flatMap innerR)]) (.cons _ (.cons _ (List.Sublist.refl _)))
                      have H11 := HS.insertPv (L := [.row (.slice s4 (ts.take k ++ x :: ts.drop k).length e4) 52 5 (ts.take k ++ x :: ts.drop k).length ((ts.take k ++ x :: ts.drop k).flatMap pvC)]) (ts := ts) x k (by rw [hx]; unfold pagesR; dsimp only; rw [← HPL.out]; rw [hx] at H10; exact H10)
                      refine bodyPost_ret (by simp [results, Tryz.results38, go_sem, C]; try rfl) rfl ?_
                      rw [HE.out]
                      refine ⟨.slice s4 (ts.take k ++ x :: ts.drop k).length e4, ts.take k ++ x :: ts.drop k, by rw [hzl], ?_, HS.shutPs (L := []) H11⟩
                      have hm := ins_map (k := k) (x := x) HTS.out (by rw [hx]; exact HTW.out)
                      rw [hx] at hm
                      rw [hx]
                      exact hm
                  · have HEX : k < ts.length → decide ((ts[k]!).p.id < ot) = false := fun h => absurd h hlk
                    skip
                    have HTW := Lib.hid (takeWhile_at (xs := ts) (p := fun y => decide (y.p.id < ot)) hk HK.out HEX)
                    clear HEX HK
                    go_upto_region 24 with fail
                    try clear k0
                    replace H := H.nilRow 52 5
                    simp only [List.nil_append, List.cons_append] at H
                    refine wp_region_h (by kernel_rfl) [0, 1, 2, 3, 4, 5, 6, 7, 8, 9, 10, 11, 12] (by kernel_rfl) (by kernel_rfl) (by kernel_rfl) (fun _ => False) (H) ?_
                    clear H; intro w7 H hz0
                    try clear C
                    try simp only [World.size_alloc, List.nil_append, List.cons_append, List.append_assoc] at H hz0 ⊢
                    clear hz0
                    try clear wr
                    have C := H.cells
                    try simp only [cellsOf, cellsM, apartOf, apartM, and_true] at C
                    have Z := H.zs
                    try simp only [ltsOf, ltsM, and_true] at Z
                    simp only [List.filterMap_cons, List.filterMap_nil, List.getElem?_toArray, List.getElem?_cons_zero, List.getElem?_cons_succ]
                    have hkl2 : (k : Int) ≤ ts.length := by omega
                    have hkc : (k : Int) ≤ d4 := by omega
                    obtain ⟨sx, hsx⟩ : ∃ sx : Option Addr, sx = (if d4 = k then (some ⟨g4, 0, none⟩ : Option Addr) else (some ⟨g4, 0, none⟩ : Option Addr).map (·.add (k * 5))) := ⟨_, rfl⟩
                    have HSX := Lib.hid hsx
                    clear hsx
                    (refine wpH_free rfl rfl rfl (fun _ _ => ?_); go_step; go_step)
                    (refine wpH_free rfl rfl rfl (fun _ _ => ?_); go_step; go_step)
                    (refine wpH_yield rfl rfl (.slice (some ⟨g4, 0, none⟩ : Option Addr) k d4) (fun w _ => by go_simp) ?_; go_simp)
                    refine wpH_append rfl (.const (.slice none 0 0)) (.tmp 90) 28 rfl elemPr 4 rfl rfl (by simp [Value.ownBlock]) (fun _ h => h.1) rfl (fun w hc => (src_pre (hc.hs.at 0 rfl) hk).1) (src_pre (H.at 0 rfl) hk).2 (fun y hy => pv_one (H.manyOks 3 rfl) y (List.mem_of_mem_take hy)) (by unfold maxLen; omega) (by omega) (N := k) (Nat.zero_add k) (fun s2 e2 he2 => ?_)
                    (refine wpH_load rfl rfl rfl (by simp [Stay, OneD, NoD, *]) (by simp [*]) (fun _ _ => ?_); go_step; go_step)
                    (refine wpH_lit rfl rfl #[.int .i64 ot, .bool pt, .bool false, .slice s1 pg.length e1, .slice none 0 0]   52 1 (fun w => by kernel_rfl) (fun bL hbL nbL _ _ => ?_); go_simp; go_step)
                    refine wpH_append rfl (.tmp 91) (.tmp 93) 28 rfl elemPr 4 rfl rfl he2 (fun _ h => h.1) rfl (fun w hc => src_lit (Fl.at _ _ _) hc) rfl (fun y hy => by simp only [List.mem_cons, List.mem_nil_iff, or_false] at hy; rcases hy with rfl | rfl | rfl | rfl | rfl <;> rfl) (by unfold maxLen; omega) (by omega) (N := k + 1) rfl (fun s3 e3 he3 => ?_)
                    (refine wpH_free rfl rfl rfl (fun _ _ => ?_); go_step; go_step)
                    (refine wpH_free rfl rfl rfl (fun _ _ => ?_); go_step; go_step)
                    (refine wpH_yield rfl rfl (.slice sx (ts.length - k) (d4 - k) ) (fun w _ => by  (rw [HSX.out]; go_simp)) ?_; go_simp)
                    refine wpH_append rfl (.tmp 94) (.tmp 97) 28 rfl elemPr 4 rfl rfl he3 (fun _ h => h.1) rfl (fun w hc => by rw [HSX.out]; exact (src_part (hc.hs.at 0 rfl) hk (Nat.le_refl _)).1) (src_part (H.at 0 rfl) hk (Nat.le_refl _)).2 (fun y hy => pv_one (H.manyOks 3 rfl) y (List.mem_of_mem_drop (List.mem_of_mem_take hy))) (by unfold maxLen; omega) (by omega) (N := ts.length + 1) (by omega) (fun s4 e4 he4 => ?_)
                    (refine wpH_free rfl rfl rfl (fun _ _ => ?_); go_step; go_step)
                    (refine wpH_free rfl rfl rfl (fun _ _ => ?_); go_step; go_step)
                    refine wpH_nil ?_
                    intro w8 hC
                    replace H := hC.hs
                    clear hC
                    try clear C
                    try clear Z
                    try simp only [List.nil_append, List.cons_append, List.append_assoc, List.set_cons_succ, List.set_cons_zero] at H
                    try clear w7
                    have C := H.cells
                    try simp only [cellsOf, cellsM, apartOf, apartM, and_true] at C
                    go_wp2_with fail
                    have htk : ((ts.flatMap pvC).drop (k * 5)).take ((ts.length - k) * 5) = (ts.flatMap pvC).drop (k * 5) := by
                      refine List.take_of_length_le ?_
                      rw [List.length_drop, flat_len pvC_len]
                      omega
                    rw [htk] at H
                    replace H := H.nilRow 3 1
                    simp only [List.nil_append, List.cons_append] at H
                    obtain ⟨x, hx⟩ : ∃ x : Pv, x = ⟨⟨ot, pt, false, mg, []⟩, .slice s1 pg.length e1, .slice none 0 0⟩ := ⟨_, rfl⟩
                    have hzl : (ts.take k ++ x :: ts.drop k).length = ts.length + 1 := by rw [List.length_append, List.length_cons, List.length_take, List.length_drop]; omega
                    have hzf : (ts.take k ++ x :: ts.drop k).flatMap pvC = (ts.flatMap pvC).take (k * 5) ++ (Value.int .i64 ot :: Value.bool pt :: Value.bool false :: Value.slice s1 pg.length e1 :: Value.slice none 0 0 :: (ts.flatMap pvC).drop (k * 5)) := by
                      rw [flatTake pvC_len, flatDrop pvC_len, List.flatMap_append, List.flatMap_cons, hx]; rfl
                    rw [← hzf, ← hzl] at H
                    have H9 := H.permu (L' := [.row (.slice (some ⟨g4, 0, none⟩) ts.length d4) 52 5 ts.length (ts.flatMap pvC), .blk bx #[.int .i64 ot, .bool pt, .bool false, .slice s1 pg.length e1, .slice none 0 0] 52, .row (.slice s4 (ts.take k ++ x :: ts.drop k).length e4) 52 5 (ts.take k ++ x :: ts.drop k).length ((ts.take k ++ x :: ts.drop k).flatMap pvC), .row (.slice s1 pg.length e1) 49 3 pg.length (mg.flatMap pgC), .row (.slice none 0 0) 3 1 0 [], Item.many (ts.flatMap innerR)]) (by exact perm6 _ _ _ _ _ _)
                    have H10 := H9.less (L' := [.row (.slice s4 (ts.take k ++ x :: ts.drop k).length e4) 52 5 (ts.take k ++ x :: ts.drop k).length ((ts.take k ++ x :: ts.drop k).flatMap pvC)] ++ [.row (.slice s1 pg.length e1) 49 3 pg.length (mg.flatMap pgC), .row (.slice none 0 0) 3 1 0 [], Item.many (ts.flatMap innerR)]) (.cons _ (.cons _ (List.Sublist.refl _)))
                    have H11 := HS.insertPv (L := [.row (.slice s4 (ts.take k ++ x :: ts.drop k).length e4) 52 5 (ts.take k ++ x :: ts.drop k).length ((ts.take k ++ x :: ts.drop k).flatMap pvC)]) (ts := ts) x k (by rw [hx]; unfold pagesR; dsimp only; rw [← HPL.out]; rw [hx] at H10; exact H10)
                    refine bodyPost_ret (by simp [results, Tryz.results38, go_sem, C]; try rfl) rfl ?_
                    rw [HE.out]
                    refine ⟨.slice s4 (ts.take k ++ x :: ts.drop k).length e4, ts.take k ++ x :: ts.drop k, by rw [hzl], ?_, HS.shutPs (L := []) H11⟩
                    have hm := ins_map (k := k) (x := x) HTS.out (by rw [hx]; exact HTW.out)
                    rw [hx] at hm
                    rw [hx]
                    exact hm
end Go.Proofs.YtedbpmckgiifpaaGreat
