/- Package owner: a program of a copy laid open; Own. -/
import Derived.Test.YtmnddnlabdafcaaOP3
import Derived.Test.YtmnddnlabdafcaaO7
namespace Go.Proofs.Ytmnddnlabdafcaa
set_option linter.unusedSimpArgs false
set_option linter.unusedVariables false
open Go.RowKit
set_option maxRecDepth 100000
attribute [local go_sem] lt_more ne_more ne_more'
attribute [local irreducible] wpX wpF Calls

def toldR (q : Pv) : Item := .row q.ta 3 1 q.p.told.length (q.p.told.flatMap iC)
/-- What is within, but program i's. -/
def restB (qs : List Pv) (i : Nat) : List Item := (qs.take i).flatMap innerR ++ (qs.drop (i + 1)).flatMap innerR
theorem inner_permB {qs : List Pv} {i : Nat} (hi : i < qs.length) : (qs.flatMap innerR).Perm (pagesR qs[i]! :: toldR qs[i]! :: restB qs i) := by
  rw [flat_split hi]
  show ((qs.take i).flatMap innerR ++ ([pagesR qs[i]!, toldR qs[i]!] ++ (qs.drop (i + 1)).flatMap innerR)).Perm ([pagesR qs[i]!, toldR qs[i]!] ++ restB qs i)
  unfold restB
  rw [← List.append_assoc, ← List.append_assoc]
  exact List.Perm.append_right _ List.perm_append_comm
theorem inner_set_permB {qs : List Pv} {i : Nat} (hi : i < qs.length) (q : Pv) : ((qs.set i q).flatMap innerR).Perm (pagesR q :: toldR q :: restB qs i) := by
  rw [flat_set_split hi]
  show ((qs.take i).flatMap innerR ++ ([pagesR q, toldR q] ++ (qs.drop (i + 1)).flatMap innerR)).Perm ([pagesR q, toldR q] ++ restB qs i)
  unfold restB
  rw [← List.append_assoc, ← List.append_assoc]
  exact List.Perm.append_right _ List.perm_append_comm
theorem restB_low {qs : List Pv} {i : Nat} : ∀ A ∈ restB qs i, A.low = 0 := fun A hA => by
  unfold restB at hA
  rcases List.mem_append.1 hA with hA | hA
  · exact inner_low A hA
  · exact inner_low A hA
section
variable {D : Nat → Prop} {W w : World} {L : List Item}
theorem HS.openAt {v : Value} {rs : List Pv} (h : HS D W (L ++ [Item.many (PsR v rs)]) w) {i : Nat} (hi : i < rs.length) :
    ∃ g d pb pc tb tc, v = .slice (some ⟨g, 0, none⟩) rs.length d ∧ rs.length ≤ d ∧ (rs[i]!).pa = .slice pb (rs[i]!).p.pages.length pc ∧ (rs[i]!).ta = .slice tb (rs[i]!).p.told.length tc ∧
      HS D W (L ++ [.row (.slice (some ⟨g, 0, none⟩) rs.length d) 31 5 rs.length (rs.flatMap pvC), .row (.slice pb (rs[i]!).p.pages.length pc) 37 3 (rs[i]!).p.pages.length ((rs[i]!).p.pages.flatMap pgC), .row (.slice tb (rs[i]!).p.told.length tc) 3 1 (rs[i]!).p.told.length ((rs[i]!).p.told.flatMap iC), Item.many (restB rs i)]) w := by
  have h1 : HS D W ((L ++ [outerR v rs]) ++ rs.flatMap innerR) w := by have := h.ofMany; unfold PsR at this; simpa using this
  have h2 := h1.permu ((inner_permB hi).append_left (L ++ [outerR v rs]))
  have h3 : HS D W ((L ++ [outerR v rs, pagesR rs[i]!, toldR rs[i]!]) ++ restB rs i) w := by simpa using h2
  have h4 := h3.toMany restB_low
  have ho : w.ownsRow 0 31 5 v rs.length (rs.flatMap pvC) := h4.ok (outerR v rs) (by simp)
  have hp : w.ownsRow 0 37 3 (rs[i]!).pa (rs[i]!).p.pages.length ((rs[i]!).p.pages.flatMap pgC) := h4.ok (pagesR rs[i]!) (by simp)
  have ht : w.ownsRow 0 3 1 (rs[i]!).ta (rs[i]!).p.told.length ((rs[i]!).p.told.flatMap iC) := h4.ok (toldR rs[i]!) (by simp)
  obtain ⟨sb, d, e1⟩ := ownsRow_slice ho
  rw [e1] at ho
  obtain ⟨g, e2, -, hcap⟩ := ownsRow_ptr ho (by omega)
  obtain ⟨pb, pc, e3⟩ := ownsRow_slice hp
  obtain ⟨tb, tc, e4⟩ := ownsRow_slice ht
  refine ⟨g, d, pb, pc, tb, tc, by rw [e1, e2], hcap, e3, e4, ?_⟩
  unfold outerR pagesR toldR at h4
  rw [e1, e2, e3, e4] at h4
  simpa using h4
theorem HS.shutAt {g d : Nat} {rs : List Pv} {i : Nat} {cells : List Value} (q : Pv) (h : HS D W (L ++ [.row (.slice (some ⟨g, 0, none⟩) rs.length d) 31 5 rs.length cells, pagesR q, toldR q, Item.many (restB rs i)]) w) (hi : i < rs.length) (hc : cells = (rs.set i q).flatMap pvC) :
    HS D W (L ++ [Item.many (PsR (.slice (some ⟨g, 0, none⟩) rs.length d) (rs.set i q))]) w := by
  have h1 : HS D W ((L ++ [.row (.slice (some ⟨g, 0, none⟩) rs.length d) 31 5 rs.length cells, pagesR q, toldR q]) ++ [Item.many (restB rs i)]) w := by simpa using h
  have h2 := h1.ofMany
  have h3 : HS D W ((L ++ [outerR (.slice (some ⟨g, 0, none⟩) rs.length d) (rs.set i q)]) ++ (pagesR q :: toldR q :: restB rs i)) w := by
    unfold outerR; rw [List.length_set, ← hc]; simpa using h2
  have h4 := h3.permu ((inner_set_permB hi q).symm.append_left _)
  have h5 : HS D W (L ++ PsR (.slice (some ⟨g, 0, none⟩) rs.length d) (rs.set i q)) w := by unfold PsR; simpa using h4
  exact h5.toMany PsR_low
end
theorem findP_cases (ps : List Pr) (id n : Int) : (∃ i k, findP ps id n = (0, i, k) ∧ ps.findIdx? (live id) = some i ∧ (ps[i]!).pages.findIdx? (numb n) = some k) ∨ ∃ e, findP ps id n = (e, 0, 0) ∧ (e = 41 ∨ e = 42) := by
  unfold findP
  cases hi : ps.findIdx? (live id) with
  | none => exact .inr ⟨42, rfl, .inr rfl⟩
  | some i =>
    cases hk : (ps[i]!).pages.findIdx? (numb n) with
    | none => refine .inr ⟨41, ?_, .inl rfl⟩; dsimp only; rw [hk]
    | some k => refine .inl ⟨i, k, ?_, rfl, hk⟩; dsimp only; rw [hk]
theorem ofindR_err {ps : List Pr} {id n e : Int} (h : findP ps id n = (e, 0, 0)) (he : e = 41 ∨ e = 42) : ofindR ps id n = .tuple #[.int .i64 0, .int .i64 0, .int .i64 e] := by
  unfold ofindR; rw [h]; rcases he with rfl | rfl <;> rfl
theorem ofindR_ok {ps : List Pr} {id n : Int} {i k : Nat} (h : findP ps id n = (0, i, k)) : ofindR ps id n = .tuple #[.int .i64 i, .int .i64 k, .int .i64 0] := by
  unfold ofindR; rw [h]; rfl
theorem ownP_err {ps : List Pr} {id n e : Int} (h : findP ps id n = (e, 0, 0)) (he : e = 41 ∨ e = 42) (f : Int) : ownP ps id n f = (e, [], -1) := by
  unfold ownP; rw [h]; rcases he with rfl | rfl <;> rfl
/-- A call hands back programs, a number and an error. -/
def GivesP3 (R : Int × List Pr × Int) (w : World) (x : Ending) (w' : World) : Prop :=
  ∃ v qs, x = .returned (.tuple #[v, .int .i64 R.2.2, .int .i64 R.1]) ∧ qs.map (·.p) = R.2.1 ∧ HS NoD w [.many (PsR v qs)] w'
theorem givesP3_nil {W w : World} {L : List Item} (H : HS NoD W L w) (e f : Int) : GivesP3 (e, [], f) W (.returned (.tuple #[.slice none 0 0, .int .i64 f, .int .i64 e])) w :=
  ⟨_, [], rfl, rfl, HS.less H.nilPs (List.sublist_append_right _ _)⟩
theorem flat_setPg {pg : List Pg} {k : Nat} (hk : k < pg.length) (x : Pg) : ((((pg.flatMap pgC).set (k * 3) (.int .i64 x.n)).set (k * 3 + 1) (.int .i64 x.f)).set (k * 3 + 2) (.bool x.s)) = (pg.set k x).flatMap pgC := by
  have e1 := flat_set pgC_len pg k 0 { pg[k]! with n := x.n } (.int .i64 x.n) hk (by decide) rfl
  rw [Nat.add_zero] at e1
  rw [← e1]
  have e2 := flat_set pgC_len (pg.set k { pg[k]! with n := x.n }) k 1 { pg[k]! with n := x.n, f := x.f } (.int .i64 x.f) (by rw [List.length_set]; exact hk) (by decide) (by rw [set_bang _ hk]; rfl)
  rw [← e2, List.set_set]
  have e3 := flat_set pgC_len (pg.set k { pg[k]! with n := x.n, f := x.f }) k 2 x (.bool x.s) (by rw [List.length_set]; exact hk) (by decide) (by rw [set_bang _ hk]; rfl)
  rw [← e3, List.set_set]
set_option maxHeartbeats 4000000 in
theorem oown_any (id n f : Int) {F : Int} {v : Value} {ps : List Pr} (hg : GoodP F ps) (w : World) (hl : Ps w w.heap.size v ps) :
    Calls Try.prog 20 #[v, .int .i64 id, .int .i64 n, .int .i64 f] w (GivesP3 (ownP ps id n f) w) := by
  have HA := Lib.hid (fun w h => ofind_any id n (v := v) hg w h)
  have HU := Lib.hid (fun w h => ounused_any f (v := v) hg.smallP w h)
  have HCP := Lib.hid (fun w h => ocopy_any (v := v) hg.smallP w h)
  have HWI := Lib.hid (fun w => within_any f 0 63 w)
  have HPS := Lib.hid hl
  have HG := Lib.hid hg
  clear hl hg
  rcases findP_cases ps id n with ⟨i, k, hf, hi, hk⟩ | ⟨e, hf, he⟩
  rotate_left
  · rw [ofindR_err hf he] at HA
    rw [ownP_err hf he]
    clear hf HU HCP HWI
    have hne : ((e : Int) == 0) = false := by rcases he with rfl | rfl <;> rfl
    clear he
    go_enter Try.func20, Try.ntmps20
    have H := HS.start NoD w
    go_wp2_with fail
    refine (HA.out _ (H.psUp HPS.out)).mono ?_
    rintro _ w1 ⟨rfl, hb⟩
    replace H := H.below hb
    clear hb
    try clear C
    try simp only [World.size_alloc, List.nil_append, List.cons_append, List.append_assoc] at H
    have C := H.cells
    try simp only [cellsOf, cellsM, apartOf, apartM, and_true] at C
    dsimp only
    go_wp2_with fail
    refine bodyPost_ret (by simp [results, Try.results20, go_sem, C]; try rfl) rfl ?_
    exact givesP3_nil H _ _
  · rw [ofindR_ok hf] at HA
    obtain ⟨R, hR⟩ : ∃ R, R = ownP ps id n f := ⟨_, rfl⟩
    rw [← hR]
    have HR := Lib.hid (hR.trans (ownP_of hf f))
    have HN := Lib.hid (of_decide_eq_true (findIdx_some hk).2)
    have hkl := (findIdx_some hk).1
    have hil := (findIdx_some hi).1
    clear hf hR hi hk
    by_cases hr : f < 0 ∨ 64 ≤ f
    · have HE := Lib.hid (HR.out.trans (if_pos hr))
      rw [show (decide (0 ≤ f) && decide (f ≤ 63)) = false by rw [Bool.and_eq_false_iff, decide_eq_false_iff_not, decide_eq_false_iff_not]; omega] at HWI
      clear HR hr HU HCP
      go_enter Try.func20, Try.ntmps20
      have H := HS.start NoD w
      go_wp2_with fail
      refine (HA.out _ (H.psUp HPS.out)).mono ?_
      rintro _ w1 ⟨rfl, hb⟩
      replace H := H.below hb
      clear hb
      try clear C
      try simp only [World.size_alloc, List.nil_append, List.cons_append, List.append_assoc] at H
      have C := H.cells
      try simp only [cellsOf, cellsM, apartOf, apartM, and_true] at C
      dsimp only
      go_wp2_with fail
      refine (HWI.out _).mono ?_
      rintro _ w2 ⟨rfl, hb⟩
      replace H := H.below hb
      clear hb
      try clear C
      try simp only [World.size_alloc, List.nil_append, List.cons_append, List.append_assoc] at H
      try clear w1
      have C := H.cells
      try simp only [cellsOf, cellsM, apartOf, apartM, and_true] at C
      dsimp only
      go_wp2_with fail
      refine bodyPost_ret (by simp [results, Try.results20, go_sem, C]; try rfl) rfl ?_
      rw [HE.out]
      exact givesP3_nil H _ _
    · have HR2 := Lib.hid (HR.out.trans (if_neg hr))
      rw [show (decide (0 ≤ f) && decide (f ≤ 63)) = true by rw [Bool.and_eq_true, decide_eq_true_iff, decide_eq_true_iff]; omega] at HWI
      clear HR hr
      by_cases hu : usedB ps f = true
      · have HE := Lib.hid (HR2.out.trans (if_pos hu))
        rw [hu] at HU
        clear HR2 hu HCP
        go_enter Try.func20, Try.ntmps20
        have H := HS.start NoD w
        go_wp2_with fail
        refine (HA.out _ (H.psUp HPS.out)).mono ?_
        rintro _ w1 ⟨rfl, hb⟩
        replace H := H.below hb
        clear hb
        try clear C
        try simp only [World.size_alloc, List.nil_append, List.cons_append, List.append_assoc] at H
        have C := H.cells
        try simp only [cellsOf, cellsM, apartOf, apartM, and_true] at C
        dsimp only
        go_wp2_with fail
        refine (HWI.out _).mono ?_
        rintro _ w2 ⟨rfl, hb⟩
        replace H := H.below hb
        clear hb
        try clear C
        try simp only [World.size_alloc, List.nil_append, List.cons_append, List.append_assoc] at H
        try clear w1
        have C := H.cells
        try simp only [cellsOf, cellsM, apartOf, apartM, and_true] at C
        dsimp only
        go_wp2_with fail
        refine (HU.out _ (H.psUp HPS.out)).mono ?_
        rintro _ w3 ⟨rfl, hb⟩
        replace H := H.below hb
        clear hb
        try clear C
        try simp only [World.size_alloc, List.nil_append, List.cons_append, List.append_assoc] at H
        try clear w2
        have C := H.cells
        try simp only [cellsOf, cellsM, apartOf, apartM, and_true] at C
        dsimp only
        go_wp2_with fail
        refine bodyPost_ret (by simp [results, Try.results20, go_sem, C]; try rfl) rfl ?_
        rw [HE.out]
        exact givesP3_nil H _ _
      · have HE := Lib.hid (HR2.out.trans (if_neg hu))
        rw [show usedB ps f = false by cases h : usedB ps f with | true => exact absurd h hu | false => rfl] at HU
        clear HR2 hu
        go_enter Try.func20, Try.ntmps20
        have H := HS.start NoD w
        go_wp2_with fail
        refine (HA.out _ (H.psUp HPS.out)).mono ?_
        rintro _ w1 ⟨rfl, hb⟩
        replace H := H.below hb
        clear hb
        try clear C
        try simp only [World.size_alloc, List.nil_append, List.cons_append, List.append_assoc] at H
        have C := H.cells
        try simp only [cellsOf, cellsM, apartOf, apartM, and_true] at C
        dsimp only
        go_wp2_with fail
        refine (HWI.out _).mono ?_
        rintro _ w2 ⟨rfl, hb⟩
        replace H := H.below hb
        clear hb
        try clear C
        try simp only [World.size_alloc, List.nil_append, List.cons_append, List.append_assoc] at H
        try clear w1
        have C := H.cells
        try simp only [cellsOf, cellsM, apartOf, apartM, and_true] at C
        dsimp only
        go_wp2_with fail
        refine (HU.out _ (H.psUp HPS.out)).mono ?_
        rintro _ w3 ⟨rfl, hb⟩
        replace H := H.below hb
        clear hb
        try clear C
        try simp only [World.size_alloc, List.nil_append, List.cons_append, List.append_assoc] at H
        try clear w2
        have C := H.cells
        try simp only [cellsOf, cellsM, apartOf, apartM, and_true] at C
        dsimp only
        go_wp2_with fail
        refine (HCP.out _ (H.psUp HPS.out)).mono ?_
        rintro _ w4 ⟨v4, rs, rfl, hrs, K⟩
        replace H := H.join1 K
        clear K HCP
        try clear C
        have hrl : rs.length = ps.length := by rw [← hrs]; simp
        have hir : i < rs.length := by omega
        have hop := HS.openAt (L := []) H hir
        clear H
        obtain ⟨g, d, pb, pc, tb, tc, rfl, hcap, hpa, hta, H⟩ := hop
        simp only [List.nil_append, List.cons_append] at H
        obtain ⟨pv, hpv⟩ : ∃ q, q = rs[i]! := ⟨_, rfl⟩
        rw [← hpv] at H hpa hta
        have hpe : ps[i]! = pv.p := by rw [← hrs, map_at hir, hpv]
        have HPV := Lib.hid hpv
        have HRS := Lib.hid hrs
        have HPE := Lib.hid hpe
        have HRL := Lib.hid hrl
        clear hpv hrs hpe
        obtain ⟨⟨pi, pt, pd, pg, td⟩, pa, ta⟩ := pv
        have f1 : pa = .slice pb pg.length pc := hpa
        have f2 : ta = .slice tb td.length tc := hta
        clear hpa hta
        subst f1 f2
        clear hrl
        dsimp only at H HPE ⊢
        rw [HPE.out] at HE HN hkl
        clear HA HU HWI
        replace hkl : k < pg.length := hkl
        obtain ⟨h, rfl, hh, hpc⟩ := ownsRow_ptr (H.at 1 rfl) (by omega)
        obtain ⟨xo, hxo⟩ : ∃ x, x = pg[k]! := ⟨_, rfl⟩
        have HXO := Lib.hid hxo
        have k3 := (H.outerCell 0 rfl rfl hir (m := 3) (u := .slice (some ⟨h, 0, none⟩) pg.length pc) (by decide) (by rw [← HPV.out]; rfl)).1
        have p0 : w4.cell? ⟨h, k * 3, none⟩ = some (.int .i64 xo.n) ∧ w4.frozen? ⟨h, k * 3, none⟩ = false := H.pageCell 1 rfl rfl hkl (m := 0) (by decide) (by rw [hxo]; rfl)
        have p1 := H.pageCell 1 rfl rfl hkl (m := 1) (u := .int .i64 xo.f) (by decide) (by rw [hxo]; rfl)
        have p2 := H.pageCell 1 rfl rfl hkl (m := 2) (u := .bool xo.s) (by decide) (by rw [hxo]; rfl)
        obtain ⟨p0, p0f⟩ := p0
        obtain ⟨p1, p1f⟩ := p1
        obtain ⟨p2, p2f⟩ := p2
        clear hxo
        go_wp2_with fail
        clear k3 p0 p0f p1 p1f p2 p2f
        generalize hwb : World.setCell _ _ _ = w5
        have H9 := HS.eqW hwb (((H.rowSet 1 rfl (k * 3) (.int .i64 n)).rowSet 1 rfl (k * 3 + 1) (.int .i64 f)).rowSet 1 rfl (k * 3 + 2) (.bool false))
        clear hwb H
        have hfl := flat_setPg hkl ⟨n, f, false⟩
        dsimp only at hfl
        obtain ⟨q', hq'⟩ : ∃ q' : Pv, q' = ⟨⟨pi, pt, pd, pg.set k ⟨n, f, false⟩, td⟩, .slice (some ⟨h, 0, none⟩) pg.length pc, .slice tb td.length tc⟩ := ⟨_, rfl⟩
        have H := HS.shutAt (L := []) (g := g) (d := d) (rs := rs) (i := i) (cells := rs.flatMap pvC) q' (by rw [hq']; unfold pagesR toldR; dsimp only; rw [List.length_set, ← hfl]; exact H9) hir (by rw [flat_set_split hir, flat_split hir, hq', ← HPV.out]; rfl)
        clear H9 hfl
        obtain ⟨os, hos⟩ : ∃ os, os = ps.set i ⟨pi, pt, pd, pg.set k ⟨n, f, false⟩, td⟩ := ⟨_, rfl⟩
        have HTS := Lib.hid (show (rs.set i q').map (·.p) = os by rw [List.map_set, HRS.out, hq', hos])
        have HE2 := Lib.hid (show R = (0, os, leftP os xo.f) by rw [HE.out, HN.out, HXO.out, hos])
        have HSO := Lib.hid (show SmallP os by
          rw [hos]
          have h1 := HG.out.smallP
          have h2 := h1.2 _ (at_mem hil)
          rw [HPE.out] at h2
          exact setSmall h1 i (p := ⟨pi, pt, pd, pg.set k ⟨n, f, false⟩, td⟩) (by dsimp only at h2 ⊢; rw [List.length_set]; exact h2))
        clear hos HE HXO HN
        skip
        refine (oleft_any xo.f (v := .slice (some ⟨g, 0, none⟩) rs.length d) HSO.out _ (by have := H.ownPs 0 rfl; rw [HTS.out] at this; exact this)).mono ?_
        rintro _ w6 ⟨rfl, hb6⟩
        replace H := H.below hb6
        clear hb6 hq'
        dsimp only
        skip
        try clear C
        try simp only [World.size_alloc, List.nil_append, List.cons_append, List.append_assoc] at H
        have C := H.cells
        try simp only [cellsOf, cellsM, apartOf, apartM, and_true] at C
        go_wp2_with fail
        refine bodyPost_ret (by simp [results, Try.results20, go_sem, C]; try rfl) rfl ?_
        rw [HE2.out]
        exact ⟨.slice (some ⟨g, 0, none⟩) rs.length d, rs.set i q', rfl, HTS.out, H⟩
end Go.Proofs.Ytmnddnlabdafcaa
