/- Programs (memfaultref29): Drop, Own. -/
import Derived.Test.YtmnddnlabdafcaaOP8
import Derived.Test.YtmnddnlabdafcaaRFind
namespace Go.Proofs.Ytmnddnlabdafcaa
set_option linter.unusedSimpArgs false
set_option linter.unusedVariables false
open Go.RowKit
set_option maxRecDepth 100000
attribute [local go_sem] lt_more ne_more ne_more'
attribute [local irreducible] wpX wpF Calls

/-- The beginning of a slice of one's own. -/
theorem HS.rowTake {D : Nat → Prop} {W w : World} {L : List Item} (h : HS D W L w) (i : Nat) {g n cap s : Nat} {e : TypeId} {xs : List Value} (hi : L[i]? = some (.row (.slice (some ⟨g, 0, none⟩) n cap) e s n xs)) {k : Nat} (hk : k ≤ n) :
    HS D W (L.set i (.row (.slice (some ⟨g, 0, none⟩) k cap) e s k (xs.take (k * s)))) w := by
  rw [set_at _ hi]
  rw [split_at hi] at h
  have h1 : w.ownsRow 0 e s (.slice (some ⟨g, 0, none⟩) n cap) n xs := h.ok (.row (.slice (some ⟨g, 0, none⟩) n cap) e s n xs) (by simp)
  refine h.swap (X := .row (.slice (some ⟨g, 0, none⟩) n cap) e s n xs) (Y := .row (.slice (some ⟨g, 0, none⟩) k cap) e s k (xs.take (k * s))) rfl rfl rfl (Nat.le_refl _) (fun b hb hn => rfl) ?_ (fun b hb => .inl hb) (.inr rfl)
  obtain ⟨h2, h3⟩ := h1
  have hle : k * s ≤ n * s := Nat.mul_le_mul_right s hk
  refine ⟨by rw [List.length_take]; omega, ?_⟩
  rcases h3 with ⟨h3, h4⟩ | ⟨g', cap', cur, hv, hg, hh, hle1, hle2, hsz, hcs⟩
  · cases h3
  · injection hv with e1 e2 e3
    injection e1 with e1
    subst e3
    refine .inr ⟨g', cap, cur, by rw [e1], hg, hh, by omega, hle2, hsz, ?_⟩
    rw [← hcs, List.take_take, Nat.min_eq_left hle]
set_option maxHeartbeats 8000000 in
theorem rdrop_any (id n : Int) {F : Int} {v : Value} {ps : List Pr} (hg : GoodP F ps) (w : World) (hl : Ps w w.heap.size v ps) :
    Calls Try.prog 36 #[v, .int .i64 id, .int .i64 n] w (GivesP3 (dropP ps id n) w) := by
  have HA := Lib.hid (fun w h => rfind_any id n (v := v) hg.smallP w h)
  have HCP := Lib.hid (fun w h => rcopy_any (v := v) hg.smallP w h)
  have HPS := Lib.hid hl
  have HG := Lib.hid hg
  obtain ⟨qs, hqs, ⟨sa, c, rfl, hc, hl⟩, hi⟩ := hl
  have HL := Lib.hid hl
  have HI := Lib.hid hi
  have HQS := Lib.hid hqs
  clear hl hg hqs hc hi
  rcases findP_cases ps id n with ⟨i, k, hf, hi, hk⟩ | ⟨e, hf, he⟩
  rotate_left
  · rw [rfindR_err hf he] at HA
    rw [dropP_err hf he]
    clear hf HCP
    have hne : ((e : Int) == 0) = false := by rcases he with rfl | rfl <;> rfl
    clear he
    go_enter Try.func36, Try.ntmps36
    have H := HS.start NoD w
    go_wp2_with fail
    refine (HA.out _ (H.psUp HPS.out)).mono ?_
    rintro _ w1 ⟨rfl, hb⟩
    replace H := H.below hb
    clear hb
    try clear C
    try simp only [World.size_alloc, List.nil_append, List.cons_append, List.append_assoc] at H
    have C := H.cells
    try simp only [cellsOf, cellsM, apartOf, apartM, and_true] at C
    dsimp only
    go_wp2_with fail
    refine bodyPost_ret (by simp [results, Try.results36, go_sem, C]; try rfl) rfl ?_
    exact givesP3_nil H _ _
  · rw [rfindR_ok hf] at HA
    obtain ⟨R, hR⟩ : ∃ R, R = dropP ps id n := ⟨_, rfl⟩
    rw [← hR]
    have HE := Lib.hid (hR.trans (dropP_of hf))
    have hkl := (findIdx_some hk).1
    have hil := (findIdx_some hi).1
    clear hf hR hi hk
    have hlt : i < qs.length := by have := hil; rw [← HQS.out] at this; simpa using this
    obtain ⟨b, o, e0, hb, hc⟩ := HL.out.at hlt
    cases e0
    have HM := Lib.hid (map_at hlt)
    have hpv := HI.out _ (mem_at hlt)
    obtain ⟨q, hxj⟩ : ∃ q, q = qs[i]! := ⟨_, rfl⟩
    rw [← hxj] at hc hpv
    have HX := Lib.hid hxj
    obtain ⟨⟨pi, pt, pd, pg, td⟩, pa, ta⟩ := q
    obtain ⟨⟨pb, pc, e1, hpc, hpl⟩, ⟨tb, tc, e2, htc, htl⟩⟩ := hpv
    have f1 : pa = .slice pb pg.length pc := e1
    have f2 : ta = .slice tb td.length tc := e2
    clear e1 e2
    subst f1 f2
    have HPG : Hid (Lies w w.heap.size pb 3 pg.length (fun j => pgC pg[j]!)) := hpl
    have HTD : Hid (Lies w w.heap.size tb 1 td.length (fun j => iC td[j]!)) := htl
    have HPC : Hid (pg.length ≤ pc ∧ (pb = none → pc = 0)) := hpc
    have HTC : Hid (td.length ≤ tc ∧ (tb = none → tc = 0)) := htc
    clear hpc htc
    clear hpl htl
    have HC0 : Hid (w.cell? ⟨b, o + i * 5, none⟩ = some (.int .i64 pi)) := hc 0 _ rfl
    have HC1 : Hid (w.cell? ⟨b, o + i * 5 + 1, none⟩ = some (.bool pt)) := hc 1 _ rfl
    have HC2 : Hid (w.cell? ⟨b, o + i * 5 + 2, none⟩ = some (.bool pd)) := hc 2 _ rfl
    have HC3 : Hid (w.cell? ⟨b, o + i * 5 + 3, none⟩ = some (.slice pb pg.length pc)) := hc 3 _ rfl
    have HC4 : Hid (w.cell? ⟨b, o + i * 5 + 4, none⟩ = some (.slice tb td.length tc)) := hc 4 _ rfl
    have HB := Lib.hid hb
    clear hc hxj hb
    have HP0 := Lib.hid (show ps[i]! = ⟨pi, pt, pd, pg, td⟩ by rw [← HQS.out, HM.out, ← HX.out])
    rw [HP0.out] at HE hkl
    replace hkl : k < pg.length := hkl
    have hs0 : pg.length ≤ 16 := by have := (HG.out.one _ (at_mem hil)).plen; rw [HP0.out] at this; exact this
    have hpl : ps.length = qs.length := by rw [← HQS.out]; simp
    go_enter Try.func36, Try.ntmps36
    have H := HS.start NoD w
    go_wp2_with fail
    refine (HA.out _ (H.psUp HPS.out)).mono ?_
    rintro _ w1 ⟨rfl, hb⟩
    replace H := H.below hb
    clear hb
    try clear C
    try simp only [World.size_alloc, List.nil_append, List.cons_append, List.append_assoc] at H
    have C := H.cells
    try simp only [cellsOf, cellsM, apartOf, apartM, and_true] at C
    dsimp only
    go_wp2_with fail
    refine (HCP.out _ (H.psUp HPS.out)).mono ?_
    rintro _ w2 ⟨v4, rs, rfl, hrs, K⟩
    replace H := H.join1 K
    clear K HCP
    try clear C
    have hrl : rs.length = ps.length := by rw [← hrs]; simp
    have hir : i < rs.length := by omega
    have hop := HS.openAt (L := []) H hir
    clear H
    obtain ⟨g, d, pb, pc, tb, tc, rfl, hcap, hpa, hta, H⟩ := hop
    simp only [List.nil_append, List.cons_append] at H
    obtain ⟨pv, hpv⟩ : ∃ q, q = rs[i]! := ⟨_, rfl⟩
    rw [← hpv] at H hpa hta
    have hpe : ps[i]! = pv.p := by rw [← hrs, map_at hir, hpv]
    have HPV := Lib.hid hpv
    have HRS := Lib.hid hrs
    have HPE := Lib.hid hpe
    have HRL := Lib.hid hrl
    clear hpv hrs hpe
    obtain ⟨p4, pa, ta⟩ := pv
    have f0 : p4 = ⟨pi, pt, pd, pg, td⟩ := HPE.out.symm.trans HP0.out
    subst f0
    have f1 : pa = .slice pb pg.length pc := hpa
    have f2 : ta = .slice tb td.length tc := hta
    clear hpa hta
    subst f1 f2
    clear hrl
    dsimp only at H HPE ⊢
    clear HA
    obtain ⟨h, rfl, hh, hpc⟩ := ownsRow_ptr (H.at 1 rfl) (by omega)
    have k3 := (H.outerCell 0 rfl rfl hir (m := 3) (u := .slice (some ⟨h, 0, none⟩) pg.length pc) (by decide) (by rw [← HPV.out]; rfl)).1
    have k3f := (H.outerCell 0 rfl rfl hir (m := 3) (u := .slice (some ⟨h, 0, none⟩) pg.length pc) (by decide) (by rw [← HPV.out]; rfl)).2
    have HSR := Lib.hid (Lies.srcPart pgC_len (by decide) (c := pc) (sa := some ⟨h, 0, none⟩) ⟨hpc, fun e => by cases e⟩ (H.rowLies 1 pgC_len rfl rfl) (i := k + 1) (by omega))
    have esx : (if pc = k + 1 then (some ⟨h, 0, none⟩ : Option Addr) else (some ⟨h, 0, none⟩ : Option Addr).map (·.add ((k + 1) * 3))) = if pc = k + 1 then some ⟨h, 0, none⟩ else some ⟨h, (k + 1) * 3, none⟩ := by simp [Addr.add]
    rw [esx] at HSR
    clear esx
    replace H := H.rowTake 1 rfl (k := k) (by omega)
    simp only [List.set_cons_succ, List.set_cons_zero, flatTake pgC_len] at H
    have hk0 : 0 ≤ (k : Int) + 1 := by omega
    have hk1 : (k : Int) + 1 ≤ pg.length := by omega
    have hwk : IntKind.i64.wrap ((k : Int) + 1) = ((k + 1 : Nat) : Int) := by rw [IntWalk.i64_in _ (by omega)]; omega
    have hk2 : (k : Int) ≤ pc := by omega
    have hk3 : (pg.length : Int) ≤ pc := by omega
    go_upto_region 5 with fail
    go_region_law (refine step_append_src (hgd := rfl) (s := .tmp 34) (x := .tmp 42) (t := 29) (ho := rfl) (hE := elemPg) (H := H.drew) (k := 1) (hk := rfl) (hs := by simp [Act.eval, Act.put]) (sa := if pc = k + 1 then some ⟨h, 0, none⟩ else some ⟨h, (k + 1) * 3, none⟩) (m := pg.length - (k + 1)) (c := pc - (k + 1)) (news := (pg.drop (k + 1)).flatMap pgC) (hx := by simp [Act.eval, Act.put]) (hsrc := HSR.out.1) (hl := HSR.out.2) (h1 := pgC_one _) (h63 := by unfold maxLen; omega) (hbytes := by omega) (N := pg.length - 1) (hN := by omega) (h := fun s1 c1 wa H1 hg1 => ?_); clear hg1; simp only [List.set_cons_succ, List.set_cons_zero] at H1; have e3 := H1.outerCell 0 rfl rfl hir (m := 3) (u := .slice (some ⟨h, 0, none⟩) pg.length pc) (by decide) (by rw [← HPV.out]; rfl); obtain ⟨e3, e3f⟩ := e3)
    all_goals
      generalize (if pc = k + 1 then (some ⟨h, 0, none⟩ : Option Addr) else some ⟨h, (k + 1) * 3, none⟩) = sx9
      clear e3 e3f k3 k3f H
      try clear C
      generalize hwb : World.setCell _ _ _ = wf
      have H9 := HS.eqW hwb (H1.rowSet 0 rfl (i * 5 + 3) (.slice s1 (pg.length - 1) c1))
      clear hwb H1
      obtain ⟨q', hq'⟩ : ∃ q' : Pv, q' = ⟨⟨pi, pt, pd, pg.eraseIdx k, td⟩, .slice s1 (pg.length - 1) c1, .slice tb td.length tc⟩ := ⟨_, rfl⟩
      have hfl : (pg.eraseIdx k).flatMap pgC = (pg.take k).flatMap pgC ++ (pg.drop (k + 1)).flatMap pgC := by rw [List.eraseIdx_eq_take_drop_succ, List.flatMap_append]
      have hfn : (pg.eraseIdx k).length = pg.length - 1 := List.length_eraseIdx_of_lt hkl
      have hpv : pvC q' = (pvC rs[i]!).set 3 (.slice s1 (pg.length - 1) c1) := by rw [hq', ← HPV.out]; rfl
      have H := HS.shutAt (L := []) (g := g) (d := d) (rs := rs) (i := i) (cells := (rs.flatMap pvC).set (i * 5 + 3) (.slice s1 (pg.length - 1) c1)) q' (by
        rw [hq']; unfold pagesR toldR; dsimp only; rw [hfl, hfn]; exact H9) hir (flat_set pvC_len rs i 3 _ _ hir (by decide) hpv).symm
      clear H9 hfl hpv
      obtain ⟨xo, hxo⟩ : ∃ x, x = pg[k]! := ⟨_, rfl⟩
      obtain ⟨os, hos⟩ : ∃ os, os = ps.set i ⟨pi, pt, pd, pg.eraseIdx k, td⟩ := ⟨_, rfl⟩
      have HTS := Lib.hid (show (rs.set i q').map (·.p) = os by rw [List.map_set, HRS.out, hq', hos])
      have HE2 := Lib.hid (show R = (0, os, leftP os xo.f) by rw [HE.out, hxo, hos])
      have HSO := Lib.hid (show SmallP os by
        rw [hos]
        exact setSmallPg HG.out hil HP0.out (by omega))
      have HXO := Lib.hid hxo
      clear hos HE hxo hq' hfn
      have hlk : k < pg.length := hkl
      skip
      try clear c0 c1 c2 c3 c4
      have c0 := (H.was HB.out (fun h => h)).trans HC0.out
      have c1 := (H.was HB.out (fun h => h)).trans HC1.out
      have c2 := (H.was HB.out (fun h => h)).trans HC2.out
      have c3 := (H.was HB.out (fun h => h)).trans HC3.out
      have c4 := (H.was HB.out (fun h => h)).trans HC4.out
      obtain ⟨bg, og, rfl, hbg, hcg⟩ := (H.lies HPG.out).at hlk
      obtain ⟨g, hxg⟩ : ∃ q, q = pg[k]! := ⟨_, rfl⟩
      rw [← hxg] at hcg
      have HG := Lib.hid hxg
      obtain ⟨xn, xf, xs⟩ := g
      have d0 : wf.cell? ⟨bg, og + k * 3, none⟩ = some (.int .i64 xn) := hcg 0 _ rfl
      have d1 : wf.cell? ⟨bg, og + k * 3 + 1, none⟩ = some (.int .i64 xf) := hcg 1 _ rfl
      have d2 : wf.cell? ⟨bg, og + k * 3 + 2, none⟩ = some (.bool xs) := hcg 2 _ rfl
      clear hcg hxg
      have HUN := Lib.hid (fun w h => runused_any xf (v := .slice (some ⟨g, 0, none⟩) rs.length d) HSO.out w h)
      have hxf : xo.f = xf := by rw [HXO.out, ← HG.out]
      go_wp2_with fail
      refine (HUN.out _ (by have := H.ownPs 0 rfl; rw [HTS.out] at this; exact this)).mono ?_
      rintro _ w6 ⟨rfl, hb6⟩
      replace H := H.below hb6
      clear hb6 c0 c1 c2 c3 c4 d0 d1 d2
      dsimp only
      skip
      try clear C
      try simp only [World.size_alloc, List.nil_append, List.cons_append, List.append_assoc] at H
      have C := H.cells
      try simp only [cellsOf, cellsM, apartOf, apartM, and_true] at C
      go_wp2_with fail
      refine bodyPost_ret (by simp [results, Try.results36, go_sem, C]; try rfl) rfl ?_
      rw [HE2.out, hxf]
      exact ⟨.slice (some ⟨g, 0, none⟩) rs.length d, rs.set i q', rfl, HTS.out, H⟩
end Go.Proofs.Ytmnddnlabdafcaa
