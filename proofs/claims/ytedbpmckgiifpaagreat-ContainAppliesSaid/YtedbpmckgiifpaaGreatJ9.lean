/- Several texts in one: O9, O10, O11. -/
import Derived.Test.YtedbpmckgiifpaaGreatOP8
import Derived.Test.YtedbpmckgiifpaaGreatRFind
import Derived.Test.YtedbpmckgiifpaaGreatOP6
/- Programs (memfaultref29): Drop, Own. -/
namespace Go.Proofs.YtedbpmckgiifpaaGreat
set_option linter.unusedSimpArgs false
set_option linter.unusedVariables false
open Go.RowKit
set_option maxRecDepth 100000
attribute [local go_sem] lt_more ne_more ne_more'
attribute [local irreducible] wpX wpF Calls

/-- The beginning of a slice of one's own. -/
theorem HS.rowTake {D : Nat → Prop} {W w : World} {L : List Item} (h : HS D W L w) (i : Nat) {g n cap s : Nat} {e : TypeId} {xs : List Value} (hi : L[i]? = some (.row (.slice (some ⟨g, 0, none⟩) n cap) e s n xs)) {k : Nat} (hk : k ≤ n) :
    HS D W (L.set i (.row (.slice (some ⟨g, 0, none⟩) k cap) e s k (xs.take (k * s)))) w := by
  rw [set_at _ hi]
  rw [split_at hi] at h
  have h1 : w.ownsRow 0 e s (.slice (some ⟨g, 0, none⟩) n cap) n xs := h.ok (.row (.slice (some ⟨g, 0, none⟩) n cap) e s n xs) (by simp)
  refine h.swap (X := .row (.slice (some ⟨g, 0, none⟩) n cap) e s n xs) (Y := .row (.slice (some ⟨g, 0, none⟩) k cap) e s k (xs.take (k * s))) rfl rfl rfl (Nat.le_refl _) (fun b hb hn => rfl) ?_ (fun b hb => .inl hb) (.inr rfl)
  obtain ⟨h2, h3⟩ := h1
  have hle : k * s ≤ n * s := Nat.mul_le_mul_right s hk
  refine ⟨by rw [List.length_take]; omega, ?_⟩
  rcases h3 with ⟨h3, h4⟩ | ⟨g', cap', cur, hv, hg, hh, hle1, hle2, hsz, hcs⟩
  · cases h3
  · injection hv with e1 e2 e3
    injection e1 with e1
    subst e3
    refine .inr ⟨g', cap, cur, by rw [e1], hg, hh, by omega, hle2, hsz, ?_⟩
    rw [← hcs, List.take_take, Nat.min_eq_left hle]
set_option maxHeartbeats 8000000 in
theorem rdrop_any (id n : Int) {F : Int} {v : Value} {ps : List Pr} (hg : GoodP F ps) (w : World) (hl : Ps w w.heap.size v ps) :
    Calls Tryz.prog 55 #[v, .int .i64 id, .int .i64 n] w (GivesP3 (dropP ps id n) w) := by
  have HA := Lib.hid (fun w h => rfind_any id n (v := v) hg.smallP w h)
  have HCP := Lib.hid (fun w h => rcopy_any (v := v) hg.smallP w h)
  have HPS := Lib.hid hl
  have HG := Lib.hid hg
  obtain ⟨qs, hqs, ⟨sa, c, rfl, hc, hl⟩, hi⟩ := hl
  have HL := Lib.hid hl
  have HI := Lib.hid hi
  have HQS := Lib.hid hqs
  clear hl hg hqs hc hi
  rcases findP_cases ps id n with ⟨i, k, hf, hi, hk⟩ | ⟨e, hf, he⟩
  rotate_left
  · rw [rfindR_err hf he] at HA
    rw [dropP_err hf he]
    clear hf HCP
    have hne : ((e : Int) == 0) = false := by rcases he with rfl | rfl <;> rfl
    clear he
    go_enter Tryz.func55, Tryz.ntmps55
    have H := HS.start NoD w
    go_wp2_with fail
    refine (HA.out _ (H.psUp HPS.out)).mono ?_
    rintro _ w1 ⟨rfl, hb⟩
    replace H := H.below hb
    clear hb
    try clear C
    try simp only [World.size_alloc, List.nil_append, List.cons_append, List.append_assoc] at H
    have C := H.cells
    try simp only [cellsOf, cellsM, apartOf, apartM, and_true] at C
    dsimp only
    go_wp2_with fail
    refine bodyPost_ret (by simp [results, Tryz.results55, go_sem, C]; try rfl) rfl ?_
    exact givesP3_nil H _ _
  · rw [rfindR_ok hf] at HA
    obtain ⟨R, hR⟩ : ∃ R, R = dropP ps id n := ⟨_, rfl⟩
    rw [← hR]
    have HE := Lib.hid (hR.trans (dropP_of hf))
    have hkl := (findIdx_some hk).1
    have hil := (findIdx_some hi).1
    clear hf hR hi hk
    have hlt : i < qs.length := by have := hil; rw [← HQS.out] at this; simpa using this
    obtain ⟨b, o, e0, hb, hc⟩ := HL.out.at hlt
    cases e0
    have HM := Lib.hid (map_at hlt)
    have hpv := HI.out _ (mem_at hlt)
    obtain ⟨q, hxj⟩ : ∃ q, q = qs[i]! := ⟨_, rfl⟩
    rw [← hxj] at hc hpv
    have HX := Lib.hid hxj
    obtain ⟨⟨pi, pt, pd, pg, td⟩, pa, ta⟩ := q
    obtain ⟨⟨pb, pc, e1, hpc, hpl⟩, ⟨tb, tc, e2, htc, htl⟩⟩ := hpv
    have f1 : pa = .slice pb pg.length pc := e1
    have f2 : ta = .slice tb td.length tc := e2
    clear e1 e2
    subst f1 f2
    have HPG : Hid (Lies w w.heap.size pb 3 pg.length (fun j => pgC pg[j]!)) := hpl
    have HTD : Hid (Lies w w.heap.size tb 1 td.length (fun j => iC td[j]!)) := htl
    have HPC : Hid (pg.length ≤ pc ∧ (pb = none → pc = 0)) := hpc
    have HTC : Hid (td.length ≤ tc ∧ (tb = none → tc = 0)) := htc
    clear hpc htc
    clear hpl htl
    have HC0 : Hid (w.cell? ⟨b, o + i * 5, none⟩ = some (.int .i64 pi)) := hc 0 _ rfl
    have HC1 : Hid (w.cell? ⟨b, o + i * 5 + 1, none⟩ = some (.bool pt)) := hc 1 _ rfl
    have HC2 : Hid (w.cell? ⟨b, o + i * 5 + 2, none⟩ = some (.bool pd)) := hc 2 _ rfl
    have HC3 : Hid (w.cell? ⟨b, o + i * 5 + 3, none⟩ = some (.slice pb pg.length pc)) := hc 3 _ rfl
    have HC4 : Hid (w.cell? ⟨b, o + i * 5 + 4, none⟩ = some (.slice tb td.length tc)) := hc 4 _ rfl
    have HB := Lib.hid hb
    clear hc hxj hb
    have HP0 := Lib.hid (show ps[i]! = ⟨pi, pt, pd, pg, td⟩ by rw [← HQS.out, HM.out, ← HX.out])
    rw [HP0.out] at HE hkl
    replace hkl : k < pg.length := hkl
    have hs0 : pg.length ≤ 16 := by have := (HG.out.one _ (at_mem hil)).plen; rw [HP0.out] at this; exact this
    have hpl : ps.length = qs.length := by rw [← HQS.out]; simp
    go_enter Tryz.func55, Tryz.ntmps55
    have H := HS.start NoD w
    go_wp2_with fail
    refine (HA.out _ (H.psUp HPS.out)).mono ?_
    rintro _ w1 ⟨rfl, hb⟩
    replace H := H.below hb
    clear hb
    try clear C
    try simp only [World.size_alloc, List.nil_append, List.cons_append, List.append_assoc] at H
    have C := H.cells
    try simp only [cellsOf, cellsM, apartOf, apartM, and_true] at C
    dsimp only
    go_wp2_with fail
    refine (HCP.out _ (H.psUp HPS.out)).mono ?_
    rintro _ w2 ⟨v4, rs, rfl, hrs, K⟩
    replace H := H.join1 K
    clear K HCP
    try clear C
    have hrl : rs.length = ps.length := by rw [← hrs]; simp
    have hir : i < rs.length := by omega
    have hop := HS.openAt (L := []) H hir
    clear H
    obtain ⟨g, d, pb, pc, tb, tc, rfl, hcap, hpa, hta, H⟩ := hop
    simp only [List.nil_append, List.cons_append] at H
    obtain ⟨pv, hpv⟩ : ∃ q, q = rs[i]! := ⟨_, rfl⟩
    rw [← hpv] at H hpa hta
    have hpe : ps[i]! = pv.p := by rw [← hrs, map_at hir, hpv]
    have HPV := Lib.hid hpv
    have HRS := Lib.hid hrs
    have HPE := Lib.hid hpe
    have HRL := Lib.hid hrl
    clear hpv hrs hpe
    obtain ⟨p4, pa, ta⟩ := pv
    have f0 : p4 = ⟨pi, pt, pd, pg, td⟩ := HPE.out.symm.trans HP0.out
    subst f0
    have f1 : pa = .slice pb pg.length pc := hpa
    have f2 : ta = .slice tb td.length tc := hta
    clear hpa hta
    subst f1 f2
    clear hrl
    dsimp only at H HPE ⊢
    clear HA
    obtain ⟨h, rfl, hh, hpc⟩ := ownsRow_ptr (H.at 1 rfl) (by omega)
    have k3 := (H.outerCell 0 rfl rfl hir (m := 3) (u := .slice (some ⟨h, 0, none⟩) pg.length pc) (by decide) (by rw [← HPV.out]; rfl)).1
    have k3f := (H.outerCell 0 rfl rfl hir (m := 3) (u := .slice (some ⟨h, 0, none⟩) pg.length pc) (by decide) (by rw [← HPV.out]; rfl)).2
    have HSR := Lib.hid (Lies.srcPart pgC_len (by decide) (c := pc) (sa := some ⟨h, 0, none⟩) ⟨hpc, fun e => by cases e⟩ (H.rowLies 1 pgC_len rfl rfl) (i := k + 1) (by omega))
    have esx : (if pc = k + 1 then (some ⟨h, 0, none⟩ : Option Addr) else (some ⟨h, 0, none⟩ : Option Addr).map (·.add ((k + 1) * 3))) = if pc = k + 1 then some ⟨h, 0, none⟩ else some ⟨h, (k + 1) * 3, none⟩ := by simp [Addr.add]
    rw [esx] at HSR
    clear esx
    replace H := H.rowTake 1 rfl (k := k) (by omega)
    simp only [List.set_cons_succ, List.set_cons_zero, flatTake pgC_len] at H
    have hk0 : 0 ≤ (k : Int) + 1 := by omega
    have hk1 : (k : Int) + 1 ≤ pg.length := by omega
    have hwk : IntKind.i64.wrap ((k : Int) + 1) = ((k + 1 : Nat) : Int) := by rw [IntWalk.i64_in _ (by omega)]; omega
    have hk2 : (k : Int) ≤ pc := by omega
    have hk3 : (pg.length : Int) ≤ pc := by omega
    go_upto_region 5 with fail
    go_region_law (refine step_append_src (hgd := rfl) (s := .tmp 34) (x := .tmp 42) (t := 50) (ho := rfl) (hE := elemPg) (H := H.drew) (k := 1) (hk := rfl) (hs := by simp [Act.eval, Act.put]) (sa := if pc = k + 1 then some ⟨h, 0, none⟩ else some ⟨h, (k + 1) * 3, none⟩) (m := pg.length - (k + 1)) (c := pc - (k + 1)) (news := (pg.drop (k + 1)).flatMap pgC) (hx := by simp [Act.eval, Act.put]) (hsrc := HSR.out.1) (hl := HSR.out.2) (h1 := pgC_one _) (h63 := by unfold maxLen; omega) (hbytes := by omega) (N := pg.length - 1) (hN := by omega) (h := fun s1 c1 wa H1 hg1 => ?_); clear hg1; simp only [List.set_cons_succ, List.set_cons_zero] at H1; have e3 := H1.outerCell 0 rfl rfl hir (m := 3) (u := .slice (some ⟨h, 0, none⟩) pg.length pc) (by decide) (by rw [← HPV.out]; rfl); obtain ⟨e3, e3f⟩ := e3)
    all_goals
      generalize (if pc = k + 1 then (some ⟨h, 0, none⟩ : Option Addr) else some ⟨h, (k + 1) * 3, none⟩) = sx9
      clear e3 e3f k3 k3f H
      try clear C
      generalize hwb : World.setCell _ _ _ = wf
      have H9 := HS.eqW hwb (H1.rowSet 0 rfl (i * 5 + 3) (.slice s1 (pg.length - 1) c1))
      clear hwb H1
      obtain ⟨q', hq'⟩ : ∃ q' : Pv, q' = ⟨⟨pi, pt, pd, pg.eraseIdx k, td⟩, .slice s1 (pg.length - 1) c1, .slice tb td.length tc⟩ := ⟨_, rfl⟩
      have hfl : (pg.eraseIdx k).flatMap pgC = (pg.take k).flatMap pgC ++ (pg.drop (k + 1)).flatMap pgC := by rw [List.eraseIdx_eq_take_drop_succ, List.flatMap_append]
      have hfn : (pg.eraseIdx k).length = pg.length - 1 := List.length_eraseIdx_of_lt hkl
      have hpv : pvC q' = (pvC rs[i]!).set 3 (.slice s1 (pg.length - 1) c1) := by rw [hq', ← HPV.out]; rfl
      have H := HS.shutAt (L := []) (g := g) (d := d) (rs := rs) (i := i) (cells := (rs.flatMap pvC).set (i * 5 + 3) (.slice s1 (pg.length - 1) c1)) q' (by
        rw [hq']; unfold pagesR toldR; dsimp only; rw [hfl, hfn]; exact H9) hir (flat_set pvC_len rs i 3 _ _ hir (by decide) hpv).symm
      clear H9 hfl hpv
      obtain ⟨xo, hxo⟩ : ∃ x, x = pg[k]! := ⟨_, rfl⟩
      obtain ⟨os, hos⟩ : ∃ os, os = ps.set i ⟨pi, pt, pd, pg.eraseIdx k, td⟩ := ⟨_, rfl⟩
      have HTS := Lib.hid (show (rs.set i q').map (·.p) = os by rw [List.map_set, HRS.out, hq', hos])
      have HE2 := Lib.hid (show R = (0, os, leftP os xo.f) by rw [HE.out, hxo, hos])
      have HSO := Lib.hid (show SmallP os by
        rw [hos]
        exact setSmallPg HG.out hil HP0.out (by omega))
      have HXO := Lib.hid hxo
      clear hos HE hxo hq' hfn
      have hlk : k < pg.length := hkl
      skip
      try clear c0 c1 c2 c3 c4
      have c0 := (H.was HB.out (fun h => h)).trans HC0.out
      have c1 := (H.was HB.out (fun h => h)).trans HC1.out
      have c2 := (H.was HB.out (fun h => h)).trans HC2.out
      have c3 := (H.was HB.out (fun h => h)).trans HC3.out
      have c4 := (H.was HB.out (fun h => h)).trans HC4.out
      obtain ⟨bg, og, rfl, hbg, hcg⟩ := (H.lies HPG.out).at hlk
      obtain ⟨g, hxg⟩ : ∃ q, q = pg[k]! := ⟨_, rfl⟩
      rw [← hxg] at hcg
      have HG := Lib.hid hxg
      obtain ⟨xn, xf, xs⟩ := g
      have d0 : wf.cell? ⟨bg, og + k * 3, none⟩ = some (.int .i64 xn) := hcg 0 _ rfl
      have d1 : wf.cell? ⟨bg, og + k * 3 + 1, none⟩ = some (.int .i64 xf) := hcg 1 _ rfl
      have d2 : wf.cell? ⟨bg, og + k * 3 + 2, none⟩ = some (.bool xs) := hcg 2 _ rfl
      clear hcg hxg
      have HUN := Lib.hid (fun w h => runused_any xf (v := .slice (some ⟨g, 0, none⟩) rs.length d) HSO.out w h)
      have hxf : xo.f = xf := by rw [HXO.out, ← HG.out]
      go_wp2_with fail
      refine (HUN.out _ (by have := H.ownPs 0 rfl; rw [HTS.out] at this; exact this)).mono ?_
      rintro _ w6 ⟨rfl, hb6⟩
      replace H := H.below hb6
      clear hb6 c0 c1 c2 c3 c4 d0 d1 d2
      dsimp only
      skip
      try clear C
      try simp only [World.size_alloc, List.nil_append, List.cons_append, List.append_assoc] at H
      have C := H.cells
      try simp only [cellsOf, cellsM, apartOf, apartM, and_true] at C
      go_wp2_with fail
      refine bodyPost_ret (by simp [results, Tryz.results55, go_sem, C]; try rfl) rfl ?_
      rw [HE2.out, hxf]
      exact ⟨.slice (some ⟨g, 0, none⟩) rs.length d, rs.set i q', rfl, HTS.out, H⟩
end Go.Proofs.YtedbpmckgiifpaaGreat

/- Programs (memfaultref29): Own. -/
namespace Go.Proofs.YtedbpmckgiifpaaGreat
set_option linter.unusedSimpArgs false
set_option linter.unusedVariables false
open Go.RowKit
set_option maxRecDepth 100000
attribute [local go_sem] lt_more ne_more ne_more'
attribute [local irreducible] wpX wpF Calls

theorem flat_setPg2 {pg : List Pg} {k : Nat} (hk : k < pg.length) (f : Int) (s : Bool) : (((pg.flatMap pgC).set (k * 3 + 1) (.int .i64 f)).set (k * 3 + 2) (.bool s)) = (pg.set k ⟨(pg[k]!).n, f, s⟩).flatMap pgC := by
  have e2 := flat_set pgC_len pg k 1 { pg[k]! with f := f } (.int .i64 f) hk (by decide) rfl
  rw [← e2]
  have e3 := flat_set pgC_len (pg.set k { pg[k]! with f := f }) k 2 ⟨(pg[k]!).n, f, s⟩ (.bool s) (by rw [List.length_set]; exact hk) (by decide) (by rw [set_bang _ hk]; rfl)
  rw [← e3, List.set_set]
end Go.Proofs.YtedbpmckgiifpaaGreat

/- Programs (memfaultref29): Tell, Replace. -/
namespace Go.Proofs.YtedbpmckgiifpaaGreat
set_option linter.unusedSimpArgs false
set_option linter.unusedVariables false
open Go.RowKit
set_option maxRecDepth 100000
attribute [local go_sem] lt_more ne_more ne_more'
attribute [local irreducible] wpX wpF Calls

set_option maxHeartbeats 4000000 in
theorem rtell_any (id n : Int) {F : Int} {v : Value} {ps : List Pr} (hg : GoodP F ps) (w : World) (hl : Ps w w.heap.size v ps) :
    Calls Tryz.prog 32 #[v, .int .i64 id, .int .i64 n] w (GivesP3 (tellP ps id n) w) := by
  have HA := Lib.hid (fun w h => rdrop_any id n (v := v) hg w h)
  have HPS := Lib.hid hl
  have HG := Lib.hid hg
  clear hl hg
  rcases findP_cases ps id n with ⟨i, k, hf, hi, hk⟩ | ⟨e, hf, he⟩
  rotate_left
  · rw [dropP_err hf he] at HA
    rw [tellP_err hf he]
    clear hf
    have hne : ((e : Int) == 0) = false := by rcases he with rfl | rfl <;> rfl
    clear he
    go_enter Tryz.func32, Tryz.ntmps32
    have H := HS.start NoD w
    go_wp2_with fail
    refine (HA.out _ (H.psUp HPS.out)).mono ?_
    rintro _ w4 ⟨v4, rs, rfl, hrs, K⟩
    replace H := H.join1 K
    clear K
    skip
    try clear C
    try simp only [World.size_alloc, List.nil_append, List.cons_append, List.append_assoc] at H
    have C := H.cells
    try simp only [cellsOf, cellsM, apartOf, apartM, and_true] at C
    dsimp only
    go_wp2_with fail
    refine bodyPost_ret (by simp [results, Tryz.results32, go_sem, C]; try rfl) rfl ?_
    exact givesP3_nil H _ _
  · rw [dropP_of hf] at HA
    obtain ⟨R, hR⟩ : ∃ R, R = tellP ps id n := ⟨_, rfl⟩
    rw [← hR]
    have HE := Lib.hid (hR.trans (tellP_of hf))
    have hkl := (findIdx_some hk).1
    have hil := (findIdx_some hi).1
    obtain ⟨po, hpo⟩ : ∃ p, p = ps[i]! := ⟨_, rfl⟩
    have HI := Lib.hid (live_set hi (q := { po with pages := po.pages.eraseIdx k }) (by rw [hpo]) (by rw [hpo]))
    rw [← hpo] at HA HE hkl
    have HPO := Lib.hid hpo
    have h6 := HG.out.one _ (at_mem hil)
    rw [← hpo] at h6
    obtain ⟨pi, pt, pd, pg, td⟩ := po
    have hs0 : pg.length ≤ 16 := h6.plen
    have ht0 : td.length ≤ 200 := h6.told
    dsimp only at HA HE HI
    replace hkl : k < pg.length := hkl
    clear hf hR hi hk hpo h6
    obtain ⟨os, hos⟩ : ∃ os, os = ps.set i ⟨pi, pt, pd, pg.eraseIdx k, td⟩ := ⟨_, rfl⟩
    have HOS := Lib.hid hos
    have hol : os.length ≤ 8 := by rw [hos, List.length_set]; exact HG.out.len
    have hio : i < os.length := by rw [hos, List.length_set]; exact hil
    have hoi : os[i]! = ⟨pi, pt, pd, pg.eraseIdx k, td⟩ := by rw [hos, set_bang _ hil]
    have hoo : ∀ q, os.set i q = ps.set i q := fun q => by rw [hos, List.set_set]
    rw [← hos] at HA HE HI
    have HOI := Lib.hid hoi
    have HOO := Lib.hid hoo
    clear hos hoi hoo
    obtain ⟨fl, hfl⟩ : ∃ f, f = leftP os (pg[k]!).f := ⟨_, rfl⟩
    rw [← hfl] at HA HE
    clear hfl
    have HPR := Lib.hid (fun v w h => rat_any id (v := v) (ps := os) (by omega) w h)
    rw [HI.out] at HPR
    dsimp only [idx?] at HPR
    clear HI
    go_enter Tryz.func32, Tryz.ntmps32
    have H := HS.start NoD w
    go_wp2_with fail
    refine (HA.out _ (H.psUp HPS.out)).mono ?_
    rintro _ w4 ⟨v4, rs, rfl, hrs, K⟩
    replace H := H.join1 K
    clear K HA
    simp only [List.nil_append] at H
    have HRS := Lib.hid (show rs.map (·.p) = os from hrs)
    clear hrs
    skip
    try clear C
    try simp only [World.size_alloc, List.nil_append, List.cons_append, List.append_assoc] at H
    have C := H.cells
    try simp only [cellsOf, cellsM, apartOf, apartM, and_true] at C
    dsimp only
    go_wp2_with fail
    refine (HPR.out _ _ (by have := H.ownPs 0 rfl; rw [HRS.out] at this; exact this)).mono ?_
    rintro _ w1 ⟨rfl, hb⟩
    replace H := H.below hb
    clear hb
    try clear C
    try simp only [World.size_alloc, List.nil_append, List.cons_append, List.append_assoc] at H
    try clear w4
    have C := H.cells
    try simp only [cellsOf, cellsM, apartOf, apartM, and_true] at C
    dsimp only
    clear HPR
    have hir : i < rs.length := by have := congrArg List.length HRS.out; simp at this; omega
    have hop := HS.openAt (L := []) H hir
    clear H
    obtain ⟨g, d, pb, pc, tb, tc, rfl, hcap, hpa, hta, H⟩ := hop
    simp only [List.nil_append, List.cons_append] at H
    obtain ⟨pv, hpv⟩ : ∃ q, q = rs[i]! := ⟨_, rfl⟩
    rw [← hpv] at H hpa hta
    have hpe : os[i]! = pv.p := by rw [← HRS.out, map_at hir, hpv]
    have HPV := Lib.hid hpv
    obtain ⟨p4, pa, ta⟩ := pv
    have f0 : p4 = ⟨pi, pt, pd, pg.eraseIdx k, td⟩ := hpe.symm.trans HOI.out
    subst f0
    have f1 : pa = .slice pb (pg.eraseIdx k).length pc := hpa
    have f2 : ta = .slice tb td.length tc := hta
    clear hpa hta hpv hpe
    subst f1 f2
    dsimp only at H ⊢
    have hrl : rs.length ≤ 8 := by have := congrArg List.length HRS.out; simp at this; omega
    have k4 := H.outerCell 0 rfl rfl hir (m := 4) (u := .slice tb td.length tc) (by decide) (by rw [← HPV.out]; rfl)
    obtain ⟨k4, k4f⟩ := k4
    by_cases ht : td.length < 200
    · have ht2 : (td.length : Int) < 200 := by omega
      have HTT := Lib.hid (show tellT td n = td ++ [n] from if_pos ht)
      go_upto_region 6 with fail
      go_wp2_with (at_builtin; refine wpList_append_H rfl (.tmp 40) (.tmp 42) 22 rfl elemN H.alloc 2 rfl rfl 4 rfl rfl rfl rfl (by decide) (by unfold maxLen; omega) (by omega) (fun g9 c9 wz HZ => ?_); clear H k4 k4f
                   simp only [List.nil_append, List.cons_append, List.append_assoc, List.set_cons_succ, List.set_cons_zero] at HZ
                   have k4 := HZ.outerCell 0 rfl rfl hir (m := 4) (u := .slice tb td.length tc) (by decide) (by rw [← HPV.out]; rfl)
                   obtain ⟨k4, k4f⟩ := k4)
      clear k4 k4f
      generalize hwb : World.setCell _ _ _ = wf
      have H9 := HS.eqW hwb (HZ.rowSet 0 rfl (i * 5 + 4) (.slice (some ⟨g9, 0, none⟩) (td.length + 1) c9))
      clear hwb HZ
      simp only [List.set_cons_zero] at H9
      obtain ⟨q', hq'⟩ : ∃ q' : Pv, q' = ⟨⟨pi, pt, pd, pg.eraseIdx k, td ++ [n]⟩, .slice pb (pg.eraseIdx k).length pc, .slice (some ⟨g9, 0, none⟩) (td.length + 1) c9⟩ := ⟨_, rfl⟩
      have hpv : pvC q' = (pvC rs[i]!).set 4 (.slice (some ⟨g9, 0, none⟩) (td.length + 1) c9) := by rw [hq', ← HPV.out]; rfl
      have hfl2 : (td ++ [n]).flatMap iC = td.flatMap iC ++ [.int .i64 n] := by rw [List.flatMap_append]; rfl
      have H := HS.shutAt (L := []) (g := g) (d := d) (rs := rs) (i := i) (cells := (rs.flatMap pvC).set (i * 5 + 4) (.slice (some ⟨g9, 0, none⟩) (td.length + 1) c9)) q' (by
        rw [hq']; unfold pagesR toldR; dsimp only; rw [List.length_append, hfl2]
        exact HS.less H9 (by repeat (first | exact .slnil | refine .cons_cons _ ?_ | refine .cons _ ?_))) hir (flat_set pvC_len rs i 4 _ _ hir (by decide) hpv).symm
      skip
      try clear C
      try simp only [World.size_alloc, List.nil_append, List.cons_append, List.append_assoc] at H
      have C := H.cells
      try simp only [cellsOf, cellsM, apartOf, apartM, and_true] at C
      refine bodyPost_ret (by simp [results, Tryz.results32, go_sem, C]; try rfl) rfl ?_
      rw [HE.out, HTT.out]
      exact ⟨.slice (some ⟨g, 0, none⟩) rs.length d, rs.set i q', rfl, by rw [List.map_set, HRS.out, HOO.out, hq'], H⟩
    · have ht2 : ¬ (td.length : Int) < 200 := by omega
      have HTT := Lib.hid (show tellT td n = td from if_neg ht)
      skip
      go_wp2_with fail
      clear k4 k4f
      obtain ⟨q', hq'⟩ : ∃ q' : Pv, q' = ⟨⟨pi, pt, pd, pg.eraseIdx k, td⟩, .slice pb (pg.eraseIdx k).length pc, .slice tb td.length tc⟩ := ⟨_, rfl⟩
      replace H := HS.shutAt (L := []) (g := g) (d := d) (rs := rs) (i := i) (cells := rs.flatMap pvC) q' (by rw [hq']; exact H) hir (by rw [flat_set_split hir, flat_split hir, hq', HPV.out])
      try clear C
      try simp only [World.size_alloc, List.nil_append, List.cons_append, List.append_assoc] at H
      have C := H.cells
      try simp only [cellsOf, cellsM, apartOf, apartM, and_true] at C
      refine bodyPost_ret (by simp [results, Tryz.results32, go_sem, C]; try rfl) rfl ?_
      rw [HE.out, HTT.out]
      exact ⟨.slice (some ⟨g, 0, none⟩) rs.length d, rs.set i q', rfl, by rw [List.map_set, HRS.out, HOO.out, hq'], H⟩
set_option maxHeartbeats 8000000 in
theorem rrepl_any (a b : Int) {v : Value} {ps : List Pr} (hx : SmallP ps) (w : World) (hl : Ps w w.heap.size v ps) :
    Calls Tryz.prog 53 #[v, .int .i64 a, .int .i64 b] w (GivesP (fun v => .tuple #[v, .int .i64 (replP ps a b).1]) (replP ps a b).2 w) := by
  have HU := Lib.hid (fun w h => runused_any b (v := v) hx w h)
  have HCP := Lib.hid (fun w h => rcopy_any (v := v) hx w h)
  have HPS := Lib.hid hl
  have HSM := Lib.hid hx
  obtain ⟨R, hR⟩ : ∃ R, R = replP ps a b := ⟨_, rfl⟩
  rw [← hR]
  have HR := Lib.hid (hR.trans (show _ = if a < 0 ∨ 64 ≤ a ∨ b < 0 ∨ 64 ≤ b then ((2 : Int), ([] : List Pr)) else if a ≠ b ∧ usedB ps b = true then (43, []) else (0, ps.map (moveP a b)) from rfl))
  clear hl hx hR
  by_cases hr : a < 0 ∨ 64 ≤ a ∨ b < 0 ∨ 64 ≤ b
  · have HE := Lib.hid (HR.out.trans (if_pos hr))
    have HRR := Lib.hid hr
    clear HR HU HCP hr
    by_cases r1 : a < 0
    · skip
      go_enter Tryz.func53, Tryz.ntmps53
      have H := HS.start NoD w
      go_wp2_with fail
      try clear C
      try simp only [World.size_alloc, List.nil_append, List.cons_append, List.append_assoc] at H
      have C := H.cells
      try simp only [cellsOf, cellsM, apartOf, apartM, and_true] at C
      refine bodyPost_ret (by simp [results, Tryz.results53, go_sem, C]; try rfl) rfl ?_
      rw [HE.out]
      exact givesP_nil H _
    · by_cases r2 : 64 ≤ a
      · skip
        go_enter Tryz.func53, Tryz.ntmps53
        have H := HS.start NoD w
        go_wp2_with fail
        try clear C
        try simp only [World.size_alloc, List.nil_append, List.cons_append, List.append_assoc] at H
        have C := H.cells
        try simp only [cellsOf, cellsM, apartOf, apartM, and_true] at C
        refine bodyPost_ret (by simp [results, Tryz.results53, go_sem, C]; try rfl) rfl ?_
        rw [HE.out]
        exact givesP_nil H _
      · by_cases r3 : b < 0
        · skip
          go_enter Tryz.func53, Tryz.ntmps53
          have H := HS.start NoD w
          go_wp2_with fail
          try clear C
          try simp only [World.size_alloc, List.nil_append, List.cons_append, List.append_assoc] at H
          have C := H.cells
          try simp only [cellsOf, cellsM, apartOf, apartM, and_true] at C
          refine bodyPost_ret (by simp [results, Tryz.results53, go_sem, C]; try rfl) rfl ?_
          rw [HE.out]
          exact givesP_nil H _
        · have r4 : 64 ≤ b := by have := HRR.out; omega
          go_enter Tryz.func53, Tryz.ntmps53
          have H := HS.start NoD w
          go_wp2_with fail
          try clear C
          try simp only [World.size_alloc, List.nil_append, List.cons_append, List.append_assoc] at H
          have C := H.cells
          try simp only [cellsOf, cellsM, apartOf, apartM, and_true] at C
          refine bodyPost_ret (by simp [results, Tryz.results53, go_sem, C]; try rfl) rfl ?_
          rw [HE.out]
          exact givesP_nil H _
  · have HR2 := Lib.hid (HR.out.trans (if_neg hr))
    have hr1 : 0 ≤ a ∧ a < 64 ∧ 0 ≤ b ∧ b < 64 := by omega
    clear HR hr
    by_cases hab : a = b
    · have HE := Lib.hid (HR2.out.trans (if_neg (fun h => h.1 hab)))
      have hab2 : ((a : Int) != b) = false := by simp [hab]
      clear hab HR2 HU
      go_enter Tryz.func53, Tryz.ntmps53
      have H := HS.start NoD w
      go_wp2_with fail
      refine (HCP.out _ (H.psUp HPS.out)).mono ?_
      rintro _ w4 ⟨v4, rs, rfl, hrs, K⟩
      replace H := H.join1 K
      clear K HCP
      try clear C
      have hrl : rs.length ≤ 1000 := by have := HSM.out.1; rw [← hrs] at this; simpa using this
      have HRS := Lib.hid hrs
      clear hrs
      obtain ⟨sb, d4, rfl⟩ : ∃ sb d, v4 = .slice sb rs.length d := by
        have H' := H.manyCons 0 rfl
        simp only [List.eraseIdx_cons_zero, List.nil_append, List.cons_append, outerR] at H'
        exact ownsRow_slice (H'.at 0 rfl)
      simp only [List.nil_append] at H
      skip
      dsimp only
      go_wp2_with fail
      go_loopw [40] (fun jj wr => ∃ (j : Nat), jj = .int .i64 j ∧ j ≤ rs.length ∧ HS NoD w [Item.many (PsR (.slice sb rs.length d4) (mix (moveV a b) j rs))] wr) (fun jj _ => rs.length - (intOf jj).toNat)
      case atStart => exact ⟨0, rfl, Nat.zero_le _, by rw [mix_zero]; exact H⟩
      case round =>
        clear H
        obtain ⟨j, rfl, hj, H⟩ := hrel
        skip
        by_cases hlt : j < rs.length
        · have hjm : j < (mix (moveV a b) j rs).length := by rw [mix_len]; exact hlt
          have hop := HS.openAt (L := []) H hjm
          clear H
          obtain ⟨g, d, pb, pc, tb, tc, e1, hcap, hpa, hta, H⟩ := hop
          simp only [List.nil_append, List.cons_append] at H
          rw [mix_len] at e1 hcap H
          injection e1 with e1 e2 e3
          subst e1 e3
          clear e2
          rw [mix_at hlt] at H hpa hta
          obtain ⟨pv, hpv⟩ : ∃ q, q = rs[j]! := ⟨_, rfl⟩
          rw [← hpv] at H hpa hta
          have HPV := Lib.hid hpv
          clear hpv
          obtain ⟨⟨pi, pt, pd, pg, td⟩, pa, ta⟩ := pv
          have f1 : pa = .slice pb pg.length pc := hpa
          have f2 : ta = .slice tb td.length tc := hta
          clear hpa hta
          subst f1 f2
          dsimp only at H
          have hs1 : pg.length ≤ 1000 := by
            have := (HSM.out.2 (rs[j]!).p (by rw [← HRS.out]; exact List.mem_map.2 ⟨_, mem_at hlt, rfl⟩)).1
            rw [← HPV.out] at this; exact this
          rw [moveV_flat] at H
          have k3 := (H.outerCell 0 rfl rfl hlt (m := 3) (u := .slice pb pg.length pc) (by decide) (by rw [← HPV.out]; rfl)).1
          try clear C
          try simp only [World.size_alloc, List.nil_append, List.cons_append, List.append_assoc] at H
          have C := H.cells
          try simp only [cellsOf, cellsM, apartOf, apartM, and_true] at C
          go_wp2_with fail
          clear k3
          go_loopw [49] (fun kk wr => ∃ (k : Nat), kk = .int .i64 k ∧ k ≤ pg.length ∧ HS NoD w [.row (.slice (some ⟨g, 0, none⟩) rs.length d4) 52 5 rs.length (rs.flatMap pvC), .row (.slice pb pg.length pc) 49 3 pg.length ((mix (mv1 a b) k pg).flatMap pgC), .row (.slice tb td.length tc) 3 1 td.length (td.flatMap iC), Item.many (restB (mix (moveV a b) j rs) j)] wr) (fun kk _ => pg.length - (intOf kk).toNat)
          case atStart => exact ⟨0, rfl, Nat.zero_le _, by rw [mix_zero]; exact H⟩
          case round =>
            clear H C
            obtain ⟨k, rfl, hk, H⟩ := hrel
            rename_i wk _ _
            skip
            try clear C
            try simp only [World.size_alloc, List.nil_append, List.cons_append, List.append_assoc] at H
            have C := H.cells
            try simp only [cellsOf, cellsM, apartOf, apartM, and_true] at C
            by_cases hlk : k < pg.length
            · obtain ⟨h, rfl, hh, hcp⟩ := ownsRow_ptr (H.at 1 rfl) (by omega)
              obtain ⟨xo, hxo⟩ : ∃ x, x = pg[k]! := ⟨_, rfl⟩
              have p1 := H.pageCell 1 rfl (mix_len (mv1 a b) k pg).symm (i := k) (m := 1) (u := .int .i64 xo.f) (by rw [mix_len]; exact hlk) (by decide) (by rw [mix_at hlk, hxo]; rfl)
              obtain ⟨p1, p1f⟩ := p1
              have k3 := (H.outerCell 0 rfl rfl hlt (m := 3) (u := .slice (some ⟨h, 0, none⟩) pg.length pc) (by decide) (by rw [← HPV.out]; rfl)).1
              have HXO := Lib.hid hxo
              clear hxo
              by_cases hq : xo.f = a
              · have hfl : (mix (mv1 a b) (k + 1) pg).flatMap pgC = ((mix (mv1 a b) k pg).flatMap pgC).set (k * 3 + 1) (.int .i64 b) := by
                  rw [mix_succ hlk]
                  exact flat_set pgC_len (mix (mv1 a b) k pg) k 1 _ (.int .i64 b) (by rw [mix_len]; exact hlk) (by decide) (by rw [mix_at hlk, ← HXO.out]; unfold mv1; rw [if_pos hq]; rfl)
                have HFL := Lib.hid hfl
                clear hfl
                go_wp2_with fail
                clear p1 p1f k3
                go_roundw
                case rel =>
                  refine ⟨k + 1, by go_num, by omega, ?_⟩
                  have H9 := H.rowSet 1 rfl (k * 3 + 1) (.int .i64 b)
                  rw [HFL.out]
                  exact H9
                case measure => simp [intOf]; omega
              · have HSA := Lib.hid (mix_same (g := mv1 a b) hlk (by rw [← HXO.out]; unfold mv1; rw [if_neg hq]))
                have hqb : (xo.f == a) = false := beq_eq_false_iff_ne.2 hq
                go_wp2_with fail
                clear p1 p1f k3
                go_roundw
                case rel => exact ⟨k + 1, by go_num, by omega, by rw [HSA.out]; exact H⟩
                case measure => simp [intOf]; omega
            · have hke : k = pg.length := by omega
              subst hke
              rw [mix_all (Nat.le_refl _)] at H
              go_wp2_with fail
              obtain ⟨q', hq'⟩ : ∃ q' : Pv, q' = ⟨⟨pi, pt, pd, pg.map (mv1 a b), td⟩, .slice pb pg.length pc, .slice tb td.length tc⟩ := ⟨_, rfl⟩
              have hqm : q' = moveV a b rs[j]! := by rw [hq', ← HPV.out]; rfl
              have H10 := HS.shutAt (L := []) (g := g) (d := d4) (rs := mix (moveV a b) j rs) (i := j) (cells := rs.flatMap pvC) q' (by rw [mix_len, hq']; unfold pagesR toldR; dsimp only; rw [List.length_map]; exact H) hjm (by rw [hqm, ← mix_succ hlt, moveV_flat])
              rw [mix_len, hqm, ← mix_succ hlt] at H10
              go_roundw
              case rel => exact ⟨j + 1, by go_num, by omega, H10⟩
              case measure => simp [intOf]; omega
        · have hje : j = rs.length := by omega
          subst hje
          rw [mix_all (Nat.le_refl _)] at H
          try clear C
          try simp only [World.size_alloc, List.nil_append, List.cons_append, List.append_assoc] at H
          have C := H.cells
          try simp only [cellsOf, cellsM, apartOf, apartM, and_true] at C
          go_wp2_with fail
          refine bodyPost_ret (by simp [results, Tryz.results53, go_sem, C]; try rfl) rfl ?_
          rw [HE.out]
          exact ⟨.slice sb rs.length d4, rs.map (moveV a b), rfl, by rw [← HRS.out, List.map_map, List.map_map]; rfl, H⟩
    · have hab2 : ((a : Int) != b) = true := bne_iff_ne.2 hab
      by_cases hu : usedB ps b = true
      · have HE := Lib.hid (HR2.out.trans (if_pos ⟨hab, hu⟩))
        rw [show leftP ps b = -1 by unfold leftP; rw [if_pos hu]] at HU
        clear HR2 HCP hu
        go_enter Tryz.func53, Tryz.ntmps53
        have H := HS.start NoD w
        go_wp2_with fail
        refine (HU.out _ (H.psUp HPS.out)).mono ?_
        rintro _ w1 ⟨rfl, hb⟩
        replace H := H.below hb
        clear hb
        try clear C
        try simp only [World.size_alloc, List.nil_append, List.cons_append, List.append_assoc] at H
        have C := H.cells
        try simp only [cellsOf, cellsM, apartOf, apartM, and_true] at C
        dsimp only
        go_wp2_with fail
        refine bodyPost_ret (by simp [results, Tryz.results53, go_sem, C]; try rfl) rfl ?_
        rw [HE.out]
        exact givesP_nil H _
      · have HE := Lib.hid (HR2.out.trans (if_neg (fun h => hu h.2)))
        rw [show leftP ps b = b by unfold leftP; rw [if_neg hu]] at HU
        clear HR2 hu
        go_enter Tryz.func53, Tryz.ntmps53
        have H := HS.start NoD w
        go_wp2_with fail
        refine (HU.out _ (H.psUp HPS.out)).mono ?_
        rintro _ w1 ⟨rfl, hb⟩
        replace H := H.below hb
        clear hb
        try clear C
        try simp only [World.size_alloc, List.nil_append, List.cons_append, List.append_assoc] at H
        have C := H.cells
        try simp only [cellsOf, cellsM, apartOf, apartM, and_true] at C
        dsimp only
        go_wp2_with fail
        refine (HCP.out _ (H.psUp HPS.out)).mono ?_
        rintro _ w4 ⟨v4, rs, rfl, hrs, K⟩
        replace H := H.join1 K
        clear K HCP
        try clear C
        have hrl : rs.length ≤ 1000 := by have := HSM.out.1; rw [← hrs] at this; simpa using this
        have HRS := Lib.hid hrs
        clear hrs
        obtain ⟨sb, d4, rfl⟩ : ∃ sb d, v4 = .slice sb rs.length d := by
          have H' := H.manyCons 0 rfl
          simp only [List.eraseIdx_cons_zero, List.nil_append, List.cons_append, outerR] at H'
          exact ownsRow_slice (H'.at 0 rfl)
        simp only [List.nil_append] at H
        skip
        dsimp only
        go_wp2_with fail
        go_loopw [40] (fun jj wr => ∃ (j : Nat), jj = .int .i64 j ∧ j ≤ rs.length ∧ HS NoD w [Item.many (PsR (.slice sb rs.length d4) (mix (moveV a b) j rs))] wr) (fun jj _ => rs.length - (intOf jj).toNat)
        case atStart => exact ⟨0, rfl, Nat.zero_le _, by rw [mix_zero]; exact H⟩
        case round =>
          clear H
          obtain ⟨j, rfl, hj, H⟩ := hrel
          skip
          by_cases hlt : j < rs.length
          · have hjm : j < (mix (moveV a b) j rs).length := by rw [mix_len]; exact hlt
            have hop := HS.openAt (L := []) H hjm
            clear H
            obtain ⟨g, d, pb, pc, tb, tc, e1, hcap, hpa, hta, H⟩ := hop
            simp only [List.nil_append, List.cons_append] at H
            rw [mix_len] at e1 hcap H
            injection e1 with e1 e2 e3
            subst e1 e3
            clear e2
            rw [mix_at hlt] at H hpa hta
            obtain ⟨pv, hpv⟩ : ∃ q, q = rs[j]! := ⟨_, rfl⟩
            rw [← hpv] at H hpa hta
            have HPV := Lib.hid hpv
            clear hpv
            obtain ⟨⟨pi, pt, pd, pg, td⟩, pa, ta⟩ := pv
            have f1 : pa = .slice pb pg.length pc := hpa
            have f2 : ta = .slice tb td.length tc := hta
            clear hpa hta
            subst f1 f2
            dsimp only at H
            have hs1 : pg.length ≤ 1000 := by
              have := (HSM.out.2 (rs[j]!).p (by rw [← HRS.out]; exact List.mem_map.2 ⟨_, mem_at hlt, rfl⟩)).1
              rw [← HPV.out] at this; exact this
            rw [moveV_flat] at H
            have k3 := (H.outerCell 0 rfl rfl hlt (m := 3) (u := .slice pb pg.length pc) (by decide) (by rw [← HPV.out]; rfl)).1
            try clear C
            try simp only [World.size_alloc, List.nil_append, List.cons_append, List.append_assoc] at H
            have C := H.cells
            try simp only [cellsOf, cellsM, apartOf, apartM, and_true] at C
            go_wp2_with fail
            clear k3
            go_loopw [49] (fun kk wr => ∃ (k : Nat), kk = .int .i64 k ∧ k ≤ pg.length ∧ HS NoD w [.row (.slice (some ⟨g, 0, none⟩) rs.length d4) 52 5 rs.length (rs.flatMap pvC), .row (.slice pb pg.length pc) 49 3 pg.length ((mix (mv1 a b) k pg).flatMap pgC), .row (.slice tb td.length tc) 3 1 td.length (td.flatMap iC), Item.many (restB (mix (moveV a b) j rs) j)] wr) (fun kk _ => pg.length - (intOf kk).toNat)
            case atStart => exact ⟨0, rfl, Nat.zero_le _, by rw [mix_zero]; exact H⟩
            case round =>
              clear H C
              obtain ⟨k, rfl, hk, H⟩ := hrel
              rename_i wk _ _
              skip
              try clear C
              try simp only [World.size_alloc, List.nil_append, List.cons_append, List.append_assoc] at H
              have C := H.cells
              try simp only [cellsOf, cellsM, apartOf, apartM, and_true] at C
              by_cases hlk : k < pg.length
              · obtain ⟨h, rfl, hh, hcp⟩ := ownsRow_ptr (H.at 1 rfl) (by omega)
                obtain ⟨xo, hxo⟩ : ∃ x, x = pg[k]! := ⟨_, rfl⟩
                have p1 := H.pageCell 1 rfl (mix_len (mv1 a b) k pg).symm (i := k) (m := 1) (u := .int .i64 xo.f) (by rw [mix_len]; exact hlk) (by decide) (by rw [mix_at hlk, hxo]; rfl)
                obtain ⟨p1, p1f⟩ := p1
                have k3 := (H.outerCell 0 rfl rfl hlt (m := 3) (u := .slice (some ⟨h, 0, none⟩) pg.length pc) (by decide) (by rw [← HPV.out]; rfl)).1
                have HXO := Lib.hid hxo
                clear hxo
                by_cases hq : xo.f = a
                · have hfl : (mix (mv1 a b) (k + 1) pg).flatMap pgC = ((mix (mv1 a b) k pg).flatMap pgC).set (k * 3 + 1) (.int .i64 b) := by
                    rw [mix_succ hlk]
                    exact flat_set pgC_len (mix (mv1 a b) k pg) k 1 _ (.int .i64 b) (by rw [mix_len]; exact hlk) (by decide) (by rw [mix_at hlk, ← HXO.out]; unfold mv1; rw [if_pos hq]; rfl)
                  have HFL := Lib.hid hfl
                  clear hfl
                  go_wp2_with fail
                  clear p1 p1f k3
                  go_roundw
                  case rel =>
                    refine ⟨k + 1, by go_num, by omega, ?_⟩
                    have H9 := H.rowSet 1 rfl (k * 3 + 1) (.int .i64 b)
                    rw [HFL.out]
                    exact H9
                  case measure => simp [intOf]; omega
                · have HSA := Lib.hid (mix_same (g := mv1 a b) hlk (by rw [← HXO.out]; unfold mv1; rw [if_neg hq]))
                  have hqb : (xo.f == a) = false := beq_eq_false_iff_ne.2 hq
                  go_wp2_with fail
                  clear p1 p1f k3
                  go_roundw
                  case rel => exact ⟨k + 1, by go_num, by omega, by rw [HSA.out]; exact H⟩
                  case measure => simp [intOf]; omega
              · have hke : k = pg.length := by omega
                subst hke
                rw [mix_all (Nat.le_refl _)] at H
                go_wp2_with fail
                obtain ⟨q', hq'⟩ : ∃ q' : Pv, q' = ⟨⟨pi, pt, pd, pg.map (mv1 a b), td⟩, .slice pb pg.length pc, .slice tb td.length tc⟩ := ⟨_, rfl⟩
                have hqm : q' = moveV a b rs[j]! := by rw [hq', ← HPV.out]; rfl
                have H10 := HS.shutAt (L := []) (g := g) (d := d4) (rs := mix (moveV a b) j rs) (i := j) (cells := rs.flatMap pvC) q' (by rw [mix_len, hq']; unfold pagesR toldR; dsimp only; rw [List.length_map]; exact H) hjm (by rw [hqm, ← mix_succ hlt, moveV_flat])
                rw [mix_len, hqm, ← mix_succ hlt] at H10
                go_roundw
                case rel => exact ⟨j + 1, by go_num, by omega, H10⟩
                case measure => simp [intOf]; omega
          · have hje : j = rs.length := by omega
            subst hje
            rw [mix_all (Nat.le_refl _)] at H
            try clear C
            try simp only [World.size_alloc, List.nil_append, List.cons_append, List.append_assoc] at H
            have C := H.cells
            try simp only [cellsOf, cellsM, apartOf, apartM, and_true] at C
            go_wp2_with fail
            refine bodyPost_ret (by simp [results, Tryz.results53, go_sem, C]; try rfl) rfl ?_
            rw [HE.out]
            exact ⟨.slice sb rs.length d4, rs.map (moveV a b), rfl, by rw [← HRS.out, List.map_map, List.map_map]; rfl, H⟩
end Go.Proofs.YtedbpmckgiifpaaGreat
