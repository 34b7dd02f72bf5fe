/- The statement OwnerValid: its walk. -/
import Derived.Test.YtmnddnlabdafcaaRv
import Derived.Test.YtmnddnlabdafcaaAwk29
import Derived.Test.YtmnddnlabdafcaaOP4
import Derived.Test.YtmnddnlabdafcaaO8
namespace Go.Proofs.Ytmnddnlabdafcaa
set_option linter.unusedSimpArgs false
set_option linter.unusedVariables false
open Go.RowKit
set_option maxRecDepth 100000
attribute [local go_sem] lt_more ne_more ne_more'
attribute [local irreducible] wpX wpF Calls

theorem gives_ofV {n : Nat} {args : Array Value} {v : Value} {w : World} (h : Calls Try.prog n args w fun e w' => e = .returned v ∧ w = w') : Calls Try.prog n args w (Gives v w) :=
  h.mono fun e w' ⟨h1, h2⟩ => ⟨h1, h2 ▸ Below.refl _ _⟩
theorem small_snoc {rs : List Pv} {q : Pv} (h : SmallP (rs.map (·.p))) (hq : q.p.pages.length ≤ 1000 ∧ q.p.told.length ≤ 1000) (hl : rs.length ≤ 900) : SmallP ((rs ++ [q]).map (·.p)) := by
  refine ⟨by rw [List.length_map, List.length_append]; simp; omega, fun p hp => ?_⟩
  rw [List.map_append] at hp
  rcases List.mem_append.1 hp with hp | hp
  · exact h.2 p hp
  · simp only [List.map_cons, List.map_nil, List.mem_singleton] at hp
    rw [hp]; exact hq
/-- A program without pages is one more of one's own. -/
theorem HS.addPr {D : Nat → Prop} {W w : World} {A B : Item} {v : Value} {rs : List Pv} {q : Pv} (h : HS D W [A, B, .row v 31 5 (rs.length + 1) (rs.flatMap pvC ++ pvC q), Item.many (rs.flatMap innerR)] w) (h1 : q.pa = .slice none 0 0) (h2 : q.ta = .slice none 0 0) (h3 : q.p.pages = []) (h4 : q.p.told = []) : HS D W [A, B, Item.many (PsR v (rs ++ [q]))] w := by
  have H6 := (h.nilRow 37 3).nilRow 3 1
  have e1 : innerR q = [.row (.slice none 0 0) 37 3 0 [], .row (.slice none 0 0) 3 1 0 []] := by unfold innerR; rw [h1, h2, h3, h4]; rfl
  have H7 : HS D W ([A, B, .row v 31 5 (rs.length + 1) (rs.flatMap pvC ++ pvC q), Item.many (rs.flatMap innerR)] ++ innerR q) w := by rw [e1]; simpa using H6
  have H8 := H7.toMany (fun X hX => by rw [e1] at hX; simp only [List.mem_cons, List.mem_nil_iff, or_false] at hX; rcases hX with rfl | rfl <;> rfl)
  have H9 := HS.manyJoin (L := [A, B, .row v 31 5 (rs.length + 1) (rs.flatMap pvC ++ pvC q)]) (by simpa using H8)
  refine HS.shutPs (L := [A, B]) ?_
  unfold outerR
  rw [List.length_append, flat_one, flat_one]
  simpa using H9
set_option maxHeartbeats 16000000 in
theorem ov_walk {rv : Value} {raw : List Pr} (sa : Option Addr) (len cap : Nat) (hl : len ≤ maxLen) (what at' by' frames : Int) (w : World) (hR : Ps w w.heap.size rv raw) (hI : Ints w sa len) :
    Calls Try.prog 4 #[rv, .slice sa len cap, .int .i64 what, .int .i64 at', .int .i64 by', .int .i64 frames] w (Gives (.bool true) w) := by
  have HI := Lib.hid hI
  clear hI
  have hli := light_any sa len cap hl
  clear hl
  have HAW := Lib.hid awake29_any
  have HRP := Lib.hid hR
  obtain ⟨rq, hrq, ⟨sr, cr, rfl, hcr, hlr⟩, hir⟩ := hR
  have HRQ := Lib.hid hrq
  have HL := Lib.hid hlr
  have HI2 := Lib.hid hir
  clear hrq hlr hir hcr
  by_cases h20 : rq.length ≤ 20
  · by_cases h400 : len ≤ 400
    · rw [decide_eq_true h400] at hli
      have HLI := Lib.hid hli
      clear hli
      go_enter Try.func4, Try.ntmps4
      have H := HS.start NoD w
      go_wp2_with fail
      refine (gives_ofV (HLI.out _)).mono ?_
      rintro _ w1 ⟨rfl, hb⟩
      replace H := H.below hb
      clear hb
      try clear C
      try simp only [World.size_alloc, List.nil_append, List.cons_append, List.append_assoc] at H
      have C := H.cells
      try simp only [cellsOf, cellsM, apartOf, apartM, and_true] at C
      dsimp only
      go_wp2_with fail
      refine (roll_at w.heap.size _ _ _ h400 _ H.size (H.ints HI.out)).mono ?_
      rintro _ w2 ⟨bd, rfl, hd, hb, hbb⟩
      replace H := H.getsDice hb hd hbb (Nat.le_refl _)
      clear hb hd hbb
      try clear C
      try simp only [World.size_alloc, List.nil_append, List.cons_append, List.append_assoc] at H
      try clear w1
      have C := H.cells
      try simp only [cellsOf, cellsM, apartOf, apartM, and_true] at C
      dsimp only
      go_wp2_with fail
      refine (mprogs_any 8 (by decide) w.heap.size bd _ (H.at 0 rfl) H.size).mono ?_
      rintro _ w2 ⟨v1, qs, rfl, hmp, K⟩
      replace H := HS.joinDice H 0 rfl K (fun A hA => by cases List.mem_singleton.1 hA; rfl)
      clear K
      simp only [List.nil_append, List.cons_append] at H
      have h3 := hmp.three
      have hgl := hmp.good.len
      rw [List.length_map] at h3 hgl
      have HGD := Lib.hid hmp.good
      clear hmp
      skip
      try clear C
      try simp only [World.size_alloc, List.nil_append, List.cons_append, List.append_assoc] at H
      have C := H.cells
      try simp only [cellsOf, cellsM, apartOf, apartM, and_true] at C
      dsimp only
      have HCP := Lib.hid (fun w h => rcopy_any (v := v1) HGD.out.smallP w h)
      go_wp2_with fail
      refine (HCP.out _ (H.ownPs 1 rfl)).mono ?_
      rintro _ w4 ⟨v2, rs, rfl, hrs, K⟩
      replace H := H.join1 K
      clear K HCP
      simp only [List.nil_append, List.cons_append] at H
      have hrl : rs.length = qs.length := by have := congrArg List.length hrs; simpa using this
      have HSR := Lib.hid (show SmallP (rs.map (·.p)) by rw [hrs]; exact HGD.out.smallP)
      have HP16 : Hid (∀ (k : Nat), k < rs.length → ∀ pg, (rs[k]!).p.pages = pg → pg.length ≤ 16) := by
        intro k hk pg e
        have h1 := HGD.out.one (rs[k]!).p (by have : (rs[k]!).p ∈ rs.map (·.p) := List.mem_map.2 ⟨_, mem_at hk, rfl⟩
                                              have e2 : rs.map (·.p) = qs.map (·.p) := hrs
                                              rw [e2] at this; exact this)
        rw [← e]; exact h1.plen
      have hr0 : 0 < rs.length := by omega
      have hr8 : rs.length ≤ 8 := by omega
      clear hrs hrl
      obtain ⟨md0, hmd0⟩ : ∃ md, md = modF at' rs.length := ⟨_, rfl⟩
      have hmc : ∀ w, Calls Try.prog 17 #[.int .i64 at', .int .i64 rs.length] w (Gives (.int .i64 md0) w) := fun w => by rw [hmd0]; exact gives_ofV (mod_any _ _ _)
      have hmb0 := modF_in (n := at') (m := rs.length) (by omega) (by omega)
      rw [← hmd0] at hmb0
      clear hmd0
      obtain ⟨k, rfl⟩ : ∃ k : Nat, md0 = k := ⟨md0.toNat, by omega⟩
      have hk : k < rs.length := by omega
      have HMA := Lib.hid hmc
      clear hmc hmb0
      obtain ⟨sb, d4, rfl⟩ : ∃ sb d, v2 = .slice sb rs.length d := by
        have H' := H.manyCons 2 rfl
        simp only [List.eraseIdx_cons_succ, List.eraseIdx_cons_zero, List.nil_append, List.cons_append, outerR] at H'
        exact ownsRow_slice (H'.at 2 rfl)
      skip
      try clear C
      try simp only [World.size_alloc, List.nil_append, List.cons_append, List.append_assoc] at H
      have C := H.cells
      try simp only [cellsOf, cellsM, apartOf, apartM, and_true] at C
      dsimp only
      obtain ⟨md, hmd⟩ : ∃ md, md = modF what 8 := ⟨_, rfl⟩
      have HMC := Lib.hid (fun w => gives_ofV (mod_any what 8 w))
      have hmb := modF_in (n := what) (m := 8) (by decide) (by decide)
      rw [← hmd] at hmb HMC
      clear hmd
      go_wp2_with fail
      refine (HMA.out _).mono ?_
      rintro _ w3 ⟨rfl, hb⟩
      replace H := H.below hb
      clear hb
      try clear C
      try simp only [World.size_alloc, List.nil_append, List.cons_append, List.append_assoc] at H
      try clear w4
      have C := H.cells
      try simp only [cellsOf, cellsM, apartOf, apartM, and_true] at C
      dsimp only
      go_wp2_with fail
      refine (HMC.out _).mono ?_
      rintro _ w4 ⟨rfl, hb⟩
      replace H := H.below hb
      clear hb
      try clear C
      try simp only [World.size_alloc, List.nil_append, List.cons_append, List.append_assoc] at H
      try clear w3
      have C := H.cells
      try simp only [cellsOf, cellsM, apartOf, apartM, and_true] at C
      dsimp only
      clear HMA HMC
      obtain ⟨g, d, pb, pc, tb, tc, ev, hcap, hpa, hta, H2⟩ := HS.openAt (L := [_, _]) H hk
      injection ev with ev1 ev2 ev3
      subst ev1 ev3
      clear ev2
      go_upto_block 0 with fail
      go_cut [15, 17] from 42 to 163 (fun y _ wx => ∃ (v3 : Value) (ts : List Pv), v3 = y ∧ Hid (SmallP (ts.map (·.p))) ∧ HS NoD w [.dice w.heap.size bd, Item.many (PsR v1 qs), Item.many (PsR v3 ts)] wx)
      case first =>
        skip
        have hm8 : md = 0 ∨ md = 1 ∨ md = 2 ∨ md = 3 ∨ md = 4 ∨ md = 5 ∨ md = 6 ∨ md = 7 := by omega
        rcases hm8 with rfl | rfl | rfl | rfl | rfl | rfl | rfl | rfl
        · skip
          clear H
          have H := H2
          clear H2
          simp only [List.nil_append, List.cons_append] at H
          obtain ⟨pv, hpv⟩ : ∃ q, q = rs[k]! := ⟨_, rfl⟩
          rw [← hpv] at H hpa hta
          have HPV := Lib.hid hpv
          clear hpv
          obtain ⟨⟨pi, pt, pd, pg, td⟩, pa, ta⟩ := pv
          have f1 : pa = .slice pb pg.length pc := hpa
          have f2 : ta = .slice tb td.length tc := hta
          clear hpa hta
          subst f1 f2
          dsimp only at H
          skip
          try clear C
          try simp only [World.size_alloc, List.nil_append, List.cons_append, List.append_assoc] at H
          have C := H.cells
          try simp only [cellsOf, cellsM, apartOf, apartM, and_true] at C
          have HMB := Lib.hid (fun w => gives_ofV (mod_any by' 25 w))
          have hmb2 := modF_in (n := by') (m := 25) (by decide) (by decide)
          generalize modF by' 25 = ub at HMB hmb2
          have qb : IntKind.i64.wrap (ub - 1) = ub - 1 := IntWalk.i64_in _ (by omega)
          go_wp2_with fail
          refine (HMB.out _).mono ?_
          rintro _ w5 ⟨rfl, hb⟩
          replace H := H.below hb
          clear hb
          try clear C
          try simp only [World.size_alloc, List.nil_append, List.cons_append, List.append_assoc] at H
          try clear w4
          have C := H.cells
          try simp only [cellsOf, cellsM, apartOf, apartM, and_true] at C
          dsimp only
          have k9 : w5.cell? ⟨g, k * 5, none⟩ = some (.int .i64 pi) ∧ w5.frozen? ⟨g, k * 5, none⟩ = false := H.outerCell 2 rfl rfl hk (m := 0) (by decide) (by rw [← HPV.out]; rfl)
          obtain ⟨k9, k9f⟩ := k9
          go_wp2_with fail
          clear k9 k9f
          go_meet
          case rel =>
            obtain ⟨q', hq'⟩ : ∃ q' : Pv, q' = ⟨⟨ub - 1, pt, pd, pg, td⟩, .slice pb pg.length pc, .slice tb td.length tc⟩ := ⟨_, rfl⟩
            have H9 := H.rowSet 2 rfl (k * 5) (.int .i64 (ub - 1))
            have hpv : pvC q' = (pvC rs[k]!).set 0 (.int .i64 (ub - 1)) := by rw [hq', ← HPV.out]; rfl
            have H8 := HS.shutAt (L := [.dice w.heap.size bd, Item.many (PsR v1 qs)]) (g := g) (d := d4) (rs := rs) (i := k) (cells := (rs.flatMap pvC).set (k * 5 + 0) (.int .i64 (ub - 1))) q' (by
              rw [hq']
              exact H9) hk (flat_set pvC_len rs k 0 _ _ hk (by decide) hpv).symm
            refine ⟨_, rs.set k q', rfl, ?_, H8⟩
            show SmallP _
            rw [List.map_set]
            exact setSmall HSR.out k (by have := (HSR.out.2 (rs[k]!).p (List.mem_map.2 ⟨_, mem_at hk, rfl⟩)); rw [← HPV.out] at this; rw [hq']; exact this)
        · skip
          clear H
          have H := H2
          clear H2
          simp only [List.nil_append, List.cons_append] at H
          obtain ⟨pv, hpv⟩ : ∃ q, q = rs[k]! := ⟨_, rfl⟩
          rw [← hpv] at H hpa hta
          have HPV := Lib.hid hpv
          clear hpv
          obtain ⟨⟨pi, pt, pd, pg, td⟩, pa, ta⟩ := pv
          have f1 : pa = .slice pb pg.length pc := hpa
          have f2 : ta = .slice tb td.length tc := hta
          clear hpa hta
          subst f1 f2
          dsimp only at H
          skip
          try clear C
          try simp only [World.size_alloc, List.nil_append, List.cons_append, List.append_assoc] at H
          have C := H.cells
          try simp only [cellsOf, cellsM, apartOf, apartM, and_true] at C
          have k9 : w4.cell? ⟨g, k * 5 + 2, none⟩ = some (.bool pd) ∧ w4.frozen? ⟨g, k * 5 + 2, none⟩ = false := H.outerCell 2 rfl rfl hk (m := 2) (by decide) (by rw [← HPV.out]; rfl)
          obtain ⟨k9, k9f⟩ := k9
          go_wp2_with fail
          clear k9 k9f
          go_meet
          case rel =>
            obtain ⟨q', hq'⟩ : ∃ q' : Pv, q' = ⟨⟨pi, pt, !pd, pg, td⟩, .slice pb pg.length pc, .slice tb td.length tc⟩ := ⟨_, rfl⟩
            have H9 := H.rowSet 2 rfl (k * 5 + 2) (.bool (!pd))
            have hpv : pvC q' = (pvC rs[k]!).set 2 (.bool (!pd)) := by rw [hq', ← HPV.out]; rfl
            have H8 := HS.shutAt (L := [.dice w.heap.size bd, Item.many (PsR v1 qs)]) (g := g) (d := d4) (rs := rs) (i := k) (cells := (rs.flatMap pvC).set (k * 5 + 2) (.bool (!pd))) q' (by
              rw [hq']
              exact H9) hk (flat_set pvC_len rs k 2 _ _ hk (by decide) hpv).symm
            refine ⟨_, rs.set k q', rfl, ?_, H8⟩
            show SmallP _
            rw [List.map_set]
            exact setSmall HSR.out k (by have := (HSR.out.2 (rs[k]!).p (List.mem_map.2 ⟨_, mem_at hk, rfl⟩)); rw [← HPV.out] at this; rw [hq']; exact this)
        · skip
          clear H
          have H := H2
          clear H2
          simp only [List.nil_append, List.cons_append] at H
          obtain ⟨pv, hpv⟩ : ∃ q, q = rs[k]! := ⟨_, rfl⟩
          rw [← hpv] at H hpa hta
          have HPV := Lib.hid hpv
          clear hpv
          obtain ⟨⟨pi, pt, pd, pg, td⟩, pa, ta⟩ := pv
          have f1 : pa = .slice pb pg.length pc := hpa
          have f2 : ta = .slice tb td.length tc := hta
          clear hpa hta
          subst f1 f2
          dsimp only at H
          skip
          try clear C
          try simp only [World.size_alloc, List.nil_append, List.cons_append, List.append_assoc] at H
          have C := H.cells
          try simp only [cellsOf, cellsM, apartOf, apartM, and_true] at C
          have hps9 := HSR.out.2 (rs[k]!).p (List.mem_map.2 ⟨_, mem_at hk, rfl⟩)
          rw [← HPV.out] at hps9
          have hpg9 : pg.length ≤ 16 := HP16.out k hk pg (by rw [← HPV.out])
          clear hps9
          obtain ⟨wq, hwq⟩ : ∃ x, x = wrap64 (by'.tdiv 12) := ⟨_, rfl⟩
          have HWQ := Lib.hid hwq
          clear hwq
          obtain ⟨rm, hrm⟩ : ∃ x, x = by'.tmod 2 := ⟨_, rfl⟩
          have HRM := Lib.hid hrm
          clear hrm
          have HM12 := Lib.hid (fun w => gives_ofV (mod_any by' 12 w))
          have HM9 := Lib.hid (fun w => gives_ofV (mod_any wq 9 w))
          generalize modF by' 12 = u12 at HM12
          generalize modF wq 9 = u9 at HM9
          go_upto_region 13 with fail
          have hX : ¬ (Value.slice pb pg.length pc).ownBlock = some g := fun e => H.apart (i := 3) (j := 2) rfl rfl (by decide) e rfl
          refine wp_region_hz (by kernel_rfl) [0, 1, 2, 3, 4, 5, 6, 7, 8, 9, 10, 11, 12, 13, 14, 15, 16, 17, 18, 19] (by kernel_rfl) (by kernel_rfl) (by kernel_rfl) rfl (fun k => (Value.slice pb pg.length pc).ownBlock = some k) (H) ?_
          clear H; intro w6 H hz0
          try clear C
          try simp only [World.size_alloc, List.nil_append, List.cons_append, List.append_assoc] at H hz0 ⊢
          clear hz0
          try clear w4
          have C := H.cells
          try simp only [cellsOf, cellsM, apartOf, apartM, and_true] at C
          have Z := H.zs
          try simp only [ltsOf, ltsM, and_true] at Z
          simp only [List.filterMap_cons, List.filterMap_nil, List.getElem?_toArray, List.getElem?_cons_zero, List.getElem?_cons_succ]
          have hgb : g < w6.heap.size := Item.lt (H.at 2 rfl) (k := g) rfl
          have k3 := (H.outerCell 2 rfl rfl hk (m := 3) (u := .slice pb pg.length pc) (by decide) (by rw [← HPV.out]; rfl)).1
          (refine wpH_free rfl rfl rfl (fun _ _ => ?_); go_step; go_step)
          (refine wpH_free rfl rfl rfl (fun _ _ => ?_); go_step; go_step)
          (refine wpH_free rfl rfl rfl (fun _ _ => ?_); go_step; go_step)
          (refine wpH_free rfl rfl rfl (fun _ _ => ?_); go_step; go_step)
          (refine wpH_yield rfl rfl (.pointer (some ⟨g, k * 5, none⟩)) (fun w _ => by go_simp) ?_; go_simp)
          (refine wpH_free rfl rfl rfl (fun _ _ => ?_); go_step; go_step)
          (refine wpH_load rfl rfl rfl (by simp [Stay, OneD, NoD, *]) (by simp [*]) (fun _ _ => ?_); go_step; go_step)
          (refine wpH_free rfl rfl rfl (fun _ _ => ?_); go_step; go_step)
          (refine wpH_call rfl rfl (fun wc hc _ _ => ?_); go_step; refine (HM12.out _).mono ?_; rintro _ wd ⟨rfl, hb⟩; dsimp only; go_step; refine ⟨_, (hc.belowH (fun _ h => h.1) hb).1, (hc.belowH (fun _ h => h.1) hb).2, ?_⟩; clear hb hc wc wd)
          (refine wpH_free rfl rfl rfl (fun _ _ => ?_); go_step; go_step)
          (refine wpH_yield rfl rfl (.int .i64 wq ) (fun w _ => by  (rw [HWQ.out]; go_simp <;> simp only [IntKind.wrap_i64, wrap64])) ?_; go_simp)
          (refine wpH_call rfl rfl (fun wc hc _ _ => ?_); go_step; refine (HM9.out _).mono ?_; rintro _ wd ⟨rfl, hb⟩; dsimp only; go_step; refine ⟨_, (hc.belowH (fun _ h => h.1) hb).1, (hc.belowH (fun _ h => h.1) hb).2, ?_⟩; clear hb hc wc wd)
          (refine wpH_free rfl rfl rfl (fun _ _ => ?_); go_step; go_step)
          (refine wpH_yield rfl rfl (.int .i64 rm ) (fun w _ => by  (rw [HRM.out]; go_simp)) ?_; go_simp)
          (refine wpH_yield rfl rfl (.bool (rm == 0)) (fun w _ => by go_simp) ?_; go_simp)
          (refine wpH_free rfl rfl rfl (fun _ _ => ?_); go_step; go_step)
          (refine wpH_lit rfl rfl #[.int .i64 u12, .int .i64 u9, .bool (rm == 0)]   37 1 (fun w => by kernel_rfl) (fun bL hbL nbL _ _ => ?_); go_simp; go_step)
          refine wpH_append rfl (.tmp 71) (.tmp 81) 29 rfl elemPg 3 rfl rfl (fun b hb hS => hS.2 hb) (fun _ h => h.1) rfl (fun w hc => src_lit (Fl.at _ _ _) hc) rfl (fun y hy => pgC_one [⟨u12, u9, rm == 0⟩] y (by simpa [pgC] using hy)) (by unfold maxLen; omega) (by omega) (N := pg.length + 1) rfl (fun s2 c2 hs2 => ?_)
          (refine wpH_yield rfl rfl (.pointer (some ⟨g, k * 5, none⟩)) (fun w _ => by go_simp) ?_; go_simp)
          (refine wpH_free rfl rfl rfl (fun _ _ => ?_); go_step; go_step)
          refine wpH_nil ?_
          intro w7 hC
          replace H := hC.hs
          clear hC
          try clear C
          try clear Z
          try simp only [List.nil_append, List.cons_append, List.append_assoc, List.set_cons_succ, List.set_cons_zero] at H
          try clear w6
          have C := H.cells
          try simp only [cellsOf, cellsM, apartOf, apartM, and_true] at C
          clear k3 hgb hX
          have k3 := H.outerCell 2 rfl rfl hk (m := 3) (u := .slice pb pg.length pc) (by decide) (by rw [← HPV.out]; rfl)
          obtain ⟨k3, k3f⟩ := k3
          go_wp2_with fail
          clear k3 k3f
          go_meet
          case rel =>
            obtain ⟨q', hq'⟩ : ∃ q' : Pv, q' = ⟨⟨pi, pt, pd, pg ++ [⟨u12, u9, rm == 0⟩], td⟩, .slice s2 (pg.length + 1) c2, .slice tb td.length tc⟩ := ⟨_, rfl⟩
            have H9 := H.rowSet 2 rfl (k * 5 + 3) (.slice s2 (pg.length + 1) c2)
            have hpv : pvC q' = (pvC rs[k]!).set 3 (.slice s2 (pg.length + 1) c2) := by rw [hq', ← HPV.out]; rfl
            have e7 : (pg ++ ([⟨u12, u9, rm == 0⟩] : List Pg)).flatMap pgC = pg.flatMap pgC ++ [.int .i64 u12, .int .i64 u9, .bool (rm == 0)] := by rw [List.flatMap_append]; rfl
            have H8 := HS.shutAt (L := [.dice w.heap.size bd, Item.many (PsR v1 qs)]) (g := g) (d := d4) (rs := rs) (i := k) (cells := (rs.flatMap pvC).set (k * 5 + 3) (.slice s2 (pg.length + 1) c2)) q' (by
              rw [hq']; unfold pagesR toldR; dsimp only; rw [List.length_append, e7]
              exact HS.less H9 (by repeat (first | exact .slnil | refine .cons_cons _ ?_ | refine .cons _ ?_))) hk (flat_set pvC_len rs k 3 _ _ hk (by decide) hpv).symm
            refine ⟨_, rs.set k q', rfl, ?_, H8⟩
            show SmallP _
            rw [List.map_set]
            exact setSmall HSR.out k (by have := (HSR.out.2 (rs[k]!).p (List.mem_map.2 ⟨_, mem_at hk, rfl⟩)); rw [← HPV.out] at this; rw [hq']; dsimp only at this ⊢; rw [List.length_append]; simp; omega)
        · skip
          clear H
          have H := H2
          clear H2
          simp only [List.nil_append, List.cons_append] at H
          obtain ⟨pv, hpv⟩ : ∃ q, q = rs[k]! := ⟨_, rfl⟩
          rw [← hpv] at H hpa hta
          have HPV := Lib.hid hpv
          clear hpv
          obtain ⟨⟨pi, pt, pd, pg, td⟩, pa, ta⟩ := pv
          have f1 : pa = .slice pb pg.length pc := hpa
          have f2 : ta = .slice tb td.length tc := hta
          clear hpa hta
          subst f1 f2
          dsimp only at H
          skip
          try clear C
          try simp only [World.size_alloc, List.nil_append, List.cons_append, List.append_assoc] at H
          have C := H.cells
          try simp only [cellsOf, cellsM, apartOf, apartM, and_true] at C
          have k3 := H.outerCell 2 rfl rfl hk (m := 3) (u := .slice pb pg.length pc) (by decide) (by rw [← HPV.out]; rfl)
          obtain ⟨k3, k3f⟩ := k3
          by_cases hz : pg = []
          · subst hz
            skip
            go_wp2_with fail
            clear k3 k3f
            go_meet
            case rel =>
              have H8 := HS.shutAt (L := [.dice w.heap.size bd, Item.many (PsR v1 qs)]) (g := g) (d := d4) (rs := rs) (i := k) (cells := rs.flatMap pvC) rs[k]! (by rw [← HPV.out]; exact H) hk (by rw [flat_set_split hk, ← flat_split hk])
              refine ⟨_, rs.set k rs[k]!, rfl, ?_, H8⟩
              show SmallP _
              rw [List.map_set]
              exact setSmall HSR.out k (HSR.out.2 (rs[k]!).p (List.mem_map.2 ⟨_, mem_at hk, rfl⟩))
          · have hp0 : 0 < pg.length := List.length_pos_iff.2 hz
            have hp1 : (0 : Int) < pg.length := by omega
            obtain ⟨h, rfl, hh, hpc⟩ := ownsRow_ptr (H.at 3 rfl) hp0
            obtain ⟨xo, hxo⟩ : ∃ x, x = pg[0]! := ⟨_, rfl⟩
            have HXO := Lib.hid hxo
            have p9 : w4.cell? ⟨h, 2, none⟩ = some (.bool xo.s) ∧ w4.frozen? ⟨h, 2, none⟩ = false := by have := H.pageCell 3 rfl rfl hp0 (m := 2) (u := .bool xo.s) (by decide) (by rw [hxo]; rfl); simpa using this
            obtain ⟨p9, p9f⟩ := p9
            clear hxo
            skip
            go_upto_region 16 with fail
            go_region
            all_goals
              clear k3 k3f p9 p9f
              generalize hwb : World.setCell _ _ _ = w5
              have H9 := HS.eqW hwb (H.rowSet 3 rfl 2 (.bool (!xo.s)))
              clear hwb
              have hfl := flat_set pgC_len pg 0 2 { xo with s := !xo.s } (.bool (!xo.s)) hp0 (by decide) (by rw [← HXO.out]; rfl)
              rw [Nat.zero_mul, Nat.zero_add] at hfl
              obtain ⟨q', hq'⟩ : ∃ q' : Pv, q' = ⟨⟨pi, pt, pd, pg.set 0 { xo with s := !xo.s }, td⟩, .slice (some ⟨h, 0, none⟩) pg.length pc, .slice tb td.length tc⟩ := ⟨_, rfl⟩
              have H8 := HS.shutAt (L := [.dice w.heap.size bd, Item.many (PsR v1 qs)]) (g := g) (d := d4) (rs := rs) (i := k) (cells := rs.flatMap pvC) q' (by rw [hq']; unfold pagesR toldR; dsimp only; rw [List.length_set, hfl]; exact H9) hk (by rw [flat_set_split hk, flat_split hk, hq', ← HPV.out]; rfl)
              have hsm9 : SmallP ((rs.set k q').map (·.p)) := by
                rw [List.map_set]
                exact setSmall HSR.out k (by have := (HSR.out.2 (rs[k]!).p (List.mem_map.2 ⟨_, mem_at hk, rfl⟩)); rw [← HPV.out] at this; rw [hq']; dsimp only at this ⊢; rw [List.length_set]; exact this)
              go_wp2_with fail
              go_meet
              case rel =>
                first
                  | exact ⟨_, rs.set k q', rfl, hsm9, H8⟩
                  | exact ⟨_, rs.set k q', rfl, hsm9, H8.drew⟩
        · skip
          clear H
          have H := H2
          clear H2
          simp only [List.nil_append, List.cons_append] at H
          obtain ⟨pv, hpv⟩ : ∃ q, q = rs[k]! := ⟨_, rfl⟩
          rw [← hpv] at H hpa hta
          have HPV := Lib.hid hpv
          clear hpv
          obtain ⟨⟨pi, pt, pd, pg, td⟩, pa, ta⟩ := pv
          have f1 : pa = .slice pb pg.length pc := hpa
          have f2 : ta = .slice tb td.length tc := hta
          clear hpa hta
          subst f1 f2
          dsimp only at H
          skip
          try clear C
          try simp only [World.size_alloc, List.nil_append, List.cons_append, List.append_assoc] at H
          have C := H.cells
          try simp only [cellsOf, cellsM, apartOf, apartM, and_true] at C
          have HMB := Lib.hid (fun w => gives_ofV (mod_any by' 10 w))
          have hmb2 := modF_in (n := by') (m := 10) (by decide) (by decide)
          generalize modF by' 10 = ub at HMB hmb2
          have qb : IntKind.i64.wrap (ub - 1) = ub - 1 := IntWalk.i64_in _ (by omega)
          have k3 := H.outerCell 2 rfl rfl hk (m := 3) (u := .slice pb pg.length pc) (by decide) (by rw [← HPV.out]; rfl)
          obtain ⟨k3, k3f⟩ := k3
          by_cases hz : pg = []
          · subst hz
            skip
            go_wp2_with fail
            clear k3 k3f
            go_meet
            case rel =>
              have H8 := HS.shutAt (L := [.dice w.heap.size bd, Item.many (PsR v1 qs)]) (g := g) (d := d4) (rs := rs) (i := k) (cells := rs.flatMap pvC) rs[k]! (by rw [← HPV.out]; exact H) hk (by rw [flat_set_split hk, ← flat_split hk])
              refine ⟨_, rs.set k rs[k]!, rfl, ?_, H8⟩
              show SmallP _
              rw [List.map_set]
              exact setSmall HSR.out k (HSR.out.2 (rs[k]!).p (List.mem_map.2 ⟨_, mem_at hk, rfl⟩))
          · have hp0 : 0 < pg.length := List.length_pos_iff.2 hz
            have hp1 : (0 : Int) < pg.length := by omega
            obtain ⟨h, rfl, hh, hpc⟩ := ownsRow_ptr (H.at 3 rfl) hp0
            obtain ⟨xo, hxo⟩ : ∃ x, x = pg[0]! := ⟨_, rfl⟩
            have HXO := Lib.hid hxo
            have p9 : w4.cell? ⟨h, 1, none⟩ = some (.int .i64 xo.f) ∧ w4.frozen? ⟨h, 1, none⟩ = false := by have := H.pageCell 3 rfl rfl hp0 (m := 1) (u := .int .i64 xo.f) (by decide) (by rw [hxo]; rfl); simpa using this
            obtain ⟨p9, p9f⟩ := p9
            clear hxo
            skip
            clear p9 p9f
            go_upto_region 19 with fail
            clear k3 k3f
            refine wp_region_hz (by kernel_rfl) [0, 1, 2, 3, 4, 5, 6, 7, 8, 9] (by kernel_rfl) (by kernel_rfl) (by kernel_rfl) rfl (fun _ => False) (H) ?_
            clear H; intro w8 H hz0
            try clear C
            try simp only [World.size_alloc, List.nil_append, List.cons_append, List.append_assoc] at H hz0 ⊢
            clear hz0
            try clear w4
            have C := H.cells
            try simp only [cellsOf, cellsM, apartOf, apartM, and_true] at C
            have Z := H.zs
            try simp only [ltsOf, ltsM, and_true] at Z
            simp only [List.filterMap_cons, List.filterMap_nil, List.getElem?_toArray, List.getElem?_cons_zero, List.getElem?_cons_succ]
            have hgb : g < w8.heap.size := Item.lt (H.at 2 rfl) (k := g) rfl
            have k3 := (H.outerCell 2 rfl rfl hk (m := 3) (u := .slice (some ⟨h, 0, none⟩) pg.length pc) (by decide) (by rw [← HPV.out]; rfl)).1
            (refine wpH_free rfl rfl rfl (fun _ _ => ?_); go_step; go_step)
            (refine wpH_free rfl rfl rfl (fun _ _ => ?_); go_step; go_step)
            (refine wpH_yield rfl rfl (.pointer (some ⟨g, k * 5, none⟩)) (fun w _ => by go_simp) ?_; go_simp)
            (refine wpH_free rfl rfl rfl (fun _ _ => ?_); go_step; go_step)
            (refine wpH_load rfl rfl rfl (by simp [Stay, OneD, NoD, *]) (by simp [*]) (fun _ _ => ?_); go_step; go_step)
            (refine wpH_free rfl rfl rfl (fun _ _ => ?_); go_step; go_step)
            (refine wpH_call rfl rfl (fun wc hc _ _ => ?_); go_step; refine (HMB.out _).mono ?_; rintro _ wd ⟨rfl, hb⟩; dsimp only; go_step; refine ⟨_, (hc.belowH (fun _ h => h.1) hb).1, (hc.belowH (fun _ h => h.1) hb).2, ?_⟩; clear hb hc wc wd)
            (refine wpH_yield rfl rfl (.int .i64 (ub - 1) ) (fun w _ => by  (go_simp)) ?_; go_simp)
            (refine wpH_yield rfl rfl (.pointer (some ⟨h, 0, none⟩)) (fun w _ => by go_simp) ?_; go_simp)
            (refine wpH_free rfl rfl rfl (fun _ _ => ?_); go_step; go_step)
            refine wpH_nil ?_
            intro w9 hC
            replace H := hC.hs
            clear hC
            try clear C
            try clear Z
            try simp only [List.nil_append, List.cons_append, List.append_assoc, List.set_cons_succ, List.set_cons_zero] at H
            try clear w8
            have C := H.cells
            try simp only [cellsOf, cellsM, apartOf, apartM, and_true] at C
            clear k3 hgb
            have k3 : True := trivial
            have k3f : True := trivial
            have p9 : w9.cell? ⟨h, 1, none⟩ = some (.int .i64 xo.f) ∧ w9.frozen? ⟨h, 1, none⟩ = false := by have := H.pageCell 3 rfl rfl hp0 (m := 1) (u := .int .i64 xo.f) (by decide) (by rw [← HXO.out]; rfl); simpa using this
            obtain ⟨p9, p9f⟩ := p9
            go_wp2_with fail
            all_goals
              clear k3 k3f p9 p9f
              generalize hwb : World.setCell _ _ _ = w5
              have H9 := HS.eqW hwb (H.rowSet 3 rfl 1 (.int .i64 (ub - 1)))
              clear hwb
              have hfl := flat_set pgC_len pg 0 1 { xo with f := ub - 1 } (.int .i64 (ub - 1)) hp0 (by decide) (by rw [← HXO.out]; rfl)
              rw [Nat.zero_mul, Nat.zero_add] at hfl
              obtain ⟨q', hq'⟩ : ∃ q' : Pv, q' = ⟨⟨pi, pt, pd, pg.set 0 { xo with f := ub - 1 }, td⟩, .slice (some ⟨h, 0, none⟩) pg.length pc, .slice tb td.length tc⟩ := ⟨_, rfl⟩
              have H8 := HS.shutAt (L := [.dice w.heap.size bd, Item.many (PsR v1 qs)]) (g := g) (d := d4) (rs := rs) (i := k) (cells := rs.flatMap pvC) q' (by rw [hq']; unfold pagesR toldR; dsimp only; rw [List.length_set, hfl]; exact H9) hk (by rw [flat_set_split hk, flat_split hk, hq', ← HPV.out]; rfl)
              have hsm9 : SmallP ((rs.set k q').map (·.p)) := by
                rw [List.map_set]
                exact setSmall HSR.out k (by have := (HSR.out.2 (rs[k]!).p (List.mem_map.2 ⟨_, mem_at hk, rfl⟩)); rw [← HPV.out] at this; rw [hq']; dsimp only at this ⊢; rw [List.length_set]; exact this)
              go_meet
              case rel =>
                first
                  | exact ⟨_, rs.set k q', rfl, hsm9, H8⟩
                  | exact ⟨_, rs.set k q', rfl, hsm9, H8.drew⟩
        · skip
          clear H
          have H := H2
          clear H2
          simp only [List.nil_append, List.cons_append] at H
          obtain ⟨pv, hpv⟩ : ∃ q, q = rs[k]! := ⟨_, rfl⟩
          rw [← hpv] at H hpa hta
          have HPV := Lib.hid hpv
          clear hpv
          obtain ⟨⟨pi, pt, pd, pg, td⟩, pa, ta⟩ := pv
          have f1 : pa = .slice pb pg.length pc := hpa
          have f2 : ta = .slice tb td.length tc := hta
          clear hpa hta
          subst f1 f2
          dsimp only at H
          skip
          try clear C
          try simp only [World.size_alloc, List.nil_append, List.cons_append, List.append_assoc] at H
          have C := H.cells
          try simp only [cellsOf, cellsM, apartOf, apartM, and_true] at C
          have HMB := Lib.hid (fun w => gives_ofV (mod_any by' 2 w))
          have hmb2 := modF_in (n := by') (m := 2) (by decide) (by decide)
          generalize modF by' 2 = ub at HMB hmb2
          have k9 : w4.cell? ⟨g, k * 5 + 4, none⟩ = some (.slice tb td.length tc) ∧ w4.frozen? ⟨g, k * 5 + 4, none⟩ = false := H.outerCell 2 rfl rfl hk (m := 4) (by decide) (by rw [← HPV.out]; rfl)
          clear k9
          have hub : ub = 0 ∨ ub = 1 := by omega
          obtain ⟨inf, i1, i2, i3, i4⟩ := elemN.hi
          rcases hub with rfl | rfl
          · · go_wp2_with fail
              refine (HMB.out _).mono ?_
              rintro _ w10 ⟨rfl, hb⟩
              replace H := H.below hb
              clear hb
              try clear C
              try simp only [World.size_alloc, List.nil_append, List.cons_append, List.append_assoc] at H
              try clear w4
              have C := H.cells
              try simp only [cellsOf, cellsM, apartOf, apartM, and_true] at C
              dsimp only
              go_wp2_with (at_make; refine wpList_make_full _ rfl (.tmp 135) (.tmp 135) 22 rfl w10.heap.size 3 inf _ 1 elemN.ht i1 i2 i3 .i64 .i64 _ _ 200 rfl rfl rfl rfl (by rw [i4]; decide) (by decide) (Nat.le_refl _) (fun wm hm1 hm2 => ?_); replace H := H.getsRow ((Below.refl _ _).grown hm2 (Nat.le_refl _) (fun k h => by cases h)) hm1; clear hm1 hm2; have k9 := H.outerCell 2 rfl rfl hk (m := 4) (u := .slice tb td.length tc) (by decide) (by rw [← HPV.out]; rfl); obtain ⟨k9, k9f⟩ := k9)
              go_meet
              case rel =>
                simp only [List.nil_append, List.cons_append] at H
                generalize hwb : World.setCell _ _ _ = w9
                obtain ⟨q', hq'⟩ : ∃ q' : Pv, q' = ⟨⟨pi, pt, pd, pg, List.replicate 200 0⟩, .slice pb pg.length pc, .slice (some ⟨w10.heap.size, 0, none⟩) 200 200⟩ := ⟨_, rfl⟩
                have H9 := HS.eqW hwb (H.rowSet 2 rfl (k * 5 + 4) (.slice (some ⟨w10.heap.size, 0, none⟩) 200 200))
                have em : (madeCells (Value.int IntKind.i64 0).cells (200 * 1)).toList = (List.replicate 200 (0 : Int)).flatMap iC := by kernel_rfl
                rw [em] at H9
                have hpv : pvC q' = (pvC rs[k]!).set 4 (.slice (some ⟨w10.heap.size, 0, none⟩) 200 200) := by rw [hq', ← HPV.out]; rfl
                have H8 := HS.shutAt (L := [.dice w.heap.size bd, Item.many (PsR v1 qs)]) (g := g) (d := d4) (rs := rs) (i := k) (cells := (rs.flatMap pvC).set (k * 5 + 4) (.slice (some ⟨w10.heap.size, 0, none⟩) 200 200)) q' (by
                  have H10 := H9.permu (.cons _ (.cons _ (.cons _ (.cons _ (List.reverse_perm _).symm))))
                  simp only [List.set_cons_succ, List.set_cons_zero, List.reverse_cons, List.reverse_nil, List.nil_append, List.cons_append] at H10
                  rw [hq']; unfold pagesR toldR; dsimp only; rw [List.length_replicate]
                  simp only [List.nil_append, List.cons_append]
                  exact HS.less H10 (by repeat (first | exact .slnil | refine .cons_cons _ ?_ | refine .cons _ ?_))) hk (flat_set pvC_len rs k 4 _ _ hk (by decide) hpv).symm
                refine ⟨_, rs.set k q', rfl, ?_, H8⟩
                show SmallP _
                rw [List.map_set]
                exact setSmall HSR.out k (by have := (HSR.out.2 (rs[k]!).p (List.mem_map.2 ⟨_, mem_at hk, rfl⟩)); rw [← HPV.out] at this; rw [hq']; exact ⟨this.1, by simp⟩)
          · · go_wp2_with fail
              refine (HMB.out _).mono ?_
              rintro _ w11 ⟨rfl, hb⟩
              replace H := H.below hb
              clear hb
              try clear C
              try simp only [World.size_alloc, List.nil_append, List.cons_append, List.append_assoc] at H
              try clear w10
              have C := H.cells
              try simp only [cellsOf, cellsM, apartOf, apartM, and_true] at C
              dsimp only
              go_wp2_with (at_make; refine wpList_make_full _ rfl (.tmp 135) (.tmp 135) 22 rfl w11.heap.size 3 inf _ 1 elemN.ht i1 i2 i3 .i64 .i64 _ _ 201 rfl rfl rfl rfl (by rw [i4]; decide) (by decide) (Nat.le_refl _) (fun wm hm1 hm2 => ?_); replace H := H.getsRow ((Below.refl _ _).grown hm2 (Nat.le_refl _) (fun k h => by cases h)) hm1; clear hm1 hm2; have k9 := H.outerCell 2 rfl rfl hk (m := 4) (u := .slice tb td.length tc) (by decide) (by rw [← HPV.out]; rfl); obtain ⟨k9, k9f⟩ := k9)
              go_meet
              case rel =>
                simp only [List.nil_append, List.cons_append] at H
                generalize hwb : World.setCell _ _ _ = w9
                obtain ⟨q', hq'⟩ : ∃ q' : Pv, q' = ⟨⟨pi, pt, pd, pg, List.replicate 201 0⟩, .slice pb pg.length pc, .slice (some ⟨w11.heap.size, 0, none⟩) 201 201⟩ := ⟨_, rfl⟩
                have H9 := HS.eqW hwb (H.rowSet 2 rfl (k * 5 + 4) (.slice (some ⟨w11.heap.size, 0, none⟩) 201 201))
                have em : (madeCells (Value.int IntKind.i64 0).cells (201 * 1)).toList = (List.replicate 201 (0 : Int)).flatMap iC := by kernel_rfl
                rw [em] at H9
                have hpv : pvC q' = (pvC rs[k]!).set 4 (.slice (some ⟨w11.heap.size, 0, none⟩) 201 201) := by rw [hq', ← HPV.out]; rfl
                have H8 := HS.shutAt (L := [.dice w.heap.size bd, Item.many (PsR v1 qs)]) (g := g) (d := d4) (rs := rs) (i := k) (cells := (rs.flatMap pvC).set (k * 5 + 4) (.slice (some ⟨w11.heap.size, 0, none⟩) 201 201)) q' (by
                  have H10 := H9.permu (.cons _ (.cons _ (.cons _ (.cons _ (List.reverse_perm _).symm))))
                  simp only [List.set_cons_succ, List.set_cons_zero, List.reverse_cons, List.reverse_nil, List.nil_append, List.cons_append] at H10
                  rw [hq']; unfold pagesR toldR; dsimp only; rw [List.length_replicate]
                  simp only [List.nil_append, List.cons_append]
                  exact HS.less H10 (by repeat (first | exact .slnil | refine .cons_cons _ ?_ | refine .cons _ ?_))) hk (flat_set pvC_len rs k 4 _ _ hk (by decide) hpv).symm
                refine ⟨_, rs.set k q', rfl, ?_, H8⟩
                show SmallP _
                rw [List.map_set]
                exact setSmall HSR.out k (by have := (HSR.out.2 (rs[k]!).p (List.mem_map.2 ⟨_, mem_at hk, rfl⟩)); rw [← HPV.out] at this; rw [hq']; exact ⟨this.1, by simp⟩)
        · skip
          clear H2
          have HMB := Lib.hid (fun w => gives_ofV (mod_any by' 2 w))
          have hmb2 := modF_in (n := by') (m := 2) (by decide) (by decide)
          generalize modF by' 2 = ub at HMB hmb2
          have qb : IntKind.i64.wrap (999 + ub) = 999 + ub := IntWalk.i64_in _ (by omega)
          have HM := H.manyCons 2 rfl
          clear H
          have H := HM
          clear HM
          simp only [List.eraseIdx_cons_succ, List.eraseIdx_cons_zero, List.nil_append, List.cons_append, outerR] at H
          skip
          try clear C
          try simp only [World.size_alloc, List.nil_append, List.cons_append, List.append_assoc] at H
          have C := H.cells
          try simp only [cellsOf, cellsM, apartOf, apartM, and_true] at C
          go_wp2_with fail
          refine (HMB.out _).mono ?_
          rintro _ w12 ⟨rfl, hb⟩
          replace H := H.below hb
          clear hb
          try clear C
          try simp only [World.size_alloc, List.nil_append, List.cons_append, List.append_assoc] at H
          try clear w4
          have C := H.cells
          try simp only [cellsOf, cellsM, apartOf, apartM, and_true] at C
          dsimp only
          go_wp2_with (at_builtin; refine wpList_append_H rfl (.tmp 141) (.tmp 146) 25 rfl elemPr H.alloc 2 rfl rfl 4 rfl rfl rfl rfl (by decide) (by unfold maxLen; omega) (by omega) (fun g9 c9 wz HZ => ?_); clear H C)
          simp only [List.nil_append, List.cons_append, List.append_assoc, List.set_cons_succ, List.set_cons_zero] at HZ
          go_meet
          case rel =>
            have H5 := HS.less (L' := [.dice w.heap.size bd, Item.many (PsR v1 qs), .row (.slice (some ⟨g9, 0, none⟩) (rs.length + 1) c9) 31 5 (rs.length + 1) (rs.flatMap pvC ++ pvC (⟨⟨999 + ub, false, false, [], []⟩, .slice none 0 0, .slice none 0 0⟩ : Pv)), Item.many (rs.flatMap innerR)]) HZ (by repeat (first | exact .slnil | refine .cons_cons _ ?_ | refine .cons _ ?_))
            exact ⟨_, rs ++ [_], rfl, small_snoc HSR.out ⟨Nat.zero_le _, Nat.zero_le _⟩ (by omega), H5.addPr rfl rfl rfl rfl⟩
        · skip
          clear H2
          have HMB := Lib.hid (fun w => gives_ofV (mod_any by' 2 w))
          have hmb2 := modF_in (n := by') (m := 2) (by decide) (by decide)
          generalize modF by' 2 = ub at HMB hmb2
          have qb : IntKind.i64.wrap (8 + ub) = 8 + ub := IntWalk.i64_in _ (by omega)
          skip
          try clear C
          try simp only [World.size_alloc, List.nil_append, List.cons_append, List.append_assoc] at H
          have C := H.cells
          try simp only [cellsOf, cellsM, apartOf, apartM, and_true] at C
          go_wp2_with fail
          go_loopw [15, 17] (fun xx jj wr => ∃ (j : Nat) (v3 : Value) (ts : List Pv), jj = .int .i64 j ∧ v3 = xx ∧ j ≤ ts.length ∧ ts.length ≤ 10 ∧ Hid (SmallP (ts.map (·.p))) ∧ HS NoD w [.dice w.heap.size bd, Item.many (PsR v1 qs), Item.many (PsR v3 ts)] wr) (fun _ jj _ => 20 - (intOf jj).toNat)
          case atStart => exact ⟨0, _, rs, rfl, rfl, Nat.zero_le _, by omega, HSR, H⟩
          case round =>
            clear H C
            obtain ⟨j, v3, ts, rfl, rfl, hj, ht, HST, H⟩ := hrel
            have HM := H.manyCons 2 rfl
            clear H
            have H := HM
            clear HM
            simp only [List.eraseIdx_cons_succ, List.eraseIdx_cons_zero, List.nil_append, List.cons_append, outerR] at H
            obtain ⟨sb, d5, rfl⟩ : ∃ sb d, v3 = .slice sb ts.length d := ownsRow_slice (H.at 2 rfl)
            skip
            try clear C
            try simp only [World.size_alloc, List.nil_append, List.cons_append, List.append_assoc] at H
            have C := H.cells
            try simp only [cellsOf, cellsM, apartOf, apartM, and_true] at C
            have qc : IntKind.i64.wrap (50 + (j : Int)) = 50 + j := IntWalk.i64_in _ (by omega)
            by_cases hlt : (ts.length : Int) < 8 + ub
            · skip
              have hd : decide ((ts.length : Int) < 8 + ub) = true := decide_eq_true hlt
              go_wp2_with fail
              refine (HMB.out _).mono ?_
              rintro _ w13 ⟨rfl, hb⟩
              replace H := H.below hb
              clear hb
              try clear C
              try simp only [World.size_alloc, List.nil_append, List.cons_append, List.append_assoc] at H
              try clear wr
              have C := H.cells
              try simp only [cellsOf, cellsM, apartOf, apartM, and_true] at C
              dsimp only
              go_wp2_with (at_builtin; refine wpList_append_H rfl (.tmp 158) (.tmp 162) 25 rfl elemPr H.alloc 2 rfl rfl 4 rfl rfl rfl rfl (by decide) (by unfold maxLen; omega) (by omega) (fun g9 c9 wz HZ => ?_); clear H C)
              simp only [List.nil_append, List.cons_append, List.append_assoc, List.set_cons_succ, List.set_cons_zero] at HZ
              go_wp2_with fail
              go_roundw
              case rel =>
                have H5 := HS.less (L' := [.dice w.heap.size bd, Item.many (PsR v1 qs), .row (.slice (some ⟨g9, 0, none⟩) (ts.length + 1) c9) 31 5 (ts.length + 1) (ts.flatMap pvC ++ pvC (⟨⟨50 + j, false, false, [], []⟩, .slice none 0 0, .slice none 0 0⟩ : Pv)), Item.many (ts.flatMap innerR)]) HZ (by repeat (first | exact .slnil | refine .cons_cons _ ?_ | refine .cons _ ?_))
                exact ⟨j + 1, _, ts ++ [_], by go_num, rfl, by simp; omega, by simp; omega, small_snoc HST.out ⟨Nat.zero_le _, Nat.zero_le _⟩ (by omega), H5.addPr rfl rfl rfl rfl⟩
              case measure => simp [intOf]; omega
            · have hd : decide ((ts.length : Int) < 8 + ub) = false := decide_eq_false hlt
              skip
              go_wp2_with fail
              refine (HMB.out _).mono ?_
              rintro _ w14 ⟨rfl, hb⟩
              replace H := H.below hb
              clear hb
              try clear C
              try simp only [World.size_alloc, List.nil_append, List.cons_append, List.append_assoc] at H
              try clear wr
              have C := H.cells
              try simp only [cellsOf, cellsM, apartOf, apartM, and_true] at C
              dsimp only
              go_wp2_with fail
              go_meet
              case rel => exact ⟨_, ts, rfl, HST, HS.shutPs (L := [_, _]) (by unfold outerR; exact H)⟩
      case rest =>
        clear H C H2 HSR hpa hta hmb hk hr0 hr8
        obtain ⟨v3, ts, rfl, HST, H⟩ := hcut
        skip
        try clear C
        try simp only [World.size_alloc, List.nil_append, List.cons_append, List.append_assoc] at H
        have C := H.cells
        try simp only [cellsOf, cellsM, apartOf, apartM, and_true] at C
        have HMF := Lib.hid (fun w => gives_ofV (mod_any frames 66 w))
        have hmf := modF_in (n := frames) (m := 66) (by decide) (by decide)
        generalize modF frames 66 = uf at HMF hmf
        have qf : IntKind.i64.wrap (uf - 1) = uf - 1 := IntWalk.i64_in _ (by omega)
        go_wp2_with fail
        refine (HMF.out _).mono ?_
        rintro _ w15 ⟨rfl, hb⟩
        replace H := H.below hb
        clear hb
        try clear C
        try simp only [World.size_alloc, List.nil_append, List.cons_append, List.append_assoc] at H
        try clear wc
        have C := H.cells
        try simp only [cellsOf, cellsM, apartOf, apartM, and_true] at C
        dsimp only
        clear HMF
        go_wp2_with fail
        go_loopw [169] (fun jj wr => ∃ (j : Nat), jj = .int .i64 j ∧ j ≤ rq.length ∧ Hid (∀ i, i < j → (rq[i]!).p.pages.length ≤ 40 ∧ (rq[i]!).p.told.length ≤ 300) ∧ HS NoD w [.dice w.heap.size bd, Item.many (PsR v1 qs), Item.many (PsR v3 ts)] wr) (fun jj _ => rq.length - (intOf jj).toNat)
        case atStart => exact ⟨0, rfl, Nat.zero_le _, fun i hi => absurd hi (Nat.not_lt_zero _), H⟩
        case round =>
          clear H C
          obtain ⟨j, rfl, hj, HSL, H⟩ := hrel
          skip
          try clear C
          try simp only [World.size_alloc, List.nil_append, List.cons_append, List.append_assoc] at H
          have C := H.cells
          try simp only [cellsOf, cellsM, apartOf, apartM, and_true] at C
          by_cases hlt : j < rq.length
          · have HI := HI2
            obtain ⟨b, o, e0, hb, hc⟩ := (H.lies HL.out).at hlt
            cases e0
            have HM := Lib.hid (map_at hlt)
            have hpv := HI.out _ (mem_at hlt)
            obtain ⟨q, hxj⟩ : ∃ q, q = rq[j]! := ⟨_, rfl⟩
            rw [← hxj] at hc hpv
            have HX := Lib.hid hxj
            obtain ⟨⟨pi, pt, pd, pg, td⟩, pa, ta⟩ := q
            obtain ⟨⟨pb, pc, e1, hpc, hpl⟩, ⟨tb, tc, e2, htc, htl⟩⟩ := hpv
            have f1 : pa = .slice pb pg.length pc := e1
            have f2 : ta = .slice tb td.length tc := e2
            clear e1 e2
            subst f1 f2
            have HPG : Hid (Lies w w.heap.size pb 3 pg.length (fun j => pgC pg[j]!)) := hpl
            have HTD : Hid (Lies w w.heap.size tb 1 td.length (fun j => iC td[j]!)) := htl
            have HPC : Hid (pg.length ≤ pc ∧ (pb = none → pc = 0)) := hpc
            have HTC : Hid (td.length ≤ tc ∧ (tb = none → tc = 0)) := htc
            clear hpc htc
            clear hpl htl
            have c0 : wr.cell? ⟨b, o + j * 5, none⟩ = some (.int .i64 pi) := hc 0 _ rfl
            have c1 : wr.cell? ⟨b, o + j * 5 + 1, none⟩ = some (.bool pt) := hc 1 _ rfl
            have c2 : wr.cell? ⟨b, o + j * 5 + 2, none⟩ = some (.bool pd) := hc 2 _ rfl
            have c3 : wr.cell? ⟨b, o + j * 5 + 3, none⟩ = some (.slice pb pg.length pc) := hc 3 _ rfl
            have c4 : wr.cell? ⟨b, o + j * 5 + 4, none⟩ = some (.slice tb td.length tc) := hc 4 _ rfl
            clear hc hxj
            go_upto_region 33 with fail
            clear c0 c1 c2 c3 c4
            generalize hwb : wr.alloc _ = w16
            replace H := HS.eqW hwb H.alloc
            try simp only [World.size_alloc, List.nil_append, List.cons_append, List.append_assoc] at H
            clear hwb
            generalize wr.heap.size = bP at H ⊢
            try clear C
            try clear wr
            have C := H.cells
            try simp only [cellsOf, cellsM, apartOf, apartM, and_true] at C
            skip
            by_cases p40 : pg.length ≤ 40
            · have p40i : decide ((40 : Int) < (pg.length : Int)) = false := decide_eq_false (by omega)
              by_cases t300 : td.length ≤ 300
              · have t300i : decide ((300 : Int) < (td.length : Int)) = false := decide_eq_false (by omega)
                go_wp2_with fail
                go_roundw
                case rel =>
                  refine ⟨j + 1, by go_num, by omega, (show Hid _ from fun i hi => ?_), HS.less H (by repeat (first | exact .slnil | refine .cons_cons _ ?_ | refine .cons _ ?_))⟩
                  rcases Nat.lt_succ_iff_lt_or_eq.1 hi with hi | rfl
                  · exact HSL.out i hi
                  · rw [← HX.out]; exact ⟨p40, t300⟩
                case measure => simp [intOf]; omega
              · have t300i : decide ((300 : Int) < (td.length : Int)) = true := decide_eq_true (by omega)
                skip
                go_wp2_with fail
                refine (HAW.out _).mono ?_
                rintro _ w17 ⟨rfl, hb⟩
                replace H := H.below hb
                clear hb
                try clear C
                try simp only [World.size_alloc, List.nil_append, List.cons_append, List.append_assoc] at H
                try clear w16
                have C := H.cells
                try simp only [cellsOf, cellsM, apartOf, apartM, and_true] at C
                dsimp only
                go_wp2_with fail
                go_ret
                exact ⟨rfl, H.done⟩
            · have p40i : decide ((40 : Int) < (pg.length : Int)) = true := decide_eq_true (by omega)
              skip
              go_wp2_with fail
              refine (HAW.out _).mono ?_
              rintro _ w18 ⟨rfl, hb⟩
              replace H := H.below hb
              clear hb
              try clear C
              try simp only [World.size_alloc, List.nil_append, List.cons_append, List.append_assoc] at H
              try clear w16
              have C := H.cells
              try simp only [cellsOf, cellsM, apartOf, apartM, and_true] at C
              dsimp only
              go_wp2_with fail
              go_ret
              exact ⟨rfl, H.done⟩
          · have HRS : Hid (SmallP raw) := by
              refine Lib.hid ⟨by rw [← HRQ.out, List.length_map]; omega, fun p hp => ?_⟩
              rw [← HRQ.out] at hp
              obtain ⟨q, hq, rfl⟩ := List.mem_map.1 hp
              obtain ⟨i, hi, rfl⟩ := List.getElem_of_mem hq
              have := HSL.out i (by omega)
              rw [getElem!_pos rq i hi] at this
              try dsimp only
              omega
            have A1 := Lib.hid (fun w h => ovalid_gen (F := 8) (v := v1) HGD.out.smallP w h)
            rw [goodB_t HGD.out] at A1
            have A2 := Lib.hid (fun w h => ovalid_gen (F := 8) (v := v3) HST.out w h)
            have A3 := Lib.hid (fun w h => rvalid_gen (F := 8) (v := v3) HST.out w h)
            have A4 := Lib.hid (fun w h => ovalid_gen (F := uf - 1) (v := v1) HGD.out.smallP w h)
            have A5 := Lib.hid (fun w h => rvalid_gen (F := uf - 1) (v := v1) HGD.out.smallP w h)
            have A6 := Lib.hid (fun w h => ovalid_gen (F := frames) (v := .slice sr rq.length cr) HRS.out w h)
            have A7 := Lib.hid (fun w h => rvalid_gen (F := frames) (v := .slice sr rq.length cr) HRS.out w h)
            generalize goodB 8 (ts.map (·.p)) = r1 at A2 A3
            generalize goodB (uf - 1) (qs.map (·.p)) = r2 at A4 A5
            generalize goodB frames raw = r3 at A6 A7
            have q1 : (r1 == r1) = true := by cases r1 <;> rfl
            have q2 : (r2 == r2) = true := by cases r2 <;> rfl
            have q3 : (r3 == r3) = true := by cases r3 <;> rfl
            skip
            go_wp2_with fail
            refine (A1.out _ (H.ownPs 1 rfl)).mono ?_
            rintro _ w19 ⟨rfl, hb⟩
            replace H := H.below hb
            clear hb
            try clear C
            try simp only [World.size_alloc, List.nil_append, List.cons_append, List.append_assoc] at H
            try clear wr
            have C := H.cells
            try simp only [cellsOf, cellsM, apartOf, apartM, and_true] at C
            dsimp only
            go_wp2_with fail
            refine (A2.out _ (H.ownPs 2 rfl)).mono ?_
            rintro _ w20 ⟨rfl, hb⟩
            replace H := H.below hb
            clear hb
            try clear C
            try simp only [World.size_alloc, List.nil_append, List.cons_append, List.append_assoc] at H
            try clear w19
            have C := H.cells
            try simp only [cellsOf, cellsM, apartOf, apartM, and_true] at C
            dsimp only
            go_wp2_with fail
            refine (A3.out _ (H.ownPs 2 rfl)).mono ?_
            rintro _ w21 ⟨rfl, hb⟩
            replace H := H.below hb
            clear hb
            try clear C
            try simp only [World.size_alloc, List.nil_append, List.cons_append, List.append_assoc] at H
            try clear w20
            have C := H.cells
            try simp only [cellsOf, cellsM, apartOf, apartM, and_true] at C
            dsimp only
            go_wp2_with fail
            refine (A4.out _ (H.ownPs 1 rfl)).mono ?_
            rintro _ w22 ⟨rfl, hb⟩
            replace H := H.below hb
            clear hb
            try clear C
            try simp only [World.size_alloc, List.nil_append, List.cons_append, List.append_assoc] at H
            try clear w21
            have C := H.cells
            try simp only [cellsOf, cellsM, apartOf, apartM, and_true] at C
            dsimp only
            go_wp2_with fail
            refine (A5.out _ (H.ownPs 1 rfl)).mono ?_
            rintro _ w23 ⟨rfl, hb⟩
            replace H := H.below hb
            clear hb
            try clear C
            try simp only [World.size_alloc, List.nil_append, List.cons_append, List.append_assoc] at H
            try clear w22
            have C := H.cells
            try simp only [cellsOf, cellsM, apartOf, apartM, and_true] at C
            dsimp only
            go_wp2_with fail
            refine (A6.out _ (H.psUp HRP.out)).mono ?_
            rintro _ w24 ⟨rfl, hb⟩
            replace H := H.below hb
            clear hb
            try clear C
            try simp only [World.size_alloc, List.nil_append, List.cons_append, List.append_assoc] at H
            try clear w23
            have C := H.cells
            try simp only [cellsOf, cellsM, apartOf, apartM, and_true] at C
            dsimp only
            go_wp2_with fail
            refine (A7.out _ (H.psUp HRP.out)).mono ?_
            rintro _ w25 ⟨rfl, hb⟩
            replace H := H.below hb
            clear hb
            try clear C
            try simp only [World.size_alloc, List.nil_append, List.cons_append, List.append_assoc] at H
            try clear w24
            have C := H.cells
            try simp only [cellsOf, cellsM, apartOf, apartM, and_true] at C
            dsimp only
            go_wp2_with fail
            refine (HAW.out _).mono ?_
            rintro _ w26 ⟨rfl, hb⟩
            replace H := H.below hb
            clear hb
            try clear C
            try simp only [World.size_alloc, List.nil_append, List.cons_append, List.append_assoc] at H
            try clear w25
            have C := H.cells
            try simp only [cellsOf, cellsM, apartOf, apartM, and_true] at C
            dsimp only
            go_wp2_with fail
            go_ret
            exact ⟨rfl, H.done⟩
    · rw [decide_eq_false h400] at hli
      have HLI := Lib.hid hli
      clear hli
      go_enter Try.func4, Try.ntmps4
      have H := HS.start NoD w
      go_wp2_with fail
      refine (gives_ofV (HLI.out _)).mono ?_
      rintro _ w1 ⟨rfl, hb⟩
      replace H := H.below hb
      clear hb
      try clear C
      try simp only [World.size_alloc, List.nil_append, List.cons_append, List.append_assoc] at H
      have C := H.cells
      try simp only [cellsOf, cellsM, apartOf, apartM, and_true] at C
      dsimp only
      go_wp2_with fail
      refine (HAW.out _).mono ?_
      rintro _ w2 ⟨rfl, hb⟩
      replace H := H.below hb
      clear hb
      try clear C
      try simp only [World.size_alloc, List.nil_append, List.cons_append, List.append_assoc] at H
      try clear w1
      have C := H.cells
      try simp only [cellsOf, cellsM, apartOf, apartM, and_true] at C
      dsimp only
      go_wp2_with fail
      go_ret
      exact ⟨rfl, H.done⟩
  · go_enter Try.func4, Try.ntmps4
    have H := HS.start NoD w
    go_wp2_with fail
    refine (HAW.out _).mono ?_
    rintro _ w1 ⟨rfl, hb⟩
    replace H := H.below hb
    clear hb
    try clear C
    try simp only [World.size_alloc, List.nil_append, List.cons_append, List.append_assoc] at H
    have C := H.cells
    try simp only [cellsOf, cellsM, apartOf, apartM, and_true] at C
    dsimp only
    go_wp2_with fail
    go_ret
    exact ⟨rfl, H.done⟩
end Go.Proofs.Ytmnddnlabdafcaa
