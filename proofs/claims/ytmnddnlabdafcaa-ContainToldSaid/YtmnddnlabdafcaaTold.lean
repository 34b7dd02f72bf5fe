/- The statement ContainTold: its walk. -/
import Derived.Test.YtmnddnlabdafcaaC5
import Derived.Test.YtmnddnlabdafcaaToLaw
import Derived.Test.YtmnddnlabdafcaaSm29
import Derived.Test.YtmnddnlabdafcaaRFind
import Derived.Test.YtmnddnlabdafcaaForks
namespace Go.Proofs.Ytmnddnlabdafcaa
set_option linter.unusedSimpArgs false
set_option linter.unusedVariables false
open Go.RowKit
set_option maxRecDepth 100000
attribute [local go_sem] lt_more ne_more ne_more'
attribute [local irreducible] wpX wpF Calls

/-- One program of a slice, as a slice. -/
theorem Ps.one {w : World} {B c g o n : Nat} {ps : List Pr} (h : Ps w B (.slice (some ⟨g, o, none⟩) n c) ps) {i : Nat} (hi : i < ps.length) {d : Nat} (hd : 1 ≤ d) : Ps w B (.slice (some ⟨g, o + i * 5, none⟩) 1 d) [ps[i]!] := by
  obtain ⟨qs, hqs, ⟨sb, d', e, hc, hl⟩, hin⟩ := h
  have hlen : qs.length = ps.length := by rw [← hqs]; simp
  have hi2 : i < qs.length := by omega
  injection e with e1 e2 e3
  subst e1 e3
  refine ⟨[qs[i]!], by rw [← hqs, map_at hi2]; rfl, ⟨_, _, rfl, ⟨hd, fun e => by cases e⟩, ?_⟩, fun q hq => ?_⟩
  · intro j hj
    obtain rfl : j = 0 := by simpa using hj
    obtain ⟨b, o', e, h1, h2⟩ := hl.at hi2
    injection e with e
    injection e with e1 e2
    subst e1 e2
    refine ⟨_, _, rfl, h1, fun m u hu => ?_⟩
    rw [Nat.zero_mul, Nat.add_zero]
    exact h2 m u hu
  · obtain rfl : q = qs[i]! := by simpa using hq
    exact hin _ (mem_at hi2)
theorem neqPgT {a b c d : Int} (s t : Bool) (h : a ≠ c) (w : World) : (binOp .neq 37 (.agg #[.int .i64 a, .int .i64 b, .bool s]) (.agg #[.int .i64 c, .int .i64 d, .bool t])).run Try.prog w = .ok (.bool true) w := by
  have hb : (a == c) = false := beq_eq_false_iff_ne.2 h
  go_simp
theorem small_one {p : Pr} (h : p.pages.length ≤ 1000 ∧ p.told.length ≤ 1000) : SmallP [p] := ⟨by simp, fun q hq => by rw [List.mem_singleton.1 hq]; exact h⟩
theorem HS.toldLies {D : Nat → Prop} {W w : World} {L : List Item} (h : HS D W L w) (j : Nat) {qs : List Pv} (hj : L[j]? = some (.many (qs.flatMap innerR))) {k : Nat} (hk : k < qs.length) {p : Pr} {tb : Option Addr} {tc : Nat} {pa : Value} (e : qs[k]! = ⟨p, pa, .slice tb p.told.length tc⟩) : Lies w w.heap.size tb 1 p.told.length (fun j => iC p.told[j]!) := by
  have h1 := innerAt (h.manyOks j hj) _ (mem_at hk)
  rw [e] at h1
  obtain ⟨-, ⟨sa, c, e1, hc, hl⟩⟩ := h1
  injection e1 with e1 e2 e3
  rw [e1]
  exact hl
set_option maxHeartbeats 16000000 in
theorem told_walk (sa : Option Addr) (len cap : Nat) (hl : len ≤ maxLen) (which : Int) (w : World) (hI : Ints w sa len) :
    Calls Try.prog 12 #[.slice sa len cap, .int .i64 which] w (Gives (.bool true) w) := by
  have HI := Lib.hid hI
  clear hI
  have hli := light_any sa len cap hl
  clear hl
  have HAW := Lib.hid awake33_any
  by_cases h400 : len ≤ 400
  · rw [decide_eq_true h400] at hli
    have HLI := Lib.hid hli
    clear hli
    go_enter Try.func12, Try.ntmps12
    have H := HS.start NoD w
    go_wp2_with fail
    refine (gives_of (HLI.out _)).mono ?_
    rintro _ w1 ⟨rfl, hb⟩
    replace H := H.below hb
    clear hb
    try clear C
    try simp only [World.size_alloc, List.nil_append, List.cons_append, List.append_assoc] at H
    have C := H.cells
    try simp only [cellsOf, cellsM, apartOf, apartM, and_true] at C
    dsimp only
    go_wp2_with fail
    refine (roll_at w.heap.size _ _ _ h400 _ H.size (H.ints HI.out)).mono ?_
    rintro _ w2 ⟨bd, rfl, hd, hb, hbb⟩
    replace H := H.getsDice hb hd hbb (Nat.le_refl _)
    clear hb hd hbb
    try clear C
    try simp only [World.size_alloc, List.nil_append, List.cons_append, List.append_assoc] at H
    try clear w1
    have C := H.cells
    try simp only [cellsOf, cellsM, apartOf, apartM, and_true] at C
    dsimp only
    go_wp2_with fail
    refine (mheld_any w.heap.size bd _ (H.at 0 rfl) H.size).mono ?_
    rintro _ w2 ⟨v1, F, u, qs, rfl, hhe, K⟩
    replace H := HS.joinDice H 0 rfl K (fun A hA => by simp only [List.mem_cons, List.mem_nil_iff, or_false] at hA; rcases hA with rfl | rfl <;> rfl)
    clear K
    simp only [List.nil_append, List.cons_append] at H
    have hF1 := hhe.fr.low
    have hF2 := hhe.fr.high
    obtain ⟨sf, cf, rfl⟩ := ownsRow_slice (H.at 1 rfl)
    have h3 := hhe.pr.three
    have hgl := hhe.pr.good.len
    rw [List.length_map] at h3 hgl
    have HHE := Lib.hid hhe
    clear hhe
    obtain ⟨g, d, rfl, hcap, H⟩ := H.openPs 2 rfl (by omega)
    simp only [List.eraseIdx_cons_succ, List.eraseIdx_cons_zero, List.nil_append, List.cons_append] at H
    skip
    try clear C
    try simp only [World.size_alloc, List.nil_append, List.cons_append, List.append_assoc] at H
    have C := H.cells
    try simp only [cellsOf, cellsM, apartOf, apartM, and_true] at C
    dsimp only
    obtain ⟨md, hmd⟩ : ∃ md, md = modF which qs.length := ⟨_, rfl⟩
    have hmc : ∀ w, Calls Try.prog 17 #[.int .i64 which, .int .i64 qs.length] w (Gives (.int .i64 md) w) := fun w => by rw [hmd]; exact gives_of (mod_any _ _ _)
    have hmb := modF_in (n := which) (m := qs.length) (by omega) (by omega)
    rw [← hmd] at hmb
    clear hmd
    obtain ⟨k, rfl⟩ : ∃ k : Nat, md = k := ⟨md.toNat, by omega⟩
    have hk : k < qs.length := by omega
    have HMC := Lib.hid hmc
    clear hmc hmb
    go_wp2_with fail
    refine (HMC.out _).mono ?_
    rintro _ w3 ⟨rfl, hb⟩
    replace H := H.below hb
    clear hb
    try clear C
    try simp only [World.size_alloc, List.nil_append, List.cons_append, List.append_assoc] at H
    try clear w2
    have C := H.cells
    try simp only [cellsOf, cellsM, apartOf, apartM, and_true] at C
    dsimp only
    clear HMC
    have hpf := H.pvForm 3 rfl hk
    obtain ⟨pb, pc, tb, tc, hpf⟩ := hpf
    have hmap := map_at hk
    obtain ⟨ps, hps⟩ : ∃ ps, ps = qs.map (·.p) := ⟨_, rfl⟩
    have hpl : ps.length = qs.length := by rw [hps]; simp
    rw [← hps] at HHE hmap
    have HPS := Lib.hid hps.symm
    clear hps
    obtain ⟨p, hp⟩ : ∃ p, p = (qs[k]!).p := ⟨_, rfl⟩
    rw [← hp] at hpf hmap
    clear hp
    have HPF := Lib.hid hpf
    have HPE := Lib.hid hmap
    clear hpf hmap
    have hg1 := HHE.out.pr.good.one _ (at_mem (show k < ps.length by omega))
    rw [HPE.out] at hg1
    obtain ⟨pi, pt, pd, pg, td⟩ := p
    have hp16 : pg.length ≤ 16 := hg1.plen
    clear hg1
    dsimp only at HPF
    have k0 : w3.cell? ⟨g, k * 5, none⟩ = some (.int .i64 pi) := (H.outerCell 2 rfl rfl hk (m := 0) (by decide) (by rw [HPF.out]; rfl)).1
    have k1 := (H.outerCell 2 rfl rfl hk (m := 1) (u := .bool pt) (by decide) (by rw [HPF.out]; rfl)).1
    have k2 := (H.outerCell 2 rfl rfl hk (m := 2) (u := .bool pd) (by decide) (by rw [HPF.out]; rfl)).1
    have k3 := (H.outerCell 2 rfl rfl hk (m := 3) (u := .slice pb pg.length pc) (by decide) (by rw [HPF.out]; rfl)).1
    have k4 := (H.outerCell 2 rfl rfl hk (m := 4) (u := .slice tb td.length tc) (by decide) (by rw [HPF.out]; rfl)).1
    go_upto_region 6 with fail
    clear k0 k1 k2 k3 k4
    generalize hwb : w3.alloc _ = w4
    replace H := HS.eqW hwb H.alloc
    try simp only [World.size_alloc, List.nil_append, List.cons_append, List.append_assoc] at H
    clear hwb
    generalize w3.heap.size = bP at H ⊢
    try clear C
    try clear w3
    have C := H.cells
    try simp only [cellsOf, cellsM, apartOf, apartM, and_true] at C
    by_cases hz : (pg.length : Int) = 0
    · skip
      go_wp2_with fail
      refine (HAW.out _).mono ?_
      rintro _ w5 ⟨rfl, hb⟩
      replace H := H.below hb
      clear hb
      try clear C
      try simp only [World.size_alloc, List.nil_append, List.cons_append, List.append_assoc] at H
      try clear w4
      have C := H.cells
      try simp only [cellsOf, cellsM, apartOf, apartM, and_true] at C
      dsimp only
      go_wp2_with fail
      go_ret
      exact ⟨rfl, H.done⟩
    · skip
      obtain ⟨md, hmd⟩ : ∃ md, md = modF (IntKind.i64.wrap (which.tdiv 8)) pg.length := ⟨_, rfl⟩
      have hmc : ∀ w, Calls Try.prog 17 #[.int .i64 (IntKind.i64.wrap (which.tdiv 8)), .int .i64 pg.length] w (fun e w' => e = .returned (.int .i64 md) ∧ w = w') := fun w => by rw [hmd]; exact mod_any _ _ _
      have hmb := modF_in (n := IntKind.i64.wrap (which.tdiv 8)) (m := pg.length) (by omega) (by omega)
      rw [← hmd] at hmb
      clear hmd
      obtain ⟨m, rfl⟩ : ∃ k : Nat, md = k := ⟨md.toNat, by omega⟩
      have hlk : m < pg.length := by omega
      have HMM := Lib.hid hmc
      clear hmc hmb
      obtain ⟨bg, og, e9, hbg, hcg⟩ := (H.pagesLies 3 rfl hk HPF.out).at hlk
      obtain rfl : pb = some ⟨bg, og, none⟩ := e9
      obtain ⟨xo, hxo⟩ : ∃ x, x = pg[m]! := ⟨_, rfl⟩
      have HXO := Lib.hid hxo
      rw [← hxo] at hcg
      clear hxo
      obtain ⟨xn, xf, xs⟩ := xo
      have y0 : w4.cell? ⟨bg, og + m * 3, none⟩ = some (.int .i64 xn) := hcg 0 _ rfl
      have y1 : w4.cell? ⟨bg, og + m * 3 + 1, none⟩ = some (.int .i64 xf) := hcg 1 _ rfl
      have y2 : w4.cell? ⟨bg, og + m * 3 + 2, none⟩ = some (.bool xs) := hcg 2 _ rfl
      have q1 : (bg = (w4).heap.size) = False := eq_false (by omega)
      have q2 : ((w4).heap.size = bg) = False := eq_false (by omega)
      clear hcg
      go_upto_region 8 with fail
      go_cut [9, 39] from 41 to 50 (fun y _ wx => ∃ bY, y = .pointer (some ⟨bY, 0, none⟩) ∧ HS NoD w [.dice w.heap.size bd, .row (.slice sf F.length cf) 66 2 F.length (F.flatMap frC), .row (.slice (some ⟨g, 0, none⟩) qs.length d) 31 5 qs.length (qs.flatMap pvC), Item.many (qs.flatMap innerR), .blk bP #[.int .i64 pi, .bool pt, .bool pd, .slice (some ⟨bg, og, none⟩) pg.length pc, .slice tb td.length tc] 31, .blk bY #[.int .i64 xn, .int .i64 xf, .bool xs] 37] wx)
      case first =>
        go_region_law (go_simp; go_at_call 17; refine (HMM.out _).mono ?_; rintro _ _ ⟨rfl, rfl⟩)
        all_goals go_wp2_with fail
        all_goals go_meet
        all_goals refine ⟨_, rfl, ?_⟩
        all_goals first
          | exact H.drew.alloc
          | exact (H.drew.alloc (cs := #[.int .i64 0, .int .i64 0, .bool false]) (t := 37)).putAll (i := 5) rfl (vs := [.int .i64 xn, .int .i64 xf, .bool xs]) rfl rfl
      case rest =>
        clear H C y0 y1 y2 q1 q2 HMM
        obtain ⟨bY, rfl, H⟩ := hcut
        have hto := told_law HHE.out (show k < ps.length by omega) HPE.out hlk HXO.out.symm
        obtain ⟨hdd, htt, happ, hgd, hfd, hap⟩ := hto
        subst hdd htt
        dsimp only [List.length_nil] at H ⊢
        obtain ⟨X, hX⟩ : ∃ X, X = ps.set k ⟨pi, pt, false, pg.eraseIdx m, [xn]⟩ := ⟨_, rfl⟩
        have HAP := Lib.hid (fun w hl hp => capply_any HHE.out.fr HHE.out.pr.good ⟨4, xf, 0, pi, xn⟩ (sa := sf) cf (v := .slice (some ⟨g, 0, none⟩) qs.length d) w hl hp)
        rw [happ, ← hX] at HAP
        rw [← hX] at hgd hfd
        have hXl : X.length = ps.length := by rw [hX, List.length_set]
        have HXK := Lib.hid (show X[k]! = ⟨pi, pt, false, pg.eraseIdx m, [xn]⟩ by rw [hX]; exact set_bang _ (by omega))
        have HXJ := Lib.hid (show ∀ j, j < ps.length → j ≠ k → X[j]! = ps[j]! from fun j hj hne => by rw [hX]; exact set_bang_ne _ (by omega) (by omega))
        have HGD := Lib.hid hgd
        have HFD := Lib.hid hfd
        have HAT := Lib.hid hap
        obtain ⟨pl, hpl1⟩ : ∃ l, pg.length = l + 1 := ⟨pg.length - 1, by omega⟩
        have hel : (pg.eraseIdx m).length = pl := by rw [List.length_eraseIdx_of_lt hlk]; omega
        have HEL := Lib.hid hel
        have HPL1 := Lib.hid hpl1
        have hwp : IntKind.i64.wrap ((pg.length : Int) - 1) = pl := by rw [IntWalk.i64_in _ (by omega)]; omega
        clear hpl1 happ hX hgd hfd hap hel
        skip
        try clear C
        try simp only [World.size_alloc, List.nil_append, List.cons_append, List.append_assoc] at H
        have C := H.cells
        try simp only [cellsOf, cellsM, apartOf, apartM, and_true] at C
        go_wp2_with fail
        refine (HAP.out _ (H.rowLies 1 frC_len rfl rfl) (by have := H.ownPs2 2 3 rfl rfl rfl; rw [HPS.out] at this; exact this)).mono ?_
        rintro _ w7 ⟨fv, pv, rs, rfl, hrs, K⟩
        have H2 := Lib.hid (show rs.map (·.p) = X from hrs)
        have hrl : rs.length = qs.length := by rw [← hpl, ← hXl, ← H2.out]; simp
        clear hrs HAP
        replace H := H.join K (fun A hA => by simp only [List.mem_cons, List.mem_nil_iff, or_false] at hA; rcases hA with rfl | rfl <;> rfl)
        clear K
        simp only [List.nil_append, List.cons_append] at H
        obtain ⟨sx, cx, rfl⟩ := ownsRow_slice (H.at 6 rfl)
        obtain ⟨g2, d2, rfl, hcap2, H⟩ := H.openPs 7 rfl (by omega)
        simp only [List.eraseIdx_cons_succ, List.eraseIdx_cons_zero, List.nil_append, List.cons_append] at H
        have hpf2 := H.pvForm 8 rfl (show k < rs.length by omega)
        obtain ⟨pb2, pc2, tb2, tc2, hpf2⟩ := hpf2
        have hch : (rs[k]!).p = ⟨pi, pt, false, pg.eraseIdx m, [xn]⟩ := by
          have := HXK.out
          rw [← H2.out, map_at (show k < rs.length by omega)] at this
          exact this
        rw [hch] at hpf2
        dsimp only at hpf2
        rw [HEL.out] at hpf2
        have HPF2 := Lib.hid hpf2
        have hq2 : (rs[k]!).p.pages = pg.eraseIdx m := by rw [hch]
        clear hpf2 hch hq2
        rw [hrl] at H hcap2
        have HR2 := Lib.hid hrl
        clear hrl
        rw [HR2.out]
        skip
        try clear C
        try simp only [World.size_alloc, List.nil_append, List.cons_append, List.append_assoc] at H
        have C := H.cells
        try simp only [cellsOf, cellsM, apartOf, apartM, and_true] at C
        dsimp only
        have HSM := Lib.hid (fun w hl hm => same28_of (xs := F) (by omega) cx cf (sa := sx) (sb := sf) w hl hm)
        go_upto_region 10 with fail
        refine wp_region_xH (by kernel_rfl) (by kernel_rfl) (by kernel_rfl) (by kernel_rfl) (fun _ => False) (H) ?_
        clear H; intro w6 H hz0 hs0
        try clear C
        try simp only [World.size_alloc, List.nil_append, List.cons_append, List.append_assoc] at H hz0
        clear hz0
        try clear w7
        have C := H.cells
        try simp only [cellsOf, cellsM, apartOf, apartM, and_true] at C
        have Z := H.zs
        try simp only [ltsOf, ltsM, and_true] at Z
        have hz0 := Nat.le_refl w6.heap.size
        have hg2 : g2 < w6.heap.size := Item.lt (H.at 7 rfl) (k := g2) rfl
        have htl := (H.toldLies 8 rfl (show k < rs.length by rw [HR2.out]; exact hk) (p := ⟨pi, pt, false, pg.eraseIdx m, [xn]⟩) HPF2.out).at (j := 0) (by simp)
        obtain ⟨bt, ot, e9, hbt, hct⟩ := htl
        obtain rfl : tb2 = some ⟨bt, ot, none⟩ := e9
        clear hct
        repeat (first | (refine wpX_skip rfl ?_; go_simp) | (refine wpX_free rfl rfl rfl (fun K hK => ?_); go_step; refine hK _ _ ?_; clear hK K) | (refine wpX_load rfl rfl rfl (by simp [Stay, OneD, NoD, *]) hs0 (by simp [*]) (fun K hK => ?_); go_step; refine hK _ _ ?_; clear hK K))
        refine wpX_eff rfl rfl (fun _ _ => ?_)
        go_step
        refine (HSM.out _ (H.rowLies 6 frC_len rfl rfl) (H.rowLies 1 frC_len rfl rfl)).mono ?_
        rintro _ w7 ⟨rfl, hb⟩
        replace hs0 := hs0.belowS hz0 hb
        replace hz0 := Nat.le_trans hz0 hb.size
        replace H := H.below hb
        clear hb
        try clear C
        have C := H.cells
        try simp only [cellsOf, cellsM, apartOf, apartM, and_true] at C
        try clear w6
        dsimp only
        go_step
        refine ⟨hs0, ?_⟩
        have e2 := (H.outerCell 7 rfl HR2.out.symm (i := k) (m := 2) (u := .bool false) (by rw [HR2.out]; omega) (by decide) (by rw [HPF2.out]; rfl)).1
        have e3 := (H.outerCell 7 rfl HR2.out.symm (i := k) (m := 3) (u := .slice pb2 pl pc2) (by rw [HR2.out]; omega) (by decide) (by rw [HPF2.out]; rfl)).1
        have e4 := (H.outerCell 7 rfl HR2.out.symm (i := k) (m := 4) (u := .slice (some ⟨bt, ot, none⟩) 1 tc2) (by rw [HR2.out]; omega) (by decide) (by rw [HPF2.out]; rfl)).1
        have htl2 := (H.toldLies 8 rfl (show k < rs.length by rw [HR2.out]; exact hk) (p := ⟨pi, pt, false, pg.eraseIdx m, [xn]⟩) HPF2.out).at (j := 0) (by simp)
        obtain ⟨bt', ot', e9, -, hct⟩ := htl2
        obtain ⟨rfl, rfl⟩ : bt = bt' ∧ ot = ot' := by simpa using e9
        have t0 : w7.cell? ⟨bt, ot, none⟩ = some (.int .i64 xn) := by have := hct 0 _ rfl; simpa using this
        clear hct e9
        repeat (first | (refine wpX_skip rfl ?_; go_simp) | (refine wpX_free rfl rfl rfl (fun K hK => ?_); go_step; refine hK _ _ ?_; clear hK K) | (refine wpX_load rfl rfl rfl (by simp [Stay, OneD, NoD, *]) hs0 (by simp [*]) (fun K hK => ?_); go_step; refine hK _ _ ?_; clear hK K))
        (refine wpX_nil ?_; go_step)
        clear e2 e3 e4 t0 hg2 hbt
        replace H := H.less (L' := [.dice w.heap.size bd, .row (.slice (some ⟨g, 0, none⟩) qs.length d) 31 5 qs.length (qs.flatMap pvC), Item.many (qs.flatMap innerR), .blk bP #[.int .i64 pi, .bool pt, .bool false, .slice (some ⟨bg, og, none⟩) pg.length pc, .slice tb 0 tc] 31, .blk bY #[.int .i64 xn, .int .i64 xf, .bool xs] 37, .row (.slice (some ⟨g2, 0, none⟩) qs.length d2) 31 5 qs.length (rs.flatMap pvC), Item.many (rs.flatMap innerR)]) (by repeat (first | exact .slnil | refine .cons_cons _ ?_ | refine .cons _ ?_))
        try clear C
        try clear C
        try simp only [World.size_alloc, List.nil_append, List.cons_append, List.append_assoc] at H
        have C := H.cells
        try simp only [cellsOf, cellsM, apartOf, apartM, and_true] at C
        go_wp2_with fail
        go_loopw [130] (fun jj wr => ∃ (j : Nat), jj = .int .i64 j ∧ j ≤ qs.length ∧ HS NoD w [.dice w.heap.size bd, .row (.slice (some ⟨g, 0, none⟩) qs.length d) 31 5 qs.length (qs.flatMap pvC), Item.many (qs.flatMap innerR), .blk bP #[.int .i64 pi, .bool pt, .bool false, .slice (some ⟨bg, og, none⟩) pg.length pc, .slice tb 0 tc] 31, .blk bY #[.int .i64 xn, .int .i64 xf, .bool xs] 37, .row (.slice (some ⟨g2, 0, none⟩) qs.length d2) 31 5 qs.length (rs.flatMap pvC), Item.many (rs.flatMap innerR)] wr) (fun jj _ => qs.length - (intOf jj).toNat)
        case atStart => exact ⟨0, rfl, Nat.zero_le _, H⟩
        case round =>
          clear H C
          obtain ⟨j, rfl, hj, H⟩ := hrel
          skip
          try clear C
          try simp only [World.size_alloc, List.nil_append, List.cons_append, List.append_assoc] at H
          have C := H.cells
          try simp only [cellsOf, cellsM, apartOf, apartM, and_true] at C
          by_cases hlt : j < qs.length
          · by_cases hjk : j = k
            · subst hjk
              have hjb : ((j : Int) != j) = false := by simp
              go_upto_region 15 with fail
              refine wp_region_xH (by kernel_rfl) (by kernel_rfl) (by kernel_rfl) (by kernel_rfl) (fun _ => False) (H) ?_
              clear H; intro w8 H hz0 hs0
              try clear C
              try simp only [World.size_alloc, List.nil_append, List.cons_append, List.append_assoc] at H hz0
              clear hz0
              try clear wr
              have C := H.cells
              try simp only [cellsOf, cellsM, apartOf, apartM, and_true] at C
              have Z := H.zs
              try simp only [ltsOf, ltsM, and_true] at Z
              have hz0 := Nat.le_refl w8.heap.size
              repeat (first | (refine wpX_skip rfl ?_; go_simp) | (refine wpX_free rfl rfl rfl (fun K hK => ?_); go_step; refine hK _ _ ?_; clear hK K) | (refine wpX_load rfl rfl rfl (by simp [Stay, OneD, NoD, *]) hs0 (by simp [*]) (fun K hK => ?_); go_step; refine hK _ _ ?_; clear hK K))
              (refine wpX_nil ?_; go_step)
              go_wp2_with fail
              go_roundw
              case rel => exact ⟨j + 1, by go_num, by omega, H⟩
              case measure => simp [intOf]; omega
            · have hjb : ((j : Int) != k) = true := bne_iff_ne.2 (by omega)
              have hj1 : (j : Int) + 1 ≤ d := by omega
              have hj2 : (j : Int) + 1 ≤ d2 := by omega
              have hj3 : 0 ≤ (j : Int) + 1 := by omega
              have hj4 : (j : Int) ≤ (j : Int) + 1 := by omega
              have hjw : IntKind.i64.wrap ((j : Int) + 1) = (j : Int) + 1 := IntWalk.i64_in _ (by omega)
              have hd1 : (d = j) = False := eq_false (by omega)
              have hd2 : (d2 = j) = False := eq_false (by omega)
              have HS9 := Lib.hid (fun w h1 h2 => same29_of (ps := [ps[j]!]) (small_one (HHE.out.pr.good.smallP.2 _ (at_mem (show j < ps.length by omega)))) (v1 := .slice (some ⟨g2, j * 5, none⟩) 1 (d2 - j)) (v2 := .slice (some ⟨g, j * 5, none⟩) 1 (d - j)) w h1 h2)
              go_upto_region 15 with fail
              refine wp_region_xH (by kernel_rfl) (by kernel_rfl) (by kernel_rfl) (by kernel_rfl) (fun _ => False) (H) ?_
              clear H; intro w9 H hz0 hs0
              try clear C
              try simp only [World.size_alloc, List.nil_append, List.cons_append, List.append_assoc] at H hz0
              clear hz0
              try clear w8
              have C := H.cells
              try simp only [cellsOf, cellsM, apartOf, apartM, and_true] at C
              have Z := H.zs
              try simp only [ltsOf, ltsM, and_true] at Z
              have hz0 := Nat.le_refl w9.heap.size
              repeat (first | (refine wpX_skip rfl ?_; go_simp) | (refine wpX_free rfl rfl rfl (fun K hK => ?_); go_step; refine hK _ _ ?_; clear hK K) | (refine wpX_load rfl rfl rfl (by simp [Stay, OneD, NoD, *]) hs0 (by simp [*]) (fun K hK => ?_); go_step; refine hK _ _ ?_; clear hK K))
              (refine wpX_yield rfl rfl (.slice (some ⟨g2, j * 5, none⟩) 1 (d2 - j)) (fun w hw => by go_simp) ?_; go_simp)
              repeat (first | (refine wpX_skip rfl ?_; go_simp) | (refine wpX_free rfl rfl rfl (fun K hK => ?_); go_step; refine hK _ _ ?_; clear hK K) | (refine wpX_load rfl rfl rfl (by simp [Stay, OneD, NoD, *]) hs0 (by simp [*]) (fun K hK => ?_); go_step; refine hK _ _ ?_; clear hK K))
              (refine wpX_yield rfl rfl (.slice (some ⟨g, j * 5, none⟩) 1 (d - j)) (fun w hw => by go_simp) ?_; go_simp)
              refine wpX_eff rfl rfl (fun _ _ => ?_)
              go_step
              refine (HS9.out _ (by have := Ps.one (H.ownPs2 5 6 rfl HR2.out.symm rfl) (i := j) (by rw [List.length_map, HR2.out]; exact hlt) (d := d2 - j) (by omega); rw [H2.out, HXJ.out j (by omega) hjk, Nat.zero_add] at this; exact this) (by have := Ps.one (H.ownPs2 1 2 rfl rfl rfl) (i := j) (by rw [List.length_map]; exact hlt) (d := d - j) (by omega); rw [HPS.out, Nat.zero_add] at this; exact this)).mono ?_
              rintro _ w10 ⟨rfl, hb⟩
              replace hs0 := hs0.belowS hz0 hb
              replace hz0 := Nat.le_trans hz0 hb.size
              replace H := H.below hb
              clear hb
              try clear C
              have C := H.cells
              try simp only [cellsOf, cellsM, apartOf, apartM, and_true] at C
              try clear w9
              dsimp only
              go_step
              refine ⟨hs0, ?_⟩
              repeat (first | (refine wpX_skip rfl ?_; go_simp) | (refine wpX_free rfl rfl rfl (fun K hK => ?_); go_step; refine hK _ _ ?_; clear hK K) | (refine wpX_load rfl rfl rfl (by simp [Stay, OneD, NoD, *]) hs0 (by simp [*]) (fun K hK => ?_); go_step; refine hK _ _ ?_; clear hK K))
              (refine wpX_nil ?_; go_step)
              go_wp2_with fail
              go_roundw
              case rel => exact ⟨j + 1, by go_num, by omega, H⟩
              case measure => simp [intOf]; omega
          · skip
            go_wp2_with fail
            clear hlt hj
            go_loopw [154] (fun jj wr => ∃ (j : Nat), jj = .int .i64 j ∧ j ≤ pg.length ∧ HS NoD w [.dice w.heap.size bd, .row (.slice (some ⟨g, 0, none⟩) qs.length d) 31 5 qs.length (qs.flatMap pvC), Item.many (qs.flatMap innerR), .blk bP #[.int .i64 pi, .bool pt, .bool false, .slice (some ⟨bg, og, none⟩) pg.length pc, .slice tb 0 tc] 31, .blk bY #[.int .i64 xn, .int .i64 xf, .bool xs] 37, .row (.slice (some ⟨g2, 0, none⟩) qs.length d2) 31 5 qs.length (rs.flatMap pvC), Item.many (rs.flatMap innerR)] wr) (fun jj _ => pg.length - (intOf jj).toNat)
            case atStart => exact ⟨0, rfl, Nat.zero_le _, H⟩
            case round =>
              clear H C
              obtain ⟨j, rfl, hj, H⟩ := hrel
              skip
              try clear C
              try simp only [World.size_alloc, List.nil_append, List.cons_append, List.append_assoc] at H
              have C := H.cells
              try simp only [cellsOf, cellsM, apartOf, apartM, and_true] at C
              by_cases hlt : j < pg.length
              · obtain ⟨bh, oh, e8, hbh, hch⟩ := (H.pagesLies 2 rfl hk HPF.out).at hlt
                obtain ⟨rfl, rfl⟩ : bg = bh ∧ og = oh := by simpa using e8
                obtain ⟨yo, hyo⟩ : ∃ x, x = pg[j]! := ⟨_, rfl⟩
                have HYO := Lib.hid hyo
                rw [← hyo] at hch
                clear hyo
                obtain ⟨yn, yf, ys⟩ := yo
                have y0 : wr.cell? ⟨bg, og + j * 3, none⟩ = some (.int .i64 yn) := hch 0 _ rfl
                have y1 : wr.cell? ⟨bg, og + j * 3 + 1, none⟩ = some (.int .i64 yf) := hch 1 _ rfl
                have y2 : wr.cell? ⟨bg, og + j * 3 + 2, none⟩ = some (.bool ys) := hch 2 _ rfl
                clear hch e8
                have hfj := HFD.out j hlt
                have HFI := Lib.hid (fun v w h => rFind_any pi yn (v := v) HGD.out.smallP w h)
                rw [← HYO.out] at hfj
                dsimp only at hfj
                rw [hfj] at HFI
                clear hfj
                go_upto_region 21 with fail
                clear y0 y1 y2
                generalize hwb : wr.alloc _ = w11
                replace H := HS.eqW hwb H.alloc
                try simp only [World.size_alloc, List.nil_append, List.cons_append, List.append_assoc] at H
                clear hwb
                generalize wr.heap.size = bZ at H ⊢
                try clear C
                try clear wr
                have C := H.cells
                try simp only [cellsOf, cellsM, apartOf, apartM, and_true] at C
                by_cases hjm : j = m
                · have e7 : yn = xn ∧ yf = xf ∧ ys = xs := by have := HYO.out; rw [hjm, ← HXO.out] at this; simpa using this
                  obtain ⟨rfl, rfl, rfl⟩ := e7
                  rw [if_pos hjm] at HFI
                  dsimp only [vPg] at HFI
                  go_wp2_with fail
                  refine (HFI.out _ _ (by have := H.ownPs2 5 6 rfl HR2.out.symm rfl; rw [H2.out] at this; exact this)).mono ?_
                  rintro _ w12 ⟨rfl, hb⟩
                  replace H := H.below hb
                  clear hb
                  try clear C
                  try simp only [World.size_alloc, List.nil_append, List.cons_append, List.append_assoc] at H
                  try clear w11
                  have C := H.cells
                  try simp only [cellsOf, cellsM, apartOf, apartM, and_true] at C
                  dsimp only
                  go_wp2_with fail
                  go_roundw
                  case rel => exact ⟨m + 1, by go_num, by omega, HS.less (L' := [.dice w.heap.size bd, .row (.slice (some ⟨g, 0, none⟩) qs.length d) 31 5 qs.length (qs.flatMap pvC), Item.many (qs.flatMap innerR), .blk bP #[.int .i64 pi, .bool pt, .bool false, .slice (some ⟨bg, og, none⟩) pg.length pc, .slice tb 0 tc] 31, .blk bY #[.int .i64 yn, .int .i64 yf, .bool ys] 37, .row (.slice (some ⟨g2, 0, none⟩) qs.length d2) 31 5 qs.length (rs.flatMap pvC), Item.many (rs.flatMap innerR)]) H.alloc (by repeat (first | exact .slnil | refine .cons_cons _ ?_ | refine .cons _ ?_))⟩
                  case measure => simp [intOf]; omega
                · rw [if_neg hjm] at HFI
                  dsimp only [vPg] at HFI
                  have hyn := HAT.out j hlt hjm
                  rw [← HYO.out] at hyn
                  dsimp only at hyn
                  have hp9 := fun w => neqPgT (b := yf) (d := xf) ys xs hyn w
                  have hp8 := fun w => neqPg yn yf ys w
                  go_wp2_with fail
                  refine (HFI.out _ _ (by have := H.ownPs2 5 6 rfl HR2.out.symm rfl; rw [H2.out] at this; exact this)).mono ?_
                  rintro _ w13 ⟨rfl, hb⟩
                  replace H := H.below hb
                  clear hb
                  try clear C
                  try simp only [World.size_alloc, List.nil_append, List.cons_append, List.append_assoc] at H
                  try clear w12
                  have C := H.cells
                  try simp only [cellsOf, cellsM, apartOf, apartM, and_true] at C
                  dsimp only
                  go_wp2_with fail
                  go_roundw
                  case rel => exact ⟨j + 1, by go_num, by omega, HS.less (L' := [.dice w.heap.size bd, .row (.slice (some ⟨g, 0, none⟩) qs.length d) 31 5 qs.length (qs.flatMap pvC), Item.many (qs.flatMap innerR), .blk bP #[.int .i64 pi, .bool pt, .bool false, .slice (some ⟨bg, og, none⟩) pg.length pc, .slice tb 0 tc] 31, .blk bY #[.int .i64 xn, .int .i64 xf, .bool xs] 37, .row (.slice (some ⟨g2, 0, none⟩) qs.length d2) 31 5 qs.length (rs.flatMap pvC), Item.many (rs.flatMap innerR)]) H.alloc (by repeat (first | exact .slnil | refine .cons_cons _ ?_ | refine .cons _ ?_))⟩
                  case measure => simp [intOf]; omega
              · go_wp2_with fail
                refine (HAW.out _).mono ?_
                rintro _ w14 ⟨rfl, hb⟩
                replace H := H.below hb
                clear hb
                try clear C
                try simp only [World.size_alloc, List.nil_append, List.cons_append, List.append_assoc] at H
                try clear w13
                have C := H.cells
                try simp only [cellsOf, cellsM, apartOf, apartM, and_true] at C
                dsimp only
                go_wp2_with fail
                go_ret
                exact ⟨rfl, H.done⟩
  · rw [decide_eq_false h400] at hli
    have HLI := Lib.hid hli
    clear hli
    go_enter Try.func12, Try.ntmps12
    have H := HS.start NoD w
    go_wp2_with fail
    refine (gives_of (HLI.out _)).mono ?_
    rintro _ w1 ⟨rfl, hb⟩
    replace H := H.below hb
    clear hb
    try clear C
    try simp only [World.size_alloc, List.nil_append, List.cons_append, List.append_assoc] at H
    have C := H.cells
    try simp only [cellsOf, cellsM, apartOf, apartM, and_true] at C
    dsimp only
    go_wp2_with fail
    refine (HAW.out _).mono ?_
    rintro _ w2 ⟨rfl, hb⟩
    replace H := H.below hb
    clear hb
    try clear C
    try simp only [World.size_alloc, List.nil_append, List.cons_append, List.append_assoc] at H
    try clear w1
    have C := H.cells
    try simp only [cellsOf, cellsM, apartOf, apartM, and_true] at C
    dsimp only
    go_wp2_with fail
    go_ret
    exact ⟨rfl, H.done⟩
end Go.Proofs.Ytmnddnlabdafcaa
