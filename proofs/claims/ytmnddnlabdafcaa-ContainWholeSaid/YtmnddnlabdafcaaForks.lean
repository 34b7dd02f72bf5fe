/- The statement OwnerForks: its walk. -/
import Derived.Test.YtmnddnlabdafcaaAwk29
import Derived.Test.YtmnddnlabdafcaaO8
namespace Go.Proofs.Ytmnddnlabdafcaa
set_option linter.unusedSimpArgs false
set_option linter.unusedVariables false
open Go.RowKit
set_option maxRecDepth 100000
attribute [local go_sem] lt_more ne_more ne_more'
attribute [local irreducible] wpX wpF Calls

theorem gives_of {n : Nat} {args : Array Value} {v : Value} {w : World} (h : Calls Try.prog n args w fun e w' => e = .returned v ∧ w = w') : Calls Try.prog n args w (Gives v w) :=
  h.mono fun e w' ⟨h1, h2⟩ => ⟨h1, h2 ▸ Below.refl _ _⟩
section
variable {D : Nat → Prop} {W w : World} {L : List Item}
theorem HS.ownPs2 (h : HS D W L w) (i j : Nat) {n : Nat} {v : Value} {qs : List Pv} (hi : L[i]? = some (.row v 31 5 n (qs.flatMap pvC))) (hn : n = qs.length) (hj : L[j]? = some (.many (qs.flatMap innerR))) : Ps w w.heap.size v (qs.map (·.p)) :=
  Proofs.Ytmnddnlabdafcaa.ownPs fun A hA => by
    subst hn
    rcases List.mem_cons.1 hA with rfl | hA
    · exact h.at i hi
    · exact h.manyOks j hj A hA
theorem HS.pagesLies (h : HS D W L w) (j : Nat) {qs : List Pv} (hj : L[j]? = some (.many (qs.flatMap innerR))) {k : Nat} (hk : k < qs.length) {p : Pr} {pb : Option Addr} {pc : Nat} {ta : Value} (e : qs[k]! = ⟨p, .slice pb p.pages.length pc, ta⟩) : Lies w w.heap.size pb 3 p.pages.length (fun j => pgC p.pages[j]!) := by
  have h1 := innerAt (h.manyOks j hj) _ (mem_at hk)
  rw [e] at h1
  obtain ⟨⟨sa, c, e1, hc, hl⟩, -⟩ := h1
  injection e1 with e1 e2 e3
  rw [e1]
  exact hl
/-- A slice of programs of one's own, its rows apart. -/
theorem HS.openPs (h : HS D W L w) (i : Nat) {v : Value} {qs : List Pv} (hi : L[i]? = some (.many (PsR v qs))) (hn : 0 < qs.length) : ∃ g d, v = .slice (some ⟨g, 0, none⟩) qs.length d ∧ qs.length ≤ d ∧ HS D W (L.eraseIdx i ++ [.row (.slice (some ⟨g, 0, none⟩) qs.length d) 31 5 qs.length (qs.flatMap pvC), Item.many (qs.flatMap innerR)]) w := by
  have h1 := h.manyCons i hi
  have ho : w.ownsRow 0 31 5 v qs.length (qs.flatMap pvC) := h1.ok (outerR v qs) (by simp)
  obtain ⟨sb, d, rfl⟩ := ownsRow_slice ho
  obtain ⟨g, rfl, -, hc⟩ := ownsRow_ptr ho hn
  exact ⟨g, d, rfl, hc, h1⟩
theorem HS.pvForm (h : HS D W L w) (j : Nat) {qs : List Pv} (hj : L[j]? = some (.many (qs.flatMap innerR))) {k : Nat} (hk : k < qs.length) : ∃ pb pc tb tc, qs[k]! = ⟨(qs[k]!).p, .slice pb (qs[k]!).p.pages.length pc, .slice tb (qs[k]!).p.told.length tc⟩ := by
  obtain ⟨⟨sa, c, e1, -, -⟩, ⟨sa', c', e2, -, -⟩⟩ := innerAt (h.manyOks j hj) _ (mem_at hk)
  exact ⟨sa, c, sa', c', by rw [← e1, ← e2]⟩
end
set_option maxHeartbeats 16000000 in
theorem forks_walk (sa : Option Addr) (len cap : Nat) (hl : len ≤ maxLen) (which page : Int) (w : World) (hI : Ints w sa len) :
    Calls Try.prog 3 #[.slice sa len cap, .int .i64 which, .int .i64 page] w (Gives (.bool true) w) := by
  have HI := Lib.hid hI
  clear hI
  have hli := light_any sa len cap hl
  clear hl
  have HAW := Lib.hid awake29_any
  by_cases h400 : len ≤ 400
  · rw [decide_eq_true h400] at hli
    have HLI := Lib.hid hli
    clear hli
    go_enter Try.func3, Try.ntmps3
    have H := HS.start NoD w
    go_wp2_with fail
    refine (gives_of (HLI.out _)).mono ?_
    rintro _ w1 ⟨rfl, hb⟩
    replace H := H.below hb
    clear hb
    try clear C
    try simp only [World.size_alloc, List.nil_append, List.cons_append, List.append_assoc] at H
    have C := H.cells
    try simp only [cellsOf, cellsM, apartOf, apartM, and_true] at C
    dsimp only
    go_wp2_with fail
    refine (roll_at w.heap.size _ _ _ h400 _ H.size (H.ints HI.out)).mono ?_
    rintro _ w2 ⟨bd, rfl, hd, hb, hbb⟩
    replace H := H.getsDice hb hd hbb (Nat.le_refl _)
    clear hb hd hbb
    try clear C
    try simp only [World.size_alloc, List.nil_append, List.cons_append, List.append_assoc] at H
    try clear w1
    have C := H.cells
    try simp only [cellsOf, cellsM, apartOf, apartM, and_true] at C
    dsimp only
    go_wp2_with fail
    refine (mprogs_any 8 (by decide) w.heap.size bd _ (H.at 0 rfl) H.size).mono ?_
    rintro _ w2 ⟨v1, qs, rfl, hmp, K⟩
    replace H := HS.joinDice H 0 rfl K (fun A hA => by cases List.mem_singleton.1 hA; rfl)
    clear K
    simp only [List.nil_append, List.cons_append] at H
    have h3 := hmp.three
    have hgl := hmp.good.len
    rw [List.length_map] at h3 hgl
    have HMP := Lib.hid hmp
    clear hmp
    obtain ⟨g, d, rfl, hcap, H⟩ := H.openPs 1 rfl (by omega)
    simp only [List.eraseIdx_cons_succ, List.eraseIdx_cons_zero, List.nil_append, List.cons_append] at H
    skip
    try clear C
    try simp only [World.size_alloc, List.nil_append, List.cons_append, List.append_assoc] at H
    have C := H.cells
    try simp only [cellsOf, cellsM, apartOf, apartM, and_true] at C
    dsimp only
    obtain ⟨md, hmd⟩ : ∃ md, md = modF which qs.length := ⟨_, rfl⟩
    have hmc : ∀ w, Calls Try.prog 17 #[.int .i64 which, .int .i64 qs.length] w (Gives (.int .i64 md) w) := fun w => by rw [hmd]; exact gives_of (mod_any _ _ _)
    have hmb := modF_in (n := which) (m := qs.length) (by omega) (by omega)
    rw [← hmd] at hmb
    clear hmd
    obtain ⟨k, rfl⟩ : ∃ k : Nat, md = k := ⟨md.toNat, by omega⟩
    have hk : k < qs.length := by omega
    have HMC := Lib.hid hmc
    clear hmc hmb
    go_wp2_with fail
    refine (HMC.out _).mono ?_
    rintro _ w3 ⟨rfl, hb⟩
    replace H := H.below hb
    clear hb
    try clear C
    try simp only [World.size_alloc, List.nil_append, List.cons_append, List.append_assoc] at H
    try clear w2
    have C := H.cells
    try simp only [cellsOf, cellsM, apartOf, apartM, and_true] at C
    dsimp only
    clear HMC
    have hpf := H.pvForm 2 rfl hk
    obtain ⟨pb, pc, tb, tc, hpf⟩ := hpf
    have hmap := map_at hk
    obtain ⟨ps, hps⟩ : ∃ ps, ps = qs.map (·.p) := ⟨_, rfl⟩
    have hpl : ps.length = qs.length := by rw [hps]; simp
    rw [← hps] at HMP hmap
    have HPS := Lib.hid hps.symm
    clear hps
    obtain ⟨p, hp⟩ : ∃ p, p = (qs[k]!).p := ⟨_, rfl⟩
    rw [← hp] at hpf hmap
    clear hp
    have HPF := Lib.hid hpf
    have HPE := Lib.hid hmap
    clear hpf hmap
    have hg1 := HMP.out.good.one _ (at_mem (show k < ps.length by omega))
    rw [HPE.out] at hg1
    have HG1 := Lib.hid hg1
    obtain ⟨pi, pt, pd, pg, td⟩ := p
    have hp16 : pg.length ≤ 16 := hg1.plen
    clear hg1
    dsimp only at HPF
    have HFD := Lib.hid (fun hd => by have := fork_dead HMP.out.good (show k < ps.length by omega) hd; rw [HPE.out] at this; exact this)
    have HFF := Lib.hid (fun hd h8 => by have := fork_full HMP.out.good (fun p hp => (HMP.out.low p hp).1) (show k < ps.length by omega) hd h8; rw [HPE.out] at this; exact this)
    have HFO := Lib.hid (fun hd h8 => by have := fork_ok HMP.out.good (fun p hp => (HMP.out.low p hp).1) (show k < ps.length by omega) hd h8; rw [HPE.out] at this; exact this)
    have HFX := Lib.hid (fun hd h8 => forkX_of HMP.out.good (fun p hp => (HMP.out.low p hp).1) (show k < ps.length by omega) hd h8)
    rw [HPE.out] at HFD HFF HFO HFX
    dsimp only at HFD HFF HFO HFX
    have k0 : w3.cell? ⟨g, k * 5, none⟩ = some (.int .i64 pi) := (H.outerCell 1 rfl rfl hk (m := 0) (by decide) (by rw [HPF.out]; rfl)).1
    have k1 := (H.outerCell 1 rfl rfl hk (m := 1) (u := .bool pt) (by decide) (by rw [HPF.out]; rfl)).1
    have k2 := (H.outerCell 1 rfl rfl hk (m := 2) (u := .bool pd) (by decide) (by rw [HPF.out]; rfl)).1
    have k3 := (H.outerCell 1 rfl rfl hk (m := 3) (u := .slice pb pg.length pc) (by decide) (by rw [HPF.out]; rfl)).1
    have k4 := (H.outerCell 1 rfl rfl hk (m := 4) (u := .slice tb td.length tc) (by decide) (by rw [HPF.out]; rfl)).1
    go_upto_region 5 with fail
    clear k0 k1 k2 k3 k4
    generalize hwb : w3.alloc _ = w4
    replace H := HS.eqW hwb H.alloc
    try simp only [World.size_alloc, List.nil_append, List.cons_append, List.append_assoc] at H
    clear hwb
    generalize w3.heap.size = bP at H ⊢
    try clear C
    try clear w3
    have C := H.cells
    try simp only [cellsOf, cellsM, apartOf, apartM, and_true] at C
    have HFK := Lib.hid (fun v w h => ofork_any pi 900 (v := v) HMP.out.good w h)
    cases hd : pd with
    | true =>
      subst hd
      rw [HFD.out rfl] at HFK
      clear HFD HFF HFO HFX
      skip
      go_wp2_with fail
      refine (HFK.out _ _ (by have := H.ownPs2 1 2 rfl rfl rfl; rw [HPS.out] at this; exact this)).mono ?_
      rintro _ w5 ⟨v2, r2, rfl, h2, K⟩
      replace H := H.join1 K
      clear K
      simp only [List.nil_append, List.cons_append] at H
      skip
      try clear C
      try simp only [World.size_alloc, List.nil_append, List.cons_append, List.append_assoc] at H
      have C := H.cells
      try simp only [cellsOf, cellsM, apartOf, apartM, and_true] at C
      dsimp only
      go_wp2_with fail
      refine (HAW.out _).mono ?_
      rintro _ w5 ⟨rfl, hb⟩
      replace H := H.below hb
      clear hb
      try clear C
      try simp only [World.size_alloc, List.nil_append, List.cons_append, List.append_assoc] at H
      try clear w5
      have C := H.cells
      try simp only [cellsOf, cellsM, apartOf, apartM, and_true] at C
      dsimp only
      go_wp2_with fail
      go_ret
      exact ⟨rfl, H.done⟩
    | false =>
      subst hd
      by_cases h8 : qs.length = 8
      · rw [HFF.out rfl (by omega)] at HFK
        have HH8 := Lib.hid h8
        clear HFD HFF HFO HFX h8
        skip
        go_wp2_with fail
        refine (HFK.out _ _ (by have := H.ownPs2 1 2 rfl rfl rfl; rw [HPS.out] at this; exact this)).mono ?_
        rintro _ w5 ⟨v2, r2, rfl, h2, K⟩
        replace H := H.join1 K
        clear K
        simp only [List.nil_append, List.cons_append] at H
        skip
        try clear C
        try simp only [World.size_alloc, List.nil_append, List.cons_append, List.append_assoc] at H
        have C := H.cells
        try simp only [cellsOf, cellsM, apartOf, apartM, and_true] at C
        dsimp only
        have h8i : (qs.length : Int) = 8 := by have := HH8.out; omega
        go_wp2_with fail
        refine (HAW.out _).mono ?_
        rintro _ w6 ⟨rfl, hb⟩
        replace H := H.below hb
        clear hb
        try clear C
        try simp only [World.size_alloc, List.nil_append, List.cons_append, List.append_assoc] at H
        try clear w5
        have C := H.cells
        try simp only [cellsOf, cellsM, apartOf, apartM, and_true] at C
        dsimp only
        go_wp2_with fail
        go_ret
        exact ⟨rfl, H.done⟩
      · have h8n : ¬ (qs.length : Int) = 8 := by omega
        have HFX2 := Lib.hid (HFX.out rfl (by omega))
        rw [HFO.out rfl (by omega)] at HFK
        clear HFD HFF HFO HFX
        skip
        go_wp2_with fail
        refine (HFK.out _ _ (by have := H.ownPs2 1 2 rfl rfl rfl; rw [HPS.out] at this; exact this)).mono ?_
        rintro _ w5 ⟨v2, r2, rfl, h2, K⟩
        replace H := H.join1 K
        clear K
        simp only [List.nil_append, List.cons_append] at H
        skip
        try clear C
        try simp only [World.size_alloc, List.nil_append, List.cons_append, List.append_assoc] at H
        have C := H.cells
        try simp only [cellsOf, cellsM, apartOf, apartM, and_true] at C
        dsimp only
        obtain ⟨X, hX⟩ : ∃ X, X = forkX ps k := ⟨_, rfl⟩
        rw [← hX] at HFX2
        have h2 : r2.map (·.p) = X := by rw [hX]; exact h2
        have H2 := Lib.hid h2
        have hxl : X.length = qs.length + 1 := by rw [HFX2.out.len, hpl]
        have hr2 : r2.length = qs.length + 1 := by rw [← hxl, ← h2]; simp
        clear h2 hX
        obtain ⟨g2, d2, rfl, hcap2, H⟩ := H.openPs 4 rfl (by omega)
        simp only [List.eraseIdx_cons_succ, List.eraseIdx_cons_zero, List.nil_append, List.cons_append] at H
        have hnx : qs.length < r2.length := by omega
        have hkx : k < r2.length := by omega
        have hpf2 := H.pvForm 5 rfl hnx
        obtain ⟨pb2, pc2, tb2, tc2, hpf2⟩ := hpf2
        have hch : (r2[qs.length]!).p = childP (⟨pi, pt, false, pg, td⟩ : Pr) := by
          have := HFX2.out.new
          rw [hpl, HPE.out, ← H2.out, map_at hnx] at this
          exact this
        rw [hch] at hpf2
        have hcl : (childP (⟨pi, pt, false, pg, td⟩ : Pr)).pages.length = pg.length := share_len _
        rw [hcl] at hpf2
        have HPF2 := Lib.hid hpf2
        clear hpf2 hch hcl
        rw [hr2] at H hcap2
        have HR2 := Lib.hid hr2
        clear hr2 hnx hkx
        rw [HR2.out]
        try clear C
        try simp only [World.size_alloc, List.nil_append, List.cons_append, List.append_assoc] at H
        have C := H.cells
        try simp only [cellsOf, cellsM, apartOf, apartM, and_true] at C
        go_upto_region 10 with fail
        refine wp_region_xH (by kernel_rfl) (by kernel_rfl) (by kernel_rfl) (by kernel_rfl) (fun _ => False) (H) ?_
        clear H; intro w7 H hz0 hs0
        try clear C
        try simp only [World.size_alloc, List.nil_append, List.cons_append, List.append_assoc] at H hz0
        clear hz0
        try clear w5
        have C := H.cells
        try simp only [cellsOf, cellsM, apartOf, apartM, and_true] at C
        have Z := H.zs
        try simp only [ltsOf, ltsM, and_true] at Z
        have hz0 := Nat.le_refl w7.heap.size
        have e0 : w7.cell? ⟨g2, qs.length * 5, none⟩ = some (.int .i64 900) := (H.outerCell 4 rfl HR2.out.symm (i := qs.length) (m := 0) (by rw [HR2.out]; omega) (by decide) (by rw [HPF2.out]; rfl)).1
        have e3 := (H.outerCell 4 rfl HR2.out.symm (i := qs.length) (m := 3) (u := .slice pb2 pg.length pc2) (by rw [HR2.out]; omega) (by decide) (by rw [HPF2.out]; rfl)).1
        have hg2 : g2 < w7.heap.size := Item.lt (H.at 4 rfl) (k := g2) rfl
        repeat (first | (refine wpX_skip rfl ?_; go_simp) | (refine wpX_free rfl rfl rfl (fun K hK => ?_); go_step; refine hK _ _ ?_; clear hK K) | (refine wpX_load rfl rfl rfl (by simp [Stay, OneD, NoD, *]) hs0 (by simp [*]) (fun K hK => ?_); go_step; refine hK _ _ ?_; clear hK K))
        (refine wpX_nil ?_; go_step)
        clear e0 e3 hg2
        go_wp2_with fail
        have HXG := Lib.hid HFX2.out.good
        have HD0 := Lib.hid (fun (j : Nat) (hj : j < pg.length) => HFX2.out.find1 (j := j) (show k < ps.length by omega) (by rw [HPE.out]) (by rw [HPE.out]; exact hj))
        have HD1 := Lib.hid (fun (j : Nat) (hj : j < pg.length) => HFX2.out.find2 (j := j) (show k < ps.length by omega) (by rw [HPE.out]) (by rw [HPE.out]; exact hj))
        have HDO := Lib.hid (fun (j : Nat) (hj : j < pg.length) => HFX2.out.own (j := j) (show k < ps.length by omega) (by rw [HPE.out]) (by rw [HPE.out]; exact hj))
        have HDO1 := Lib.hid (fun (j : Nat) (hj : j < pg.length) => HFX2.out.own1 (j := j) (show k < ps.length by omega) (by rw [HPE.out]) (by rw [HPE.out]; exact hj))
        have HDO2 := Lib.hid (fun (j : Nat) (hj : j < pg.length) => HFX2.out.own2 (j := j) (show k < ps.length by omega) (by rw [HPE.out]) (by rw [HPE.out]; exact hj))
        have HDR := Lib.hid (fun (j : Nat) (hj : j < pg.length) => HFX2.out.repl (j := j) (show k < ps.length by omega) (by rw [HPE.out]) (by rw [HPE.out]; exact hj))
        have HDR1 := Lib.hid (fun (j : Nat) (hj : j < pg.length) => HFX2.out.repl1 (j := j) (show k < ps.length by omega) (by rw [HPE.out]) (by rw [HPE.out]; exact hj))
        have HDR2 := Lib.hid (fun (j : Nat) (hj : j < pg.length) => HFX2.out.repl2 (j := j) (show k < ps.length by omega) (by rw [HPE.out]) (by rw [HPE.out]; exact hj))
        rw [HPE.out] at HD0 HD1 HDO HDO1 HDO2 HDR HDR1 HDR2
        dsimp only at HD0 HD1 HDO HDO1 HDO2 HDR HDR1 HDR2
        go_loopw [102] (fun jj wr => ∃ (j : Nat), jj = .int .i64 j ∧ j ≤ pg.length ∧ HS NoD w [.dice w.heap.size bd, .row (.slice (some ⟨g, 0, none⟩) qs.length d) 31 5 qs.length (qs.flatMap pvC), Item.many (qs.flatMap innerR), .blk bP #[.int .i64 pi, .bool pt, .bool false, .slice pb pg.length pc, .slice tb td.length tc] 31, .row (.slice (some ⟨g2, 0, none⟩) (qs.length + 1) d2) 31 5 (qs.length + 1) (r2.flatMap pvC), Item.many (r2.flatMap innerR)] wr) (fun jj _ => pg.length - (intOf jj).toNat)
        case atStart => exact ⟨0, rfl, Nat.zero_le _, H⟩
        case round =>
          clear H C
          obtain ⟨j, rfl, hj, H⟩ := hrel
          skip
          try clear C
          try simp only [World.size_alloc, List.nil_append, List.cons_append, List.append_assoc] at H
          have C := H.cells
          try simp only [cellsOf, cellsM, apartOf, apartM, and_true] at C
          by_cases hlk : j < pg.length
          · obtain ⟨bg, og, e9, hbg, hcg⟩ := (H.pagesLies 2 rfl hk HPF.out).at hlk
            obtain rfl : pb = some ⟨bg, og, none⟩ := e9
            have f1 := HD0.out j hlk
            have f2 := HD1.out j hlk
            obtain ⟨xo, hxo⟩ : ∃ x, x = pg[j]! := ⟨_, rfl⟩
            rw [← hxo] at hcg f1 f2
            clear hxo
            obtain ⟨xn, xf, xs⟩ := xo
            dsimp only [shPg] at f1 f2
            have HA1 := Lib.hid (fun v w h => oFind_any pi xn (v := v) HXG.out w h)
            have HA2 := Lib.hid (fun v w h => oFind_any 900 xn (v := v) HXG.out w h)
            rw [f1] at HA1
            rw [f2] at HA2
            dsimp only [vPg] at HA1 HA2
            clear f1 f2
            have d0 : wr.cell? ⟨bg, og + j * 3, none⟩ = some (.int .i64 xn) := hcg 0 _ rfl
            have d1 : wr.cell? ⟨bg, og + j * 3 + 1, none⟩ = some (.int .i64 xf) := hcg 1 _ rfl
            have d2 : wr.cell? ⟨bg, og + j * 3 + 2, none⟩ = some (.bool xs) := hcg 2 _ rfl
            clear hcg
            go_upto_region 15 with fail
            clear d0 d1 d2
            generalize hwb : wr.alloc _ = w8
            replace H := HS.eqW hwb H.alloc
            try simp only [World.size_alloc, List.nil_append, List.cons_append, List.append_assoc] at H
            clear hwb
            generalize wr.heap.size = bY at H ⊢
            try clear C
            try clear wr
            have C := H.cells
            try simp only [cellsOf, cellsM, apartOf, apartM, and_true] at C
            go_wp2_with fail
            refine (HA1.out _ _ (by have := H.ownPs2 4 5 rfl HR2.out.symm rfl; rw [H2.out] at this; exact this)).mono ?_
            rintro _ w9 ⟨rfl, hb⟩
            replace H := H.below hb
            clear hb
            try clear C
            try simp only [World.size_alloc, List.nil_append, List.cons_append, List.append_assoc] at H
            try clear w8
            have C := H.cells
            try simp only [cellsOf, cellsM, apartOf, apartM, and_true] at C
            dsimp only
            go_wp2_with fail
            generalize hwb : w9.alloc _ = w10
            replace H := HS.eqW hwb H.alloc
            try simp only [World.size_alloc, List.nil_append, List.cons_append, List.append_assoc] at H
            clear hwb
            generalize w9.heap.size = bA at H ⊢
            try clear C
            try clear w9
            have C := H.cells
            try simp only [cellsOf, cellsM, apartOf, apartM, and_true] at C
            refine (HA2.out _ _ (by have := H.ownPs2 4 5 rfl HR2.out.symm rfl; rw [H2.out] at this; exact this)).mono ?_
            rintro _ w11 ⟨rfl, hb⟩
            replace H := H.below hb
            clear hb
            try clear C
            try simp only [World.size_alloc, List.nil_append, List.cons_append, List.append_assoc] at H
            try clear w10
            have C := H.cells
            try simp only [cellsOf, cellsM, apartOf, apartM, and_true] at C
            dsimp only
            go_wp2_with fail
            go_roundw
            case rel => exact ⟨j + 1, by go_num, by omega, HS.less (L' := [.dice w.heap.size bd, .row (.slice (some ⟨g, 0, none⟩) qs.length d) 31 5 qs.length (qs.flatMap pvC), Item.many (qs.flatMap innerR), .blk bP #[.int .i64 pi, .bool pt, .bool false, .slice (some ⟨bg, og, none⟩) pg.length pc, .slice tb td.length tc] 31, .row (.slice (some ⟨g2, 0, none⟩) (qs.length + 1) d2) 31 5 (qs.length + 1) (r2.flatMap pvC), Item.many (r2.flatMap innerR)]) H.alloc (by repeat (first | exact .slnil | refine .cons_cons _ ?_ | refine .cons _ ?_))⟩
            case measure => simp [intOf]; omega
          · have hje : j = pg.length := by omega
            subst hje
            by_cases hz : (pg.length : Int) = 0
            · skip
              go_wp2_with fail
              refine (HAW.out _).mono ?_
              rintro _ w12 ⟨rfl, hb⟩
              replace H := H.below hb
              clear hb
              try clear C
              try simp only [World.size_alloc, List.nil_append, List.cons_append, List.append_assoc] at H
              try clear w11
              have C := H.cells
              try simp only [cellsOf, cellsM, apartOf, apartM, and_true] at C
              dsimp only
              go_wp2_with fail
              go_ret
              exact ⟨rfl, H.done⟩
            · skip
              obtain ⟨md, hmd⟩ : ∃ md, md = modF page pg.length := ⟨_, rfl⟩
              have hmc : ∀ w, Calls Try.prog 17 #[.int .i64 page, .int .i64 pg.length] w (fun e w' => e = .returned (.int .i64 md) ∧ w = w') := fun w => by rw [hmd]; exact mod_any _ _ _
              have hmb := modF_in (n := page) (m := pg.length) (by omega) (by omega)
              rw [← hmd] at hmb
              clear hmd
              obtain ⟨j, rfl⟩ : ∃ k : Nat, md = k := ⟨md.toNat, by omega⟩
              have hlk : j < pg.length := by omega
              have HMM := Lib.hid hmc
              clear hmc hmb
              obtain ⟨bg, og, e9, hbg, hcg⟩ := (H.pagesLies 2 rfl hk HPF.out).at hlk
              obtain rfl : pb = some ⟨bg, og, none⟩ := e9
              obtain ⟨xo, hxo⟩ : ∃ x, x = pg[j]! := ⟨_, rfl⟩
              have HXO := Lib.hid hxo
              rw [← hxo] at hcg
              clear hxo
              obtain ⟨xn, xf, xs⟩ := xo
              have y0 : wr.cell? ⟨bg, og + j * 3, none⟩ = some (.int .i64 xn) := hcg 0 _ rfl
              have y1 : wr.cell? ⟨bg, og + j * 3 + 1, none⟩ = some (.int .i64 xf) := hcg 1 _ rfl
              have y2 : wr.cell? ⟨bg, og + j * 3 + 2, none⟩ = some (.bool xs) := hcg 2 _ rfl
              have q1 : (bg = wr.heap.size) = False := eq_false (by omega)
              have q2 : (wr.heap.size = bg) = False := eq_false (by omega)
              clear hcg
              go_upto_region 22 with fail
              go_cut [17, 61, 149] from 151 to 159 (fun y _ _ wx => ∃ bY, y = .pointer (some ⟨bY, 0, none⟩) ∧ HS NoD w [.dice w.heap.size bd, .row (.slice (some ⟨g, 0, none⟩) qs.length d) 31 5 qs.length (qs.flatMap pvC), Item.many (qs.flatMap innerR), .blk bP #[.int .i64 pi, .bool pt, .bool false, .slice (some ⟨bg, og, none⟩) pg.length pc, .slice tb td.length tc] 31, .row (.slice (some ⟨g2, 0, none⟩) (qs.length + 1) d2) 31 5 (qs.length + 1) (r2.flatMap pvC), Item.many (r2.flatMap innerR), .blk bY #[.int .i64 xn, .int .i64 xf, .bool xs] 37] wx)
              case first =>
                go_region_law (go_simp; go_at_call 17; refine (HMM.out _).mono ?_; rintro _ _ ⟨rfl, rfl⟩)
                all_goals go_wp2_with fail
                all_goals go_meet
                all_goals refine ⟨_, rfl, ?_⟩
                all_goals first
                  | exact H.drew.alloc
                  | exact (H.drew.alloc (cs := #[.int .i64 0, .int .i64 0, .bool false]) (t := 37)).putAll (i := 6) rfl (vs := [.int .i64 xn, .int .i64 xf, .bool xs]) rfl rfl
              case rest =>
                clear H C y0 y1 y2 q1 q2
                obtain ⟨bY, rfl, H⟩ := hcut
                skip
                try clear C
                try simp only [World.size_alloc, List.nil_append, List.cons_append, List.append_assoc] at H
                have C := H.cells
                try simp only [cellsOf, cellsM, apartOf, apartM, and_true] at C
                have f0 := HDO.out j hlk
                have f1 := HDO1.out j hlk
                have f2 := HDO2.out j hlk
                have f3 := HDR.out j hlk
                have f4 := HDR1.out j hlk
                have f5 := HDR2.out j hlk
                rw [← HXO.out] at f0 f1 f2 f3 f4 f5
                dsimp only [shPg] at f0 f1 f2 f3 f4 f5
                obtain ⟨Z, hZ⟩ : ∃ Z, Z = ownZ ps X k j := ⟨_, rfl⟩
                rw [← hZ] at f0 f1 f2
                obtain ⟨U, hU⟩ : ∃ U, U = X.map (moveP xf 51) := ⟨_, rfl⟩
                rw [← hU] at f3 f4 f5
                clear hZ hU
                have hgZ := ((HXG.out.mono (show (8 : Int) ≤ 64 by decide)).own (show (50 : Int) < 64 by decide) f0).1
                have hgU := ((HXG.out.mono (show (8 : Int) ≤ 64 by decide)).repl (show (51 : Int) < 64 by decide) f3).1
                have HA0 := Lib.hid (fun v w h => oown_any 900 xn 50 (v := v) HXG.out w h)
                rw [f0] at HA0
                have HA1 := Lib.hid (fun v w h => oFind_any pi xn (v := v) hgZ w h)
                rw [f1] at HA1
                have HA2 := Lib.hid (fun v w h => oFind_any 900 xn (v := v) hgZ w h)
                rw [f2] at HA2
                have HA3 := Lib.hid (fun v w h => orepl_any xf 51 (v := v) HXG.out.smallP w h)
                rw [f3] at HA3
                have HA4 := Lib.hid (fun v w h => oFind_any pi xn (v := v) hgU w h)
                rw [f4] at HA4
                have HA5 := Lib.hid (fun v w h => oFind_any 900 xn (v := v) hgU w h)
                rw [f5] at HA5
                dsimp only [vPg] at HA1 HA2 HA4 HA5
                clear f0 f1 f2 f3 f4 f5 hgZ hgU HDO HDO1 HDO2 HDR HDR1 HDR2 HD0 HD1 HMM
                go_wp2_with fail
                refine (HA0.out _ _ (by have := H.ownPs2 4 5 rfl HR2.out.symm rfl; rw [H2.out] at this; exact this)).mono ?_
                rintro _ wa ⟨v3, r3, rfl, h3', K⟩
                replace H := H.join1 K
                clear K HA0
                simp only [List.nil_append, List.cons_append] at H
                skip
                try clear C
                try simp only [World.size_alloc, List.nil_append, List.cons_append, List.append_assoc] at H
                have C := H.cells
                try simp only [cellsOf, cellsM, apartOf, apartM, and_true] at C
                dsimp only
                go_wp2_with fail
                refine (HA1.out _ _ (by have := H.ownPs 7 rfl; rw [h3'] at this; exact this)).mono ?_
                rintro _ w13 ⟨rfl, hb⟩
                replace H := H.below hb
                clear hb
                try clear C
                try simp only [World.size_alloc, List.nil_append, List.cons_append, List.append_assoc] at H
                try clear wa
                have C := H.cells
                try simp only [cellsOf, cellsM, apartOf, apartM, and_true] at C
                dsimp only
                go_wp2_with fail
                generalize hwb : w13.alloc _ = w14
                replace H := HS.eqW hwb H.alloc
                try simp only [World.size_alloc, List.nil_append, List.cons_append, List.append_assoc] at H
                clear hwb
                generalize w13.heap.size = bA at H ⊢
                try clear C
                try clear w13
                have C := H.cells
                try simp only [cellsOf, cellsM, apartOf, apartM, and_true] at C
                refine (HA2.out _ _ (by have := H.ownPs 7 rfl; rw [h3'] at this; exact this)).mono ?_
                rintro _ w15 ⟨rfl, hb⟩
                replace H := H.below hb
                clear hb
                try clear C
                try simp only [World.size_alloc, List.nil_append, List.cons_append, List.append_assoc] at H
                try clear w14
                have C := H.cells
                try simp only [cellsOf, cellsM, apartOf, apartM, and_true] at C
                dsimp only
                go_wp2_with fail
                generalize hwb : w15.alloc _ = w16
                replace H := HS.eqW hwb H.alloc
                try simp only [World.size_alloc, List.nil_append, List.cons_append, List.append_assoc] at H
                clear hwb
                generalize w15.heap.size = bB at H ⊢
                try clear C
                try clear w15
                have C := H.cells
                try simp only [cellsOf, cellsM, apartOf, apartM, and_true] at C
                refine (HA3.out _ _ (by have := H.ownPs2 4 5 rfl HR2.out.symm rfl; rw [H2.out] at this; exact this)).mono ?_
                rintro _ wb ⟨v4, r4, rfl, h4', K⟩
                replace H := H.join1 K
                clear K HA3 HA1 HA2
                simp only [List.nil_append, List.cons_append] at H
                skip
                try clear C
                try simp only [World.size_alloc, List.nil_append, List.cons_append, List.append_assoc] at H
                have C := H.cells
                try simp only [cellsOf, cellsM, apartOf, apartM, and_true] at C
                dsimp only
                go_wp2_with fail
                refine (HA4.out _ _ (by have := H.ownPs 10 rfl; rw [h4'] at this; exact this)).mono ?_
                rintro _ w17 ⟨rfl, hb⟩
                replace H := H.below hb
                clear hb
                try clear C
                try simp only [World.size_alloc, List.nil_append, List.cons_append, List.append_assoc] at H
                try clear wb
                have C := H.cells
                try simp only [cellsOf, cellsM, apartOf, apartM, and_true] at C
                dsimp only
                go_wp2_with fail
                generalize hwb : w17.alloc _ = w18
                replace H := HS.eqW hwb H.alloc
                try simp only [World.size_alloc, List.nil_append, List.cons_append, List.append_assoc] at H
                clear hwb
                generalize w17.heap.size = bC at H ⊢
                try clear C
                try clear w17
                have C := H.cells
                try simp only [cellsOf, cellsM, apartOf, apartM, and_true] at C
                refine (HA5.out _ _ (by have := H.ownPs 10 rfl; rw [h4'] at this; exact this)).mono ?_
                rintro _ w19 ⟨rfl, hb⟩
                replace H := H.below hb
                clear hb
                try clear C
                try simp only [World.size_alloc, List.nil_append, List.cons_append, List.append_assoc] at H
                try clear w18
                have C := H.cells
                try simp only [cellsOf, cellsM, apartOf, apartM, and_true] at C
                dsimp only
                go_wp2_with fail
                generalize hwb : w19.alloc _ = w20
                replace H := HS.eqW hwb H.alloc
                try simp only [World.size_alloc, List.nil_append, List.cons_append, List.append_assoc] at H
                clear hwb
                generalize w19.heap.size = bD at H ⊢
                try clear C
                try clear w19
                have C := H.cells
                try simp only [cellsOf, cellsM, apartOf, apartM, and_true] at C
                refine (HAW.out _).mono ?_
                rintro _ w21 ⟨rfl, hb⟩
                replace H := H.below hb
                clear hb
                try clear C
                try simp only [World.size_alloc, List.nil_append, List.cons_append, List.append_assoc] at H
                try clear w20
                have C := H.cells
                try simp only [cellsOf, cellsM, apartOf, apartM, and_true] at C
                dsimp only
                go_wp2_with fail
                go_ret
                exact ⟨rfl, H.done⟩
  · rw [decide_eq_false h400] at hli
    have HLI := Lib.hid hli
    clear hli
    go_enter Try.func3, Try.ntmps3
    have H := HS.start NoD w
    go_wp2_with fail
    refine (gives_of (HLI.out _)).mono ?_
    rintro _ w1 ⟨rfl, hb⟩
    replace H := H.below hb
    clear hb
    try clear C
    try simp only [World.size_alloc, List.nil_append, List.cons_append, List.append_assoc] at H
    have C := H.cells
    try simp only [cellsOf, cellsM, apartOf, apartM, and_true] at C
    dsimp only
    go_wp2_with fail
    refine (HAW.out _).mono ?_
    rintro _ w2 ⟨rfl, hb⟩
    replace H := H.below hb
    clear hb
    try clear C
    try simp only [World.size_alloc, List.nil_append, List.cons_append, List.append_assoc] at H
    try clear w1
    have C := H.cells
    try simp only [cellsOf, cellsM, apartOf, apartM, and_true] at C
    dsimp only
    go_wp2_with fail
    go_ret
    exact ⟨rfl, H.done⟩
end Go.Proofs.Ytmnddnlabdafcaa
