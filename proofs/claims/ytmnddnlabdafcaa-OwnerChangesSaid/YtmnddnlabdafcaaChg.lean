/- The statement OwnerChanges: its walk. -/
import Derived.Test.YtmnddnlabdafcaaBoth
import Derived.Test.YtmnddnlabdafcaaForks
import Derived.Test.YtmnddnlabdafcaaC7
namespace Go.Proofs.Ytmnddnlabdafcaa
set_option linter.unusedSimpArgs false
set_option linter.unusedVariables false
open Go.RowKit
set_option maxRecDepth 100000
attribute [local go_sem] lt_more ne_more ne_more'
attribute [local irreducible] wpX wpF Calls

set_option maxHeartbeats 16000000 in
theorem chg_walk (sa : Option Addr) (len cap : Nat) (hl : len ≤ maxLen) (id page frame other : Int) (w : World) (hI : Ints w sa len) :
    Calls Try.prog 6 #[.slice sa len cap, .int .i64 id, .int .i64 page, .int .i64 frame, .int .i64 other] w (Gives (.bool true) w) := by
  have HI := Lib.hid hI
  clear hI
  have hli := light_any sa len cap hl
  clear hl
  have HAW := Lib.hid awake29_any
  by_cases h400 : len ≤ 400
  · rw [decide_eq_true h400] at hli
    have HLI := Lib.hid hli
    clear hli
    go_enter Try.func6, Try.ntmps6
    have H := HS.start NoD w
    go_wp2_with fail
    refine (gives_of (HLI.out _)).mono ?_
    rintro _ w1 ⟨rfl, hb⟩
    replace H := H.below hb
    clear hb
    try clear C
    try simp only [World.size_alloc, List.nil_append, List.cons_append, List.append_assoc] at H
    have C := H.cells
    try simp only [cellsOf, cellsM, apartOf, apartM, and_true] at C
    dsimp only
    go_wp2_with fail
    refine (roll_at w.heap.size _ _ _ h400 _ H.size (H.ints HI.out)).mono ?_
    rintro _ w2 ⟨bd, rfl, hd, hb, hbb⟩
    replace H := H.getsDice hb hd hbb (Nat.le_refl _)
    clear hb hd hbb
    try clear C
    try simp only [World.size_alloc, List.nil_append, List.cons_append, List.append_assoc] at H
    try clear w1
    have C := H.cells
    try simp only [cellsOf, cellsM, apartOf, apartM, and_true] at C
    dsimp only
    go_wp2_with fail
    refine (next_any 10 (by omega) w.heap.size bd _ (H.at 0 rfl)).mono ?_
    rintro _ w3 ⟨v0, rfl, hv0, hd, hg⟩
    replace H := (H).diceAt 0 rfl hg hd
    clear hg hd
    try clear C
    try simp only [World.size_alloc, List.nil_append, List.cons_append, List.append_assoc] at H
    try clear w2
    have C := H.cells
    try simp only [cellsOf, cellsM, apartOf, apartM, and_true] at C
    dsimp only
    have hv := hv0.lt (by decide)
    have hv1 := hv0.1
    go_wp2_with fail
    refine (mprogs_any (3 + v0) (by omega) w.heap.size bd _ (H.at 0 rfl) H.size).mono ?_
    rintro _ w2 ⟨v1, qs, rfl, hmp, K⟩
    replace H := HS.joinDice H 0 rfl K (fun A hA => by cases List.mem_singleton.1 hA; rfl)
    clear K
    simp only [List.nil_append, List.cons_append] at H
    have h3 := hmp.three
    have hgl := hmp.good.len
    rw [List.length_map] at h3 hgl
    have hg64 : GoodP 64 (qs.map (·.p)) := hmp.good.mono (by omega)
    clear hmp hv hv1 hv0
    obtain ⟨g, d, rfl, hcap, H⟩ := H.openPs 1 rfl (by omega)
    simp only [List.eraseIdx_cons_succ, List.eraseIdx_cons_zero, List.nil_append, List.cons_append] at H
    skip
    try clear C
    try simp only [World.size_alloc, List.nil_append, List.cons_append, List.append_assoc] at H
    have C := H.cells
    try simp only [cellsOf, cellsM, apartOf, apartM, and_true] at C
    dsimp only
    obtain ⟨ps, hps⟩ : ∃ ps, ps = qs.map (·.p) := ⟨_, rfl⟩
    rw [← hps] at hg64
    have HG := Lib.hid hg64
    have HPS := Lib.hid hps.symm
    clear hps hg64
    obtain ⟨md, hmd⟩ : ∃ md, md = modF id qs.length := ⟨_, rfl⟩
    have hmc : ∀ w, Calls Try.prog 17 #[.int .i64 id, .int .i64 qs.length] w (Gives (.int .i64 md) w) := fun w => by rw [hmd]; exact gives_of (mod_any _ _ _)
    have hmb := modF_in (n := id) (m := qs.length) (by omega) (by omega)
    rw [← hmd] at hmb
    clear hmd
    obtain ⟨k, rfl⟩ : ∃ k : Nat, md = k := ⟨md.toNat, by omega⟩
    have hk : k < qs.length := by omega
    have HMK := Lib.hid hmc
    clear hmc hmb
    obtain ⟨pid, hpid⟩ : ∃ i, i = (qs[k]!).p.id := ⟨_, rfl⟩
    have HPI := Lib.hid hpid
    clear hpid
    have HM1 := Lib.hid (fun w => gives_of (mod_any id 3 w))
    have mb1 := modF_in (n := id) (m := 3) (by decide) (by decide)
    obtain ⟨m1, hm1⟩ : ∃ m, m = modF id 3 := ⟨_, rfl⟩
    rw [← hm1] at HM1 mb1
    clear hm1
    have HM2 := Lib.hid (fun w => gives_of (mod_any page 9 w))
    have mb2 := modF_in (n := page) (m := 9) (by decide) (by decide)
    obtain ⟨m2, hm2⟩ : ∃ m, m = modF page 9 := ⟨_, rfl⟩
    rw [← hm2] at HM2 mb2
    clear hm2
    have HM3 := Lib.hid (fun w => gives_of (mod_any frame 14 w))
    have mb3 := modF_in (n := frame) (m := 14) (by decide) (by decide)
    obtain ⟨m3, hm3⟩ : ∃ m, m = modF frame 14 := ⟨_, rfl⟩
    rw [← hm3] at HM3 mb3
    clear hm3
    have HM4 := Lib.hid (fun w => gives_of (mod_any other 18 w))
    have mb4 := modF_in (n := other) (m := 18) (by decide) (by decide)
    obtain ⟨m4, hm4⟩ : ∃ m, m = modF other 18 := ⟨_, rfl⟩
    rw [← hm4] at HM4 mb4
    clear hm4
    have HM5 := Lib.hid (fun w => gives_of (mod_any page 3 w))
    have mb5 := modF_in (n := page) (m := 3) (by decide) (by decide)
    obtain ⟨m5, hm5⟩ : ∃ m, m = modF page 3 := ⟨_, rfl⟩
    rw [← hm5] at HM5 mb5
    clear hm5
    have HM6 := Lib.hid (fun w => gives_of (mod_any frame 2 w))
    have mb6 := modF_in (n := frame) (m := 2) (by decide) (by decide)
    obtain ⟨m6, hm6⟩ : ∃ m, m = modF frame 2 := ⟨_, rfl⟩
    rw [← hm6] at HM6 mb6
    clear hm6
    have HM7 := Lib.hid (fun w => gives_of (mod_any other 3 w))
    have mb7 := modF_in (n := other) (m := 3) (by decide) (by decide)
    obtain ⟨m7, hm7⟩ : ∃ m, m = modF other 3 := ⟨_, rfl⟩
    rw [← hm7] at HM7 mb7
    clear hm7
    have q1 : IntKind.i64.wrap (1 + m1) = 1 + m1 := IntWalk.i64_in _ (by omega)
    have q2 : IntKind.i64.wrap (5 * (1 + m1)) = 5 * (1 + m1) := IntWalk.i64_in _ (by omega)
    have q3 : IntKind.i64.wrap (1 + m4) = 1 + m4 := IntWalk.i64_in _ (by omega)
    have q4 : IntKind.i64.wrap (m5 + 998) = m5 + 998 := IntWalk.i64_in _ (by omega)
    have q5 : IntKind.i64.wrap (63 + m6) = 63 + m6 := IntWalk.i64_in _ (by omega)
    have q6 : IntKind.i64.wrap (m7 + 998) = m7 + 998 := IntWalk.i64_in _ (by omega)
    clear mb1 mb2 mb3 mb4 mb5 mb6 mb7
    go_upto_region 5 with fail
    refine wp_region_h (by kernel_rfl) [0, 1, 2, 3, 4, 5, 6, 7, 8, 9, 10, 11, 12, 13, 14, 15, 16, 17, 18, 19, 20, 21, 22, 23, 24, 25, 26, 27, 28, 29, 30, 31, 32, 33, 34, 35, 36, 37] (by kernel_rfl) (by kernel_rfl) (by kernel_rfl) (fun _ => False) (H) ?_
    clear H; intro w4 H hz0
    try clear C
    try simp only [World.size_alloc, List.nil_append, List.cons_append, List.append_assoc] at H hz0 ⊢
    clear hz0
    try clear w2
    have C := H.cells
    try simp only [cellsOf, cellsM, apartOf, apartM, and_true] at C
    have Z := H.zs
    try simp only [ltsOf, ltsM, and_true] at Z
    simp only [List.filterMap_cons, List.filterMap_nil, List.getElem?_toArray, List.getElem?_cons_zero, List.getElem?_cons_succ]
    have hgb : g < w4.heap.size := Item.lt (H.at 1 rfl) (k := g) rfl
    have k0 : w4.cell? ⟨g, k * 5, none⟩ = some (.int .i64 pid) := (H.outerCell 1 rfl rfl hk (m := 0) (by decide) (by rw [HPI.out]; rfl)).1
    (refine wpH_free rfl rfl rfl (fun _ _ => ?_); go_step; go_step)
    (refine wpH_free rfl rfl rfl (fun _ _ => ?_); go_step; go_step)
    (refine wpH_free rfl rfl rfl (fun _ _ => ?_); go_step; go_step)
    (refine wpH_free rfl rfl rfl (fun _ _ => ?_); go_step; go_step)
    (refine wpH_free rfl rfl rfl (fun _ _ => ?_); go_step; go_step)
    (refine wpH_free rfl rfl rfl (fun _ _ => ?_); go_step; go_step)
    (refine wpH_call rfl rfl (fun wc hc _ _ => ?_); go_step; refine (HM1.out _).mono ?_; rintro _ wd ⟨rfl, hb⟩; dsimp only; go_step; refine ⟨_, (hc.belowH (fun _ h => h.1) hb).1, (hc.belowH (fun _ h => h.1) hb).2, ?_⟩; clear hb hc wc wd)
    (refine wpH_free rfl rfl rfl (fun _ _ => ?_); go_step; go_step)
    (refine wpH_free rfl rfl rfl (fun _ _ => ?_); go_step; go_step)
    (refine wpH_free rfl rfl rfl (fun _ _ => ?_); go_step; go_step)
    (refine wpH_call rfl rfl (fun wc hc _ _ => ?_); go_step; refine (HM2.out _).mono ?_; rintro _ wd ⟨rfl, hb⟩; dsimp only; go_step; refine ⟨_, (hc.belowH (fun _ h => h.1) hb).1, (hc.belowH (fun _ h => h.1) hb).2, ?_⟩; clear hb hc wc wd)
    (refine wpH_free rfl rfl rfl (fun _ _ => ?_); go_step; go_step)
    (refine wpH_call rfl rfl (fun wc hc _ _ => ?_); go_step; refine (HM3.out _).mono ?_; rintro _ wd ⟨rfl, hb⟩; dsimp only; go_step; refine ⟨_, (hc.belowH (fun _ h => h.1) hb).1, (hc.belowH (fun _ h => h.1) hb).2, ?_⟩; clear hb hc wc wd)
    (refine wpH_free rfl rfl rfl (fun _ _ => ?_); go_step; go_step)
    (refine wpH_call rfl rfl (fun wc hc _ _ => ?_); go_step; refine (HM4.out _).mono ?_; rintro _ wd ⟨rfl, hb⟩; dsimp only; go_step; refine ⟨_, (hc.belowH (fun _ h => h.1) hb).1, (hc.belowH (fun _ h => h.1) hb).2, ?_⟩; clear hb hc wc wd)
    (refine wpH_free rfl rfl rfl (fun _ _ => ?_); go_step; go_step)
    (refine wpH_free rfl rfl rfl (fun _ _ => ?_); go_step; go_step)
    (refine wpH_free rfl rfl rfl (fun _ _ => ?_); go_step; go_step)
    (refine wpH_free rfl rfl rfl (fun _ _ => ?_); go_step; go_step)
    (refine wpH_free rfl rfl rfl (fun _ _ => ?_); go_step; go_step)
    (refine wpH_free rfl rfl rfl (fun _ _ => ?_); go_step; go_step)
    (refine wpH_call rfl rfl (fun wc hc _ _ => ?_); go_step; refine (HMK.out _).mono ?_; rintro _ wd ⟨rfl, hb⟩; dsimp only; go_step; refine ⟨_, (hc.belowH (fun _ h => h.1) hb).1, (hc.belowH (fun _ h => h.1) hb).2, ?_⟩; clear hb hc wc wd)
    (refine wpH_free rfl rfl rfl (fun _ _ => ?_); go_step; go_step)
    (refine wpH_free rfl rfl rfl (fun _ _ => ?_); go_step; go_step)
    (refine wpH_load rfl rfl rfl (by simp [Stay, OneD, NoD, *]) (by simp [*]) (fun _ _ => ?_); go_step; go_step)
    (refine wpH_free rfl rfl rfl (fun _ _ => ?_); go_step; go_step)
    (refine wpH_call rfl rfl (fun wc hc _ _ => ?_); go_step; refine (HM5.out _).mono ?_; rintro _ wd ⟨rfl, hb⟩; dsimp only; go_step; refine ⟨_, (hc.belowH (fun _ h => h.1) hb).1, (hc.belowH (fun _ h => h.1) hb).2, ?_⟩; clear hb hc wc wd)
    (refine wpH_free rfl rfl rfl (fun _ _ => ?_); go_step; go_step)
    (refine wpH_free rfl rfl rfl (fun _ _ => ?_); go_step; go_step)
    (refine wpH_call rfl rfl (fun wc hc _ _ => ?_); go_step; refine (HM6.out _).mono ?_; rintro _ wd ⟨rfl, hb⟩; dsimp only; go_step; refine ⟨_, (hc.belowH (fun _ h => h.1) hb).1, (hc.belowH (fun _ h => h.1) hb).2, ?_⟩; clear hb hc wc wd)
    (refine wpH_free rfl rfl rfl (fun _ _ => ?_); go_step; go_step)
    (refine wpH_free rfl rfl rfl (fun _ _ => ?_); go_step; go_step)
    (refine wpH_call rfl rfl (fun wc hc _ _ => ?_); go_step; refine (HM7.out _).mono ?_; rintro _ wd ⟨rfl, hb⟩; dsimp only; go_step; refine ⟨_, (hc.belowH (fun _ h => h.1) hb).1, (hc.belowH (fun _ h => h.1) hb).2, ?_⟩; clear hb hc wc wd)
    (refine wpH_free rfl rfl rfl (fun _ _ => ?_); go_step; go_step)
    (refine wpH_free rfl rfl rfl (fun _ _ => ?_); go_step; go_step)
    (refine wpH_lit rfl rfl #[.int .i64 id, .int .i64 page, .int .i64 frame, .int .i64 other, .int .i64 (5 * (1 + m1)), .int .i64 m2, .int .i64 m3, .int .i64 (1 + m4), .int .i64 pid, .int .i64 (m5 + 998), .int .i64 (63 + m6), .int .i64 (m7 + 998)]   53 3 (fun w => by kernel_rfl) (fun bL hbL nbL _ _ => ?_); go_simp; go_step)
    (refine wpH_free rfl rfl rfl (fun _ _ => ?_); go_step; go_step)
    (refine wpH_free rfl rfl rfl (fun _ _ => ?_); go_step; go_step)
    refine wpH_nil ?_
    intro w5 hC
    have hL := hC.laid bL _ (Fl.at _ _ _)
    replace H := hC.hs.lay hL.2.1 (Nat.le_trans H.size hL.1) hL.2.2
    clear hC hL
    try clear C
    try clear Z
    try simp only [List.nil_append, List.cons_append, List.append_assoc, List.set_cons_succ, List.set_cons_zero] at H
    try clear w4
    have C := H.cells
    try simp only [cellsOf, cellsM, apartOf, apartM, and_true] at C
    clear k0 hgb
    generalize id = a0, page = a1, frame = a2, other = a3, 5 * (1 + m1) = b0, m2 = b1, m3 = b2, 1 + m4 = b3, pid = c0, m5 + 998 = c1, 63 + m6 = c2, m7 + 998 = c3 at H
    go_wp2_with fail
    go_loopw [73] (fun jj wr => ∃ (j : Nat), jj = .int .i64 j ∧ j ≤ 3 ∧ HS NoD w [.dice w.heap.size bd, .row (.slice (some ⟨g, 0, none⟩) qs.length d) 31 5 qs.length (qs.flatMap pvC), Item.many (qs.flatMap innerR), .blk bL #[.int .i64 a0, .int .i64 a1, .int .i64 a2, .int .i64 a3, .int .i64 b0, .int .i64 b1, .int .i64 b2, .int .i64 b3, .int .i64 c0, .int .i64 c1, .int .i64 c2, .int .i64 c3] 53] wr) (fun jj _ => 3 - (intOf jj).toNat)
    case atStart => exact ⟨0, rfl, Nat.zero_le _, H⟩
    case round =>
      clear H C
      obtain ⟨j, rfl, hj, H⟩ := hrel
      skip
      try clear C
      try simp only [World.size_alloc, List.nil_append, List.cons_append, List.append_assoc] at H
      have C := H.cells
      try simp only [cellsOf, cellsM, apartOf, apartM, and_true] at C
      by_cases hlt : j < 3
      · skip
        obtain ⟨x0, x1, x2, x3, y0, y1, y2, y3⟩ : ∃ x0 x1 x2 x3, wr.cell? ⟨bL, j * 4, none⟩ = some (.int .i64 x0) ∧ wr.cell? ⟨bL, j * 4 + 1, none⟩ = some (.int .i64 x1) ∧ wr.cell? ⟨bL, j * 4 + 2, none⟩ = some (.int .i64 x2) ∧ wr.cell? ⟨bL, j * 4 + 3, none⟩ = some (.int .i64 x3) := by
          have hB : Blk wr bL _ _ := H.at 3 rfl
          rcases (show j = 0 ∨ j = 1 ∨ j = 2 by omega) with rfl | rfl | rfl
          · exact ⟨_, _, _, _, (hB.cell 0).trans rfl, (hB.cell 1).trans rfl, (hB.cell 2).trans rfl, (hB.cell 3).trans rfl⟩
          · exact ⟨_, _, _, _, (hB.cell 4).trans rfl, (hB.cell 5).trans rfl, (hB.cell 6).trans rfl, (hB.cell 7).trans rfl⟩
          · exact ⟨_, _, _, _, (hB.cell 8).trans rfl, (hB.cell 9).trans rfl, (hB.cell 10).trans rfl, (hB.cell 11).trans rfl⟩
        clear C
        go_upto_region 8 with fail
        clear y0 y1 y2 y3
        generalize hwb : wr.alloc _ = w6
        replace H := HS.eqW hwb H.alloc
        try simp only [World.size_alloc, List.nil_append, List.cons_append, List.append_assoc] at H
        clear hwb
        generalize wr.heap.size = bX at H ⊢
        try clear C
        try clear wr
        have C := H.cells
        try simp only [cellsOf, cellsM, apartOf, apartM, and_true] at C
        obtain ⟨p0, p1, p2, e, hA, hB⟩ := both_find HG.out x0 x1
        have HA := Lib.hid hA
        have HB := Lib.hid hB
        clear hA hB
        go_wp2_with fail
        refine (HA.out _ _ (by have := H.ownPs2 1 2 rfl rfl rfl; rw [HPS.out] at this; exact this)).mono ?_
        rintro _ w7 ⟨rfl, hb⟩
        replace H := H.below hb
        clear hb
        try clear C
        try simp only [World.size_alloc, List.nil_append, List.cons_append, List.append_assoc] at H
        try clear w6
        have C := H.cells
        try simp only [cellsOf, cellsM, apartOf, apartM, and_true] at C
        dsimp only
        clear HA
        go_upto_region 9 with fail
        generalize hwb : w7.alloc _ = w8
        replace H := HS.eqW hwb H.alloc
        try simp only [World.size_alloc, List.nil_append, List.cons_append, List.append_assoc] at H
        clear hwb
        generalize w7.heap.size = bF at H ⊢
        try clear C
        try clear w7
        have C := H.cells
        try simp only [cellsOf, cellsM, apartOf, apartM, and_true] at C
        go_wp2_with fail
        refine (HB.out _ _ (by have := H.ownPs2 1 2 rfl rfl rfl; rw [HPS.out] at this; exact this)).mono ?_
        rintro _ w9 ⟨rfl, hb⟩
        replace H := H.below hb
        clear hb
        try clear C
        try simp only [World.size_alloc, List.nil_append, List.cons_append, List.append_assoc] at H
        try clear w8
        have C := H.cells
        try simp only [cellsOf, cellsM, apartOf, apartM, and_true] at C
        dsimp only
        clear HB
        go_upto_region 10 with fail
        generalize hwb : w9.alloc _ = w10
        replace H := HS.eqW hwb H.alloc
        try simp only [World.size_alloc, List.nil_append, List.cons_append, List.append_assoc] at H
        clear hwb
        generalize w9.heap.size = bG at H ⊢
        try clear C
        try clear w9
        have C := H.cells
        try simp only [cellsOf, cellsM, apartOf, apartM, and_true] at C
        have HU1 := Lib.hid (fun v w h => ousers_any x2 (v := v) HG.out.smallP w h)
        have HU2 := Lib.hid (fun v w h => rusers_any x2 (v := v) HG.out.smallP w h)
        have hul := users_short HG.out x2
        generalize usersL ps x2 = us at HU1 HU2 hul
        have hq9 := fun w => neqPg p0 p1 p2 w
        refine wp_region_xH (by kernel_rfl) (by kernel_rfl) (by kernel_rfl) (by kernel_rfl) (fun _ => False) (H) ?_
        clear H; intro w11 H hz0 hs0
        try clear C
        try simp only [World.size_alloc, List.nil_append, List.cons_append, List.append_assoc] at H hz0
        clear hz0
        try clear w10
        have C := H.cells
        try simp only [cellsOf, cellsM, apartOf, apartM, and_true] at C
        have Z := H.zs
        try simp only [ltsOf, ltsM, and_true] at Z
        have hz0 := Nat.le_refl w11.heap.size
        repeat (first | (refine wpX_skip rfl ?_; go_simp) | (refine wpX_free rfl rfl rfl (fun K hK => ?_); go_step; refine hK _ _ ?_; clear hK K) | (refine wpX_load rfl rfl rfl (by simp [Stay, OneD, NoD, *]) hs0 (by simp [*]) (fun K hK => ?_); go_step; refine hK _ _ ?_; clear hK K))
        (refine wpX_yield rfl rfl ((.bool false)) (fun w hw => by go_simp) ?_; go_simp)
        repeat (first | (refine wpX_skip rfl ?_; go_simp) | (refine wpX_free rfl rfl rfl (fun K hK => ?_); go_step; refine hK _ _ ?_; clear hK K) | (refine wpX_load rfl rfl rfl (by simp [Stay, OneD, NoD, *]) hs0 (by simp [*]) (fun K hK => ?_); go_step; refine hK _ _ ?_; clear hK K))
        refine wpX_eff rfl rfl (fun _ _ => ?_)
        go_step
        refine (HU1.out _ _ (by have := H.ownPs2 1 2 rfl rfl rfl; rw [HPS.out] at this; exact this)).mono ?_
        rintro _ w12 ⟨sa1, ca1, rfl, hr, hb⟩
        replace hs0 := hs0.belowS hz0 hb
        replace hz0 := Nat.le_trans hz0 hb.size
        replace H := H.getsRow hb hr
        clear hb hr
        try simp only [List.nil_append, List.cons_append, List.append_assoc] at H
        try clear C
        have C := H.cells
        try simp only [cellsOf, cellsM, apartOf, apartM, and_true] at C
        try clear w11
        dsimp only
        go_step
        refine ⟨hs0, ?_⟩
        repeat (first | (refine wpX_skip rfl ?_; go_simp) | (refine wpX_free rfl rfl rfl (fun K hK => ?_); go_step; refine hK _ _ ?_; clear hK K) | (refine wpX_load rfl rfl rfl (by simp [Stay, OneD, NoD, *]) hs0 (by simp [*]) (fun K hK => ?_); go_step; refine hK _ _ ?_; clear hK K))
        refine wpX_eff rfl rfl (fun _ _ => ?_)
        go_step
        refine (HU2.out _ _ (by have := H.ownPs2 1 2 rfl rfl rfl; rw [HPS.out] at this; exact this)).mono ?_
        rintro _ w13 ⟨sa2, ca2, rfl, hr, hb⟩
        replace hs0 := hs0.belowS hz0 hb
        replace hz0 := Nat.le_trans hz0 hb.size
        replace H := H.getsRow hb hr
        clear hb hr
        try simp only [List.nil_append, List.cons_append, List.append_assoc] at H
        try clear C
        have C := H.cells
        try simp only [cellsOf, cellsM, apartOf, apartM, and_true] at C
        try clear w12
        dsimp only
        go_step
        refine ⟨hs0, ?_⟩
        refine wpX_eff rfl rfl (fun _ _ => ?_)
        go_step
        refine (uses_of (xs := us) (by omega) ca1 ca2 _ (H.rowLies 7 uC_len rfl rfl) (H.rowLies 8 uC_len rfl rfl)).mono ?_
        rintro _ w14 ⟨rfl, hb⟩
        replace hs0 := hs0.belowS hz0 hb
        replace hz0 := Nat.le_trans hz0 hb.size
        replace H := H.below hb
        clear hb
        try clear C
        have C := H.cells
        try simp only [cellsOf, cellsM, apartOf, apartM, and_true] at C
        try clear w13
        dsimp only
        go_step
        refine ⟨hs0, ?_⟩
        repeat (first | (refine wpX_skip rfl ?_; go_simp) | (refine wpX_free rfl rfl rfl (fun K hK => ?_); go_step; refine hK _ _ ?_; clear hK K) | (refine wpX_load rfl rfl rfl (by simp [Stay, OneD, NoD, *]) hs0 (by simp [*]) (fun K hK => ?_); go_step; refine hK _ _ ?_; clear hK K))
        (refine wpX_nil ?_; go_step)
        clear HU1 HU2 hul hq9
        replace H := H.less (L' := [.dice w.heap.size bd, .row (.slice (some ⟨g, 0, none⟩) qs.length d) 31 5 qs.length (qs.flatMap pvC), Item.many (qs.flatMap innerR), .blk bL #[.int .i64 a0, .int .i64 a1, .int .i64 a2, .int .i64 a3, .int .i64 b0, .int .i64 b1, .int .i64 b2, .int .i64 b3, .int .i64 c0, .int .i64 c1, .int .i64 c2, .int .i64 c3] 53, .blk bX #[.int .i64 x0, .int .i64 x1, .int .i64 x2, .int .i64 x3] 53]) (by repeat (first | exact .slnil | refine .cons_cons _ ?_ | refine .cons _ ?_))
        try clear C
        try clear C
        try simp only [World.size_alloc, List.nil_append, List.cons_append, List.append_assoc] at H
        have C := H.cells
        try simp only [cellsOf, cellsM, apartOf, apartM, and_true] at C
        obtain ⟨e, out, hs, hA, hB⟩ := both_map HG.out x0 x1 x2
        have HS1 := Lib.hid (fun v1 v2 w h1 h2 => same29_of hs (v1 := v1) (v2 := v2) w h1 h2)
        have HA := Lib.hid hA
        have HB := Lib.hid hB
        clear hs hA hB
        go_wp2_with fail
        refine (HA.out _ _ (by have := H.ownPs2 1 2 rfl rfl rfl; rw [HPS.out] at this; exact this)).mono ?_
        rintro _ wv10 ⟨v3, r3, rfl, h3, K⟩
        replace H := H.join1 K
        clear K HA
        simp only [List.nil_append, List.cons_append] at H
        skip
        try clear C
        try simp only [World.size_alloc, List.nil_append, List.cons_append, List.append_assoc] at H
        have C := H.cells
        try simp only [cellsOf, cellsM, apartOf, apartM, and_true] at C
        dsimp only
        go_wp2_with fail
        refine (HB.out _ _ (by have := H.ownPs2 1 2 rfl rfl rfl; rw [HPS.out] at this; exact this)).mono ?_
        rintro _ wv11 ⟨v4, r4, rfl, h4, K⟩
        replace H := H.join1 K
        clear K HB
        simp only [List.nil_append, List.cons_append] at H
        skip
        try clear C
        try simp only [World.size_alloc, List.nil_append, List.cons_append, List.append_assoc] at H
        have C := H.cells
        try simp only [cellsOf, cellsM, apartOf, apartM, and_true] at C
        dsimp only
        go_wp2_with fail
        refine (HS1.out _ _ _ (by have := H.ownPs 5 rfl; rw [h3] at this; exact this) (by have := H.ownPs 6 rfl; rw [h4] at this; exact this)).mono ?_
        rintro _ w15 ⟨rfl, hb⟩
        replace H := H.below hb
        clear hb
        try clear C
        try simp only [World.size_alloc, List.nil_append, List.cons_append, List.append_assoc] at H
        try clear wv11
        have C := H.cells
        try simp only [cellsOf, cellsM, apartOf, apartM, and_true] at C
        dsimp only
        clear HS1
        replace H := H.less (L' := [.dice w.heap.size bd, .row (.slice (some ⟨g, 0, none⟩) qs.length d) 31 5 qs.length (qs.flatMap pvC), Item.many (qs.flatMap innerR), .blk bL #[.int .i64 a0, .int .i64 a1, .int .i64 a2, .int .i64 a3, .int .i64 b0, .int .i64 b1, .int .i64 b2, .int .i64 b3, .int .i64 c0, .int .i64 c1, .int .i64 c2, .int .i64 c3] 53, .blk bX #[.int .i64 x0, .int .i64 x1, .int .i64 x2, .int .i64 x3] 53]) (by repeat (first | exact .slnil | refine .cons_cons _ ?_ | refine .cons _ ?_))
        try clear C
        try clear C
        try simp only [World.size_alloc, List.nil_append, List.cons_append, List.append_assoc] at H
        have C := H.cells
        try simp only [cellsOf, cellsM, apartOf, apartM, and_true] at C
        clear h3 h4
        obtain ⟨e, out, hs, hA, hB⟩ := both_fork HG.out x0 x3
        have HS1 := Lib.hid (fun v1 v2 w h1 h2 => same29_of hs (v1 := v1) (v2 := v2) w h1 h2)
        have HA := Lib.hid hA
        have HB := Lib.hid hB
        clear hs hA hB
        go_wp2_with fail
        refine (HA.out _ _ (by have := H.ownPs2 1 2 rfl rfl rfl; rw [HPS.out] at this; exact this)).mono ?_
        rintro _ wv20 ⟨v3, r3, rfl, h3, K⟩
        replace H := H.join1 K
        clear K HA
        simp only [List.nil_append, List.cons_append] at H
        skip
        try clear C
        try simp only [World.size_alloc, List.nil_append, List.cons_append, List.append_assoc] at H
        have C := H.cells
        try simp only [cellsOf, cellsM, apartOf, apartM, and_true] at C
        dsimp only
        go_wp2_with fail
        refine (HB.out _ _ (by have := H.ownPs2 1 2 rfl rfl rfl; rw [HPS.out] at this; exact this)).mono ?_
        rintro _ wv21 ⟨v4, r4, rfl, h4, K⟩
        replace H := H.join1 K
        clear K HB
        simp only [List.nil_append, List.cons_append] at H
        skip
        try clear C
        try simp only [World.size_alloc, List.nil_append, List.cons_append, List.append_assoc] at H
        have C := H.cells
        try simp only [cellsOf, cellsM, apartOf, apartM, and_true] at C
        dsimp only
        go_wp2_with fail
        refine (HS1.out _ _ _ (by have := H.ownPs 5 rfl; rw [h3] at this; exact this) (by have := H.ownPs 6 rfl; rw [h4] at this; exact this)).mono ?_
        rintro _ w16 ⟨rfl, hb⟩
        replace H := H.below hb
        clear hb
        try clear C
        try simp only [World.size_alloc, List.nil_append, List.cons_append, List.append_assoc] at H
        try clear wv21
        have C := H.cells
        try simp only [cellsOf, cellsM, apartOf, apartM, and_true] at C
        dsimp only
        clear HS1
        replace H := H.less (L' := [.dice w.heap.size bd, .row (.slice (some ⟨g, 0, none⟩) qs.length d) 31 5 qs.length (qs.flatMap pvC), Item.many (qs.flatMap innerR), .blk bL #[.int .i64 a0, .int .i64 a1, .int .i64 a2, .int .i64 a3, .int .i64 b0, .int .i64 b1, .int .i64 b2, .int .i64 b3, .int .i64 c0, .int .i64 c1, .int .i64 c2, .int .i64 c3] 53, .blk bX #[.int .i64 x0, .int .i64 x1, .int .i64 x2, .int .i64 x3] 53]) (by repeat (first | exact .slnil | refine .cons_cons _ ?_ | refine .cons _ ?_))
        try clear C
        try clear C
        try simp only [World.size_alloc, List.nil_append, List.cons_append, List.append_assoc] at H
        have C := H.cells
        try simp only [cellsOf, cellsM, apartOf, apartM, and_true] at C
        clear h3 h4
        obtain ⟨e, out, u, hs, hA, hB⟩ := both_drop HG.out x0 x1
        have HS1 := Lib.hid (fun v1 v2 w h1 h2 => same29_of hs (v1 := v1) (v2 := v2) w h1 h2)
        have HA := Lib.hid hA
        have HB := Lib.hid hB
        clear hs hA hB
        go_wp2_with fail
        refine (HA.out _ _ (by have := H.ownPs2 1 2 rfl rfl rfl; rw [HPS.out] at this; exact this)).mono ?_
        rintro _ wv30 ⟨v3, r3, rfl, h3, K⟩
        replace H := H.join1 K
        clear K HA
        simp only [List.nil_append, List.cons_append] at H
        skip
        try clear C
        try simp only [World.size_alloc, List.nil_append, List.cons_append, List.append_assoc] at H
        have C := H.cells
        try simp only [cellsOf, cellsM, apartOf, apartM, and_true] at C
        dsimp only
        go_wp2_with fail
        refine (HB.out _ _ (by have := H.ownPs2 1 2 rfl rfl rfl; rw [HPS.out] at this; exact this)).mono ?_
        rintro _ wv31 ⟨v4, r4, rfl, h4, K⟩
        replace H := H.join1 K
        clear K HB
        simp only [List.nil_append, List.cons_append] at H
        skip
        try clear C
        try simp only [World.size_alloc, List.nil_append, List.cons_append, List.append_assoc] at H
        have C := H.cells
        try simp only [cellsOf, cellsM, apartOf, apartM, and_true] at C
        dsimp only
        go_wp2_with fail
        refine (HS1.out _ _ _ (by have := H.ownPs 5 rfl; rw [h3] at this; exact this) (by have := H.ownPs 6 rfl; rw [h4] at this; exact this)).mono ?_
        rintro _ w17 ⟨rfl, hb⟩
        replace H := H.below hb
        clear hb
        try clear C
        try simp only [World.size_alloc, List.nil_append, List.cons_append, List.append_assoc] at H
        try clear wv31
        have C := H.cells
        try simp only [cellsOf, cellsM, apartOf, apartM, and_true] at C
        dsimp only
        clear HS1
        replace H := H.less (L' := [.dice w.heap.size bd, .row (.slice (some ⟨g, 0, none⟩) qs.length d) 31 5 qs.length (qs.flatMap pvC), Item.many (qs.flatMap innerR), .blk bL #[.int .i64 a0, .int .i64 a1, .int .i64 a2, .int .i64 a3, .int .i64 b0, .int .i64 b1, .int .i64 b2, .int .i64 b3, .int .i64 c0, .int .i64 c1, .int .i64 c2, .int .i64 c3] 53, .blk bX #[.int .i64 x0, .int .i64 x1, .int .i64 x2, .int .i64 x3] 53]) (by repeat (first | exact .slnil | refine .cons_cons _ ?_ | refine .cons _ ?_))
        try clear C
        try clear C
        try simp only [World.size_alloc, List.nil_append, List.cons_append, List.append_assoc] at H
        have C := H.cells
        try simp only [cellsOf, cellsM, apartOf, apartM, and_true] at C
        clear h3 h4
        obtain ⟨e, out, u, hs, hA, hB⟩ := both_own HG.out x0 x1 x2
        have HS1 := Lib.hid (fun v1 v2 w h1 h2 => same29_of hs (v1 := v1) (v2 := v2) w h1 h2)
        have HA := Lib.hid hA
        have HB := Lib.hid hB
        clear hs hA hB
        go_wp2_with fail
        refine (HA.out _ _ (by have := H.ownPs2 1 2 rfl rfl rfl; rw [HPS.out] at this; exact this)).mono ?_
        rintro _ wv40 ⟨v3, r3, rfl, h3, K⟩
        replace H := H.join1 K
        clear K HA
        simp only [List.nil_append, List.cons_append] at H
        skip
        try clear C
        try simp only [World.size_alloc, List.nil_append, List.cons_append, List.append_assoc] at H
        have C := H.cells
        try simp only [cellsOf, cellsM, apartOf, apartM, and_true] at C
        dsimp only
        go_wp2_with fail
        refine (HB.out _ _ (by have := H.ownPs2 1 2 rfl rfl rfl; rw [HPS.out] at this; exact this)).mono ?_
        rintro _ wv41 ⟨v4, r4, rfl, h4, K⟩
        replace H := H.join1 K
        clear K HB
        simp only [List.nil_append, List.cons_append] at H
        skip
        try clear C
        try simp only [World.size_alloc, List.nil_append, List.cons_append, List.append_assoc] at H
        have C := H.cells
        try simp only [cellsOf, cellsM, apartOf, apartM, and_true] at C
        dsimp only
        go_wp2_with fail
        refine (HS1.out _ _ _ (by have := H.ownPs 5 rfl; rw [h3] at this; exact this) (by have := H.ownPs 6 rfl; rw [h4] at this; exact this)).mono ?_
        rintro _ w18 ⟨rfl, hb⟩
        replace H := H.below hb
        clear hb
        try clear C
        try simp only [World.size_alloc, List.nil_append, List.cons_append, List.append_assoc] at H
        try clear wv41
        have C := H.cells
        try simp only [cellsOf, cellsM, apartOf, apartM, and_true] at C
        dsimp only
        clear HS1
        replace H := H.less (L' := [.dice w.heap.size bd, .row (.slice (some ⟨g, 0, none⟩) qs.length d) 31 5 qs.length (qs.flatMap pvC), Item.many (qs.flatMap innerR), .blk bL #[.int .i64 a0, .int .i64 a1, .int .i64 a2, .int .i64 a3, .int .i64 b0, .int .i64 b1, .int .i64 b2, .int .i64 b3, .int .i64 c0, .int .i64 c1, .int .i64 c2, .int .i64 c3] 53, .blk bX #[.int .i64 x0, .int .i64 x1, .int .i64 x2, .int .i64 x3] 53]) (by repeat (first | exact .slnil | refine .cons_cons _ ?_ | refine .cons _ ?_))
        try clear C
        try clear C
        try simp only [World.size_alloc, List.nil_append, List.cons_append, List.append_assoc] at H
        have C := H.cells
        try simp only [cellsOf, cellsM, apartOf, apartM, and_true] at C
        clear h3 h4
        obtain ⟨e, out, u, hs, hA, hB⟩ := both_tell HG.out x0 x1
        have HS1 := Lib.hid (fun v1 v2 w h1 h2 => same29_of hs (v1 := v1) (v2 := v2) w h1 h2)
        have HA := Lib.hid hA
        have HB := Lib.hid hB
        clear hs hA hB
        go_wp2_with fail
        refine (HA.out _ _ (by have := H.ownPs2 1 2 rfl rfl rfl; rw [HPS.out] at this; exact this)).mono ?_
        rintro _ wv50 ⟨v3, r3, rfl, h3, K⟩
        replace H := H.join1 K
        clear K HA
        simp only [List.nil_append, List.cons_append] at H
        skip
        try clear C
        try simp only [World.size_alloc, List.nil_append, List.cons_append, List.append_assoc] at H
        have C := H.cells
        try simp only [cellsOf, cellsM, apartOf, apartM, and_true] at C
        dsimp only
        go_wp2_with fail
        refine (HB.out _ _ (by have := H.ownPs2 1 2 rfl rfl rfl; rw [HPS.out] at this; exact this)).mono ?_
        rintro _ wv51 ⟨v4, r4, rfl, h4, K⟩
        replace H := H.join1 K
        clear K HB
        simp only [List.nil_append, List.cons_append] at H
        skip
        try clear C
        try simp only [World.size_alloc, List.nil_append, List.cons_append, List.append_assoc] at H
        have C := H.cells
        try simp only [cellsOf, cellsM, apartOf, apartM, and_true] at C
        dsimp only
        go_wp2_with fail
        refine (HS1.out _ _ _ (by have := H.ownPs 5 rfl; rw [h3] at this; exact this) (by have := H.ownPs 6 rfl; rw [h4] at this; exact this)).mono ?_
        rintro _ w19 ⟨rfl, hb⟩
        replace H := H.below hb
        clear hb
        try clear C
        try simp only [World.size_alloc, List.nil_append, List.cons_append, List.append_assoc] at H
        try clear wv51
        have C := H.cells
        try simp only [cellsOf, cellsM, apartOf, apartM, and_true] at C
        dsimp only
        clear HS1
        replace H := H.less (L' := [.dice w.heap.size bd, .row (.slice (some ⟨g, 0, none⟩) qs.length d) 31 5 qs.length (qs.flatMap pvC), Item.many (qs.flatMap innerR), .blk bL #[.int .i64 a0, .int .i64 a1, .int .i64 a2, .int .i64 a3, .int .i64 b0, .int .i64 b1, .int .i64 b2, .int .i64 b3, .int .i64 c0, .int .i64 c1, .int .i64 c2, .int .i64 c3] 53, .blk bX #[.int .i64 x0, .int .i64 x1, .int .i64 x2, .int .i64 x3] 53]) (by repeat (first | exact .slnil | refine .cons_cons _ ?_ | refine .cons _ ?_))
        try clear C
        try clear C
        try simp only [World.size_alloc, List.nil_append, List.cons_append, List.append_assoc] at H
        have C := H.cells
        try simp only [cellsOf, cellsM, apartOf, apartM, and_true] at C
        clear h3 h4
        obtain ⟨e, out, hs, hA, hB⟩ := both_repl HG.out x2 x3
        have HS1 := Lib.hid (fun v1 v2 w h1 h2 => same29_of hs (v1 := v1) (v2 := v2) w h1 h2)
        have HA := Lib.hid hA
        have HB := Lib.hid hB
        clear hs hA hB
        go_wp2_with fail
        refine (HA.out _ _ (by have := H.ownPs2 1 2 rfl rfl rfl; rw [HPS.out] at this; exact this)).mono ?_
        rintro _ wv60 ⟨v3, r3, rfl, h3, K⟩
        replace H := H.join1 K
        clear K HA
        simp only [List.nil_append, List.cons_append] at H
        skip
        try clear C
        try simp only [World.size_alloc, List.nil_append, List.cons_append, List.append_assoc] at H
        have C := H.cells
        try simp only [cellsOf, cellsM, apartOf, apartM, and_true] at C
        dsimp only
        go_wp2_with fail
        refine (HB.out _ _ (by have := H.ownPs2 1 2 rfl rfl rfl; rw [HPS.out] at this; exact this)).mono ?_
        rintro _ wv61 ⟨v4, r4, rfl, h4, K⟩
        replace H := H.join1 K
        clear K HB
        simp only [List.nil_append, List.cons_append] at H
        skip
        try clear C
        try simp only [World.size_alloc, List.nil_append, List.cons_append, List.append_assoc] at H
        have C := H.cells
        try simp only [cellsOf, cellsM, apartOf, apartM, and_true] at C
        dsimp only
        go_wp2_with fail
        refine (HS1.out _ _ _ (by have := H.ownPs 5 rfl; rw [h3] at this; exact this) (by have := H.ownPs 6 rfl; rw [h4] at this; exact this)).mono ?_
        rintro _ w20 ⟨rfl, hb⟩
        replace H := H.below hb
        clear hb
        try clear C
        try simp only [World.size_alloc, List.nil_append, List.cons_append, List.append_assoc] at H
        try clear wv61
        have C := H.cells
        try simp only [cellsOf, cellsM, apartOf, apartM, and_true] at C
        dsimp only
        clear HS1
        replace H := H.less (L' := [.dice w.heap.size bd, .row (.slice (some ⟨g, 0, none⟩) qs.length d) 31 5 qs.length (qs.flatMap pvC), Item.many (qs.flatMap innerR), .blk bL #[.int .i64 a0, .int .i64 a1, .int .i64 a2, .int .i64 a3, .int .i64 b0, .int .i64 b1, .int .i64 b2, .int .i64 b3, .int .i64 c0, .int .i64 c1, .int .i64 c2, .int .i64 c3] 53, .blk bX #[.int .i64 x0, .int .i64 x1, .int .i64 x2, .int .i64 x3] 53]) (by repeat (first | exact .slnil | refine .cons_cons _ ?_ | refine .cons _ ?_))
        try clear C
        try clear C
        try simp only [World.size_alloc, List.nil_append, List.cons_append, List.append_assoc] at H
        have C := H.cells
        try simp only [cellsOf, cellsM, apartOf, apartM, and_true] at C
        clear h3 h4
        obtain ⟨e, out, l, hs, hl, hA, hB⟩ := both_end HG.out x0
        have HS1 := Lib.hid (fun v1 v2 w h1 h2 => same29_of hs (v1 := v1) (v2 := v2) w h1 h2)
        have HA := Lib.hid hA
        have HB := Lib.hid hB
        clear hs hA hB
        have HI1 := Lib.hid (fun c d sa sb w h1 h2 => ints_of (xs := l) (by omega) c d (sa := sa) (sb := sb) w h1 h2)
        clear hl
        go_wp2_with fail
        refine (HA.out _ _ (by have := H.ownPs2 1 2 rfl rfl rfl; rw [HPS.out] at this; exact this)).mono ?_
        rintro _ wv70 ⟨v3, r3, s3, d3, rfl, h3, K⟩
        replace H := H.join K (fun A hA => by simp only [List.mem_cons, List.mem_nil_iff, or_false] at hA; rcases hA with rfl | rfl <;> rfl)
        clear K HA
        simp only [List.nil_append, List.cons_append] at H
        skip
        try clear C
        try simp only [World.size_alloc, List.nil_append, List.cons_append, List.append_assoc] at H
        have C := H.cells
        try simp only [cellsOf, cellsM, apartOf, apartM, and_true] at C
        dsimp only
        go_wp2_with fail
        refine (HB.out _ _ (by have := H.ownPs2 1 2 rfl rfl rfl; rw [HPS.out] at this; exact this)).mono ?_
        rintro _ wv71 ⟨v4, r4, s4, d4, rfl, h4, K⟩
        replace H := H.join K (fun A hA => by simp only [List.mem_cons, List.mem_nil_iff, or_false] at hA; rcases hA with rfl | rfl <;> rfl)
        clear K HB
        simp only [List.nil_append, List.cons_append] at H
        skip
        try clear C
        try simp only [World.size_alloc, List.nil_append, List.cons_append, List.append_assoc] at H
        have C := H.cells
        try simp only [cellsOf, cellsM, apartOf, apartM, and_true] at C
        dsimp only
        go_wp2_with fail
        refine (HS1.out _ _ _ (by have := H.ownPs 5 rfl; rw [h3] at this; exact this) (by have := H.ownPs 7 rfl; rw [h4] at this; exact this)).mono ?_
        rintro _ w21 ⟨rfl, hb⟩
        replace H := H.below hb
        clear hb
        try clear C
        try simp only [World.size_alloc, List.nil_append, List.cons_append, List.append_assoc] at H
        try clear wv71
        have C := H.cells
        try simp only [cellsOf, cellsM, apartOf, apartM, and_true] at C
        dsimp only
        clear HS1
        go_wp2_with fail
        refine (HI1.out _ _ _ _ _ (H.rowLies 6 iC_len rfl rfl) (H.rowLies 8 iC_len rfl rfl)).mono ?_
        rintro _ w22 ⟨rfl, hb⟩
        replace H := H.below hb
        clear hb
        try clear C
        try simp only [World.size_alloc, List.nil_append, List.cons_append, List.append_assoc] at H
        try clear w21
        have C := H.cells
        try simp only [cellsOf, cellsM, apartOf, apartM, and_true] at C
        dsimp only
        clear HI1
        replace H := H.less (L' := [.dice w.heap.size bd, .row (.slice (some ⟨g, 0, none⟩) qs.length d) 31 5 qs.length (qs.flatMap pvC), Item.many (qs.flatMap innerR), .blk bL #[.int .i64 a0, .int .i64 a1, .int .i64 a2, .int .i64 a3, .int .i64 b0, .int .i64 b1, .int .i64 b2, .int .i64 b3, .int .i64 c0, .int .i64 c1, .int .i64 c2, .int .i64 c3] 53, .blk bX #[.int .i64 x0, .int .i64 x1, .int .i64 x2, .int .i64 x3] 53]) (by repeat (first | exact .slnil | refine .cons_cons _ ?_ | refine .cons _ ?_))
        try clear C
        try clear C
        try simp only [World.size_alloc, List.nil_append, List.cons_append, List.append_assoc] at H
        have C := H.cells
        try simp only [cellsOf, cellsM, apartOf, apartM, and_true] at C
        clear h3 h4
        go_wp2_with fail
        go_roundw
        case rel => exact ⟨j + 1, by go_num, by omega, HS.less (L' := [.dice w.heap.size bd, .row (.slice (some ⟨g, 0, none⟩) qs.length d) 31 5 qs.length (qs.flatMap pvC), Item.many (qs.flatMap innerR), .blk bL #[.int .i64 a0, .int .i64 a1, .int .i64 a2, .int .i64 a3, .int .i64 b0, .int .i64 b1, .int .i64 b2, .int .i64 b3, .int .i64 c0, .int .i64 c1, .int .i64 c2, .int .i64 c3] 53]) H (by repeat (first | exact .slnil | refine .cons_cons _ ?_ | refine .cons _ ?_))⟩
        case measure => simp [intOf]; omega
      · go_wp2_with fail
        refine (HAW.out _).mono ?_
        rintro _ w23 ⟨rfl, hb⟩
        replace H := H.below hb
        clear hb
        try clear C
        try simp only [World.size_alloc, List.nil_append, List.cons_append, List.append_assoc] at H
        try clear w22
        have C := H.cells
        try simp only [cellsOf, cellsM, apartOf, apartM, and_true] at C
        dsimp only
        go_wp2_with fail
        go_ret
        exact ⟨rfl, H.done⟩
  · rw [decide_eq_false h400] at hli
    have HLI := Lib.hid hli
    clear hli
    go_enter Try.func6, Try.ntmps6
    have H := HS.start NoD w
    go_wp2_with fail
    refine (gives_of (HLI.out _)).mono ?_
    rintro _ w1 ⟨rfl, hb⟩
    replace H := H.below hb
    clear hb
    try clear C
    try simp only [World.size_alloc, List.nil_append, List.cons_append, List.append_assoc] at H
    have C := H.cells
    try simp only [cellsOf, cellsM, apartOf, apartM, and_true] at C
    dsimp only
    go_wp2_with fail
    refine (HAW.out _).mono ?_
    rintro _ w2 ⟨rfl, hb⟩
    replace H := H.below hb
    clear hb
    try clear C
    try simp only [World.size_alloc, List.nil_append, List.cons_append, List.append_assoc] at H
    try clear w1
    have C := H.cells
    try simp only [cellsOf, cellsM, apartOf, apartM, and_true] at C
    dsimp only
    go_wp2_with fail
    go_ret
    exact ⟨rfl, H.done⟩
end Go.Proofs.Ytmnddnlabdafcaa
