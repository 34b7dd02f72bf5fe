/- The statement ContainApplies: its walk. -/
import Derived.Test.YtedbpmckgiifpaaGreatJ10
import Derived.Test.YtedbpmckgiifpaaGreatSm29
namespace Go.Proofs.YtedbpmckgiifpaaGreat
set_option linter.unusedSimpArgs false
set_option linter.unusedVariables false
open Go.RowKit
set_option maxRecDepth 100000
attribute [local go_sem] lt_more ne_more ne_more'
attribute [local irreducible] wpX wpF Calls

theorem gives_ofA {n : Nat} {args : Array Value} {v : Value} {w : World} (h : Calls Tryz.prog n args w fun e w' => e = .returned v ∧ w = w') : Calls Tryz.prog n args w (Gives v w) :=
  h.mono fun e w' ⟨h1, h2⟩ => ⟨h1, h2 ▸ Below.refl _ _⟩
theorem small_nilA : SmallP [] := ⟨Nat.zero_le _, fun p hp => absurd hp List.not_mem_nil⟩
theorem apply_small {F : List Fr} {ps : List Pr} (h : Held F ps) (d : Dd) : (applyP F ps d).2.1.length ≤ F.length ∧ SmallP (applyP F ps d).2.2 := by
  have hg := h.pr.good
  have hF2 := h.fr.high
  have hs := hg.smallP
  have g64 : GoodP 64 ps := hg.mono (by omega)
  have hca : (carryP F ps d).2.1.length ≤ F.length ∧ SmallP (carryP F ps d).2.2 := by
    unfold carryP
    by_cases k1 : d.k = 1
    · rw [if_pos k1]
      refine ⟨?_, hs⟩
      dsimp only
      unfold retireP
      repeat' split
      all_goals first
        | exact Nat.zero_le _
        | (rw [List.length_set]; exact Nat.le_refl _)
    rw [if_neg k1]
    by_cases k2 : d.k = 2 ∨ d.k = 3
    · rw [if_pos k2]
      unfold shiftP
      dsimp only
      by_cases e : (replP ps d.f d.tq).1 ≠ 0
      · rw [if_pos e]; exact ⟨Nat.zero_le _, small_nilA⟩
      · rw [if_neg e]
        dsimp only
        refine ⟨by rw [List.length_set, List.length_set]; exact Nat.le_refl _, ?_⟩
        have e0 : (replP ps d.f d.tq).1 = 0 := Classical.not_not.1 e
        have hb : d.tq < 64 := by
          refine Classical.byContradiction fun hn => ?_
          unfold replP at e0
          rw [if_pos (by omega)] at e0
          cases e0
        exact (g64.repl hb (Prod.ext e0 rfl)).1.smallP
    rw [if_neg k2]
    by_cases k4 : d.k = 4
    · rw [if_pos k4]
      unfold ctellP
      dsimp only
      by_cases e : (tellP ps d.p d.g).1 ≠ 0
      · rw [if_pos e]; exact ⟨Nat.zero_le _, small_nilA⟩
      · rw [if_neg e]
        by_cases e2 : hasB ps d.f d.p d.g = false
        · rw [if_pos e2]; exact ⟨Nat.zero_le _, small_nilA⟩
        · rw [if_neg e2]
          exact ⟨Nat.le_refl _, (g64.tell (Prod.ext (Classical.not_not.1 e) rfl)).1.smallP⟩
    rw [if_neg k4]
    by_cases k5 : d.k = 5
    · rw [if_pos k5]
      unfold ckillP
      dsimp only
      by_cases e : (endP ps d.p).1 ≠ 0
      · rw [if_pos e]; exact ⟨Nat.zero_le _, small_nilA⟩
      · rw [if_neg e]
        have e0 : endP ps d.p = (0, (endP ps d.p).2.1, (endP ps d.p).2.2) := Prod.ext (Classical.not_not.1 e) rfl
        obtain ⟨G, hG, hGl⟩ := ends_gives h e0 d.f
        rw [hG]
        dsimp only
        rw [if_neg (by simp)]
        by_cases e2 : hasB ps d.f d.p (-1) = false
        · rw [if_pos e2]; exact ⟨Nat.zero_le _, small_nilA⟩
        · rw [if_neg e2]
          exact ⟨Nat.le_of_eq hGl, (g64.ends e0).1.smallP⟩
    rw [if_neg k5]
    exact ⟨Nat.le_refl _, hs⟩
  unfold applyP
  by_cases h1 : d.k < 1 ∨ 6 < d.k
  · rw [if_pos h1]; exact ⟨Nat.le_refl _, hs⟩
  rw [if_neg h1]
  by_cases h2 : d.f < 0 ∨ (F.length : Int) ≤ d.f ∨ ((d.k = 2 ∨ d.k = 3) ∧ freeAtF F d.tq = false)
  · rw [if_pos h2]; exact ⟨Nat.le_refl _, hs⟩
  rw [if_neg h2]
  by_cases h3 : stateE F ps d ≠ 0
  · rw [if_pos h3]; exact ⟨Nat.le_refl _, hs⟩
  rw [if_neg h3]
  by_cases h4 : (carryP F ps d).1 ≠ 0
  · rw [if_pos h4]; exact ⟨Nat.le_refl _, hs⟩
  rw [if_neg h4]
  exact hca
set_option maxHeartbeats 16000000 in
theorem app_walk (sa : Option Addr) (len cap : Nat) (hl : len ≤ maxLen) (r0 r1 r2 r3 r4 kind f tz program page : Int) (w : World) (hI : Ints w sa len) :
    Calls Tryz.prog 3 #[.slice sa len cap, .agg #[.int .i64 r0, .int .i64 r1, .int .i64 r2, .int .i64 r3, .int .i64 r4], .int .i64 kind, .int .i64 f, .int .i64 tz, .int .i64 program, .int .i64 page] w (Gives (.bool true) w) := by
  have HI := Lib.hid hI
  clear hI
  have hli := light_any sa len cap hl
  clear hl
  have HAW := Lib.hid awake33_any
  by_cases h400 : len ≤ 400
  · rw [decide_eq_true h400] at hli
    have HLI := Lib.hid hli
    clear hli
    go_enter Tryz.func3, Tryz.ntmps3
    have H := HS.start NoD w
    go_upto_region 1 with fail
    generalize hwb : w.alloc _ = w1
    replace H := HS.eqW hwb H.alloc
    try simp only [World.size_alloc, List.nil_append, List.cons_append, List.append_assoc] at H
    clear hwb
    generalize w.heap.size = bR at H ⊢
    try clear C
    have C := H.cells
    try simp only [cellsOf, cellsM, apartOf, apartM, and_true] at C
    go_wp2_with fail
    refine (gives_ofA (HLI.out _)).mono ?_
    rintro _ w2 ⟨rfl, hb⟩
    replace H := H.below hb
    clear hb
    try clear C
    try simp only [World.size_alloc, List.nil_append, List.cons_append, List.append_assoc] at H
    try clear w1
    have C := H.cells
    try simp only [cellsOf, cellsM, apartOf, apartM, and_true] at C
    dsimp only
    go_wp2_with fail
    refine (roll_at w.heap.size _ _ _ h400 _ H.size (H.ints HI.out)).mono ?_
    rintro _ w3 ⟨bd, rfl, hd, hb, hbb⟩
    replace H := H.getsDice hb hd hbb (Nat.le_refl _)
    clear hb hd hbb
    try clear C
    try simp only [World.size_alloc, List.nil_append, List.cons_append, List.append_assoc] at H
    try clear w2
    have C := H.cells
    try simp only [cellsOf, cellsM, apartOf, apartM, and_true] at C
    dsimp only
    go_wp2_with fail
    refine (mheld_any w.heap.size bd _ (H.at 1 rfl) H.size).mono ?_
    rintro _ w2 ⟨v1, F, u, qs, rfl, hhe, K⟩
    replace H := HS.joinDice H 1 rfl K (fun A hA => by simp only [List.mem_cons, List.mem_nil_iff, or_false] at hA; rcases hA with rfl | rfl <;> rfl)
    clear K
    simp only [List.nil_append, List.cons_append] at H
    have hF1 := hhe.fr.low
    have hF2 := hhe.fr.high
    obtain ⟨sf, cf, rfl⟩ := ownsRow_slice (H.at 2 rfl)
    obtain ⟨ps, hps⟩ : ∃ ps, qs.map (·.p) = ps := ⟨_, rfl⟩
    rw [hps] at hhe
    have HPS := Lib.hid hps
    have HHE := Lib.hid hhe
    clear hhe hps
    have HAP := Lib.hid (fun d sa c w hl hp => capply_any HHE.out.fr HHE.out.pr.good d (sa := sa) c (v := u) w hl hp)
    have HRA := Lib.hid (fun d sa c hc w hl hp => rapply_any HHE.out d (sa := sa) (c := c) hc (v := u) w hl hp)
    have HUS := Lib.hid (fun k w h => rusers_any k (v := u) HHE.out.pr.good.smallP w h)
    have HUL := Lib.hid (fun k => users_short HHE.out.pr.good k)
    skip
    try clear C
    try simp only [World.size_alloc, List.nil_append, List.cons_append, List.append_assoc] at H
    have C := H.cells
    try simp only [cellsOf, cellsM, apartOf, apartM, and_true] at C
    dsimp only
    have hL1 : IntKind.i64.wrap ((F.length : Int) + 1) = (F.length : Int) + 1 := IntWalk.i64_in _ (by omega)
    have HM1 := Lib.hid (fun w => gives_ofA (mod_any kind 8 w))
    have HM2 := Lib.hid (fun w => gives_ofA (mod_any f ((F.length : Int) + 1) w))
    have HM3 := Lib.hid (fun w => gives_ofA (mod_any tz ((F.length : Int) + 1) w))
    have HM4 := Lib.hid (fun w => gives_ofA (mod_any program 3 w))
    have HM5 := Lib.hid (fun w => gives_ofA (mod_any page 8 w))
    have HM6 := Lib.hid (fun w => mod_any kind 2 w)
    have hm4 := modF_in (n := program) (m := 3) (by decide) (by decide)
    have hm6 := modF_in (n := kind) (m := 2) (by decide) (by decide)
    generalize modF kind 8 = m1 at HM1
    generalize modF f ((F.length : Int) + 1) = m2 at HM2
    generalize modF tz ((F.length : Int) + 1) = m3 at HM3
    generalize modF program 3 = m4 at HM4 hm4
    generalize modF page 8 = m5 at HM5
    generalize modF kind 2 = m6 at HM6 hm6
    go_wp2_with fail
    refine (HM1.out _).mono ?_
    rintro _ w4 ⟨rfl, hb⟩
    replace H := H.below hb
    clear hb
    try clear C
    try simp only [World.size_alloc, List.nil_append, List.cons_append, List.append_assoc] at H
    try clear w2
    have C := H.cells
    try simp only [cellsOf, cellsM, apartOf, apartM, and_true] at C
    dsimp only
    go_wp2_with fail
    refine (HM2.out _).mono ?_
    rintro _ w5 ⟨rfl, hb⟩
    replace H := H.below hb
    clear hb
    try clear C
    try simp only [World.size_alloc, List.nil_append, List.cons_append, List.append_assoc] at H
    try clear w4
    have C := H.cells
    try simp only [cellsOf, cellsM, apartOf, apartM, and_true] at C
    dsimp only
    go_wp2_with fail
    refine (HM3.out _).mono ?_
    rintro _ w6 ⟨rfl, hb⟩
    replace H := H.below hb
    clear hb
    try clear C
    try simp only [World.size_alloc, List.nil_append, List.cons_append, List.append_assoc] at H
    try clear w5
    have C := H.cells
    try simp only [cellsOf, cellsM, apartOf, apartM, and_true] at C
    dsimp only
    go_wp2_with fail
    refine (HM4.out _).mono ?_
    rintro _ w7 ⟨rfl, hb⟩
    replace H := H.below hb
    clear hb
    try clear C
    try simp only [World.size_alloc, List.nil_append, List.cons_append, List.append_assoc] at H
    try clear w6
    have C := H.cells
    try simp only [cellsOf, cellsM, apartOf, apartM, and_true] at C
    dsimp only
    have hq1 : IntKind.i64.wrap (1 + m4) = 1 + m4 := IntWalk.i64_in _ (by omega)
    have hq2 : IntKind.i64.wrap (5 * (1 + m4)) = 5 * (1 + m4) := IntWalk.i64_in _ (by omega)
    go_wp2_with fail
    refine (HM5.out _).mono ?_
    rintro _ w8 ⟨rfl, hb⟩
    replace H := H.below hb
    clear hb
    try clear C
    try simp only [World.size_alloc, List.nil_append, List.cons_append, List.append_assoc] at H
    try clear w7
    have C := H.cells
    try simp only [cellsOf, cellsM, apartOf, apartM, and_true] at C
    dsimp only
    clear HM1 HM2 HM3 HM4 HM5
    go_upto_region 6 with fail
    generalize hwb : (w8.alloc _).alloc _ = w9
    replace H := HS.eqW hwb H.alloc.alloc
    try simp only [World.size_alloc, List.nil_append, List.cons_append, List.append_assoc] at H
    clear hwb
    generalize w8.heap.size + 1 = bN at H ⊢
    generalize w8.heap.size = bD at H ⊢
    try clear C
    try clear w8
    have C := H.cells
    try simp only [cellsOf, cellsM, apartOf, apartM, and_true] at C
    obtain ⟨pp, hpp⟩ : ∃ x, x = 5 * (1 + m4) := ⟨_, rfl⟩
    rw [← hpp] at H
    clear hpp hq1 hq2 hm4
    try clear C
    try simp only [World.size_alloc, List.nil_append, List.cons_append, List.append_assoc] at H
    have C := H.cells
    try simp only [cellsOf, cellsM, apartOf, apartM, and_true] at C
    go_wp2_with fail
    have hus := HUS.out m2 _ (by have := H.ownPs 3 rfl; rw [HPS.out] at this; exact this)
    have hul := HUL.out m2
    generalize usersL ps m2 = us at hus hul
    refine (hus).mono ?_
    rintro _ w10 ⟨s5, d5, rfl, hr, hb⟩
    replace H := (H).getsRow hb hr
    clear hb hr
    try clear C
    try simp only [World.size_alloc, List.nil_append, List.cons_append, List.append_assoc] at H
    try clear w9
    have C := H.cells
    try simp only [cellsOf, cellsM, apartOf, apartM, and_true] at C
    dsimp only
    clear hus HUS HUL
    obtain ⟨bq, hbq⟩ : ∃ x, x = 4 + m6 := ⟨_, rfl⟩
    have hq6 : IntKind.i64.wrap (4 + m6) = bq := by rw [hbq]; exact IntWalk.i64_in _ (by omega)
    obtain ⟨mv, hmv⟩ : ∃ x, x = 2 + m6 := ⟨_, rfl⟩
    have hq7 : IntKind.i64.wrap (2 + m6) = mv := by rw [hmv]; exact IntWalk.i64_in _ (by omega)
    clear hbq hmv hm6
    go_upto_region 7 with fail
    iterate 13 go_step
    go_cut [20] from 64 to 83 (fun y wx => ∃ nk np ng : Int, HS NoD w [.blk bR #[.int .i64 r0, .int .i64 r1, .int .i64 r2, .int .i64 r3, .int .i64 r4] 24, .dice w.heap.size bd, .row (.slice sf F.length cf) 47 2 F.length (F.flatMap frC), Item.many (PsR u qs), .blk bD #[.int .i64 m1, .int .i64 m2, .int .i64 m3, .int .i64 pp, .int .i64 m5] 24, .blk bN #[.int .i64 nk, .int .i64 m2, .int .i64 m3, .int .i64 np, .int .i64 ng] 24] wx)
    case first =>
      skip
      by_cases hu : 0 < us.length
      · have hui : (0 : Int) < us.length := by omega
        have HM7 := Lib.hid (fun w => gives_ofA (mod_any program us.length w))
        have hm7 := modF_in (n := program) (m := us.length) (by omega) (by omega)
        generalize modF program us.length = m7 at HM7 hm7
        obtain ⟨m, rfl⟩ : ∃ m : Nat, m7 = m := ⟨m7.toNat, by omega⟩
        have hmu : m < us.length := by omega
        go_wp2_with fail
        refine (HM7.out _).mono ?_
        rintro _ w11 ⟨rfl, hb⟩
        replace H := H.below hb
        clear hb
        try clear C
        try simp only [World.size_alloc, List.nil_append, List.cons_append, List.append_assoc] at H
        try clear w10
        have C := H.cells
        try simp only [cellsOf, cellsM, apartOf, apartM, and_true] at C
        dsimp only
        clear HM7
        obtain ⟨b, o, hso, hb2, c0, c1⟩ := usersCell (H.rowLies 6 uC_len rfl rfl) hmu
        subst hso
        generalize (us[m]!).1 = u1 at c0
        generalize (us[m]!).2 = u2 at c1
        have n1 : (b = (w11).heap.size) = False := eq_false (by omega)
        have n2 : ((w11).heap.size = b) = False := eq_false (by omega)
        go_upto_region 9 with fail
        clear c0 c1 n1 n2
        generalize hwb : w11.alloc _ = w12
        replace H := HS.eqW hwb H.alloc
        try simp only [World.size_alloc, List.nil_append, List.cons_append, List.append_assoc] at H
        clear hwb
        generalize w11.heap.size = bU at H ⊢
        try clear C
        try clear w11
        have C := H.cells
        try simp only [cellsOf, cellsM, apartOf, apartM, and_true] at C
        go_region_law (go_simp; go_at_call 8; refine (HM6.out _).mono ?_; rintro _ _ ⟨rfl, rfl⟩)
        all_goals go_wp2_with fail
        all_goals go_meet
        all_goals refine ⟨bq, u1, u2, ?_⟩
        all_goals first
          | exact HS.less (((H.setTo (o := 3) (v := .int .i64 u1) 5 rfl rfl).setTo (o := 4) (v := .int .i64 u2) 5 rfl rfl).setTo (o := 0) (v := .int .i64 bq) 5 rfl rfl).drew (by repeat (first | exact .slnil | refine .cons_cons _ ?_ | refine .cons _ ?_))
      · have hui : ¬ (0 : Int) < us.length := by omega
        skip
        go_wp2_with fail
        go_meet
        case rel => exact ⟨m1, pp, m5, HS.less H (by repeat (first | exact .slnil | refine .cons_cons _ ?_ | refine .cons _ ?_))⟩
    case rest =>
      clear H C hul
      obtain ⟨nk, np, ng, H⟩ := hcut
      skip
      try clear C
      try simp only [World.size_alloc, List.nil_append, List.cons_append, List.append_assoc] at H
      have C := H.cells
      try simp only [cellsOf, cellsM, apartOf, apartM, and_true] at C
      have HFRE := Lib.hid (fun w hl => r28free_any (F := F) (by omega) cf (sa := sf) w hl)
      generalize freeI F = fi at HFRE
      go_upto_region 10 with fail
      refine wp_region_fH (by kernel_rfl) [0, 1, 2, 3, 4, 5, 6, 7, 8, 9] (by kernel_rfl) (by kernel_rfl) (by kernel_rfl) (fun _ => False) (H) ?_
      clear H; intro w13 H hz0
      try clear C
      try simp only [World.size_alloc, List.nil_append, List.cons_append, List.append_assoc] at H hz0 ⊢
      clear hz0
      try clear wc
      have C := H.cells
      try simp only [cellsOf, cellsM, apartOf, apartM, and_true] at C
      simp only [List.filterMap_cons, List.filterMap_nil, List.getElem?_toArray, List.getElem?_cons_zero, List.getElem?_cons_succ]
      (refine wpF_free rfl rfl rfl (fun _ _ => ?_); go_step; go_step)
      (refine wpF_call rfl rfl (fun wc hc _ _ => ?_); go_step; refine (gives_ofA (HM6.out _)).mono ?_; rintro _ wd ⟨rfl, hb⟩; dsimp only; go_step; refine ⟨hc.below (fun _ h => h.lt) hb (hc.inv.below hb), fun k _ hk => hb.block k hk, ?_⟩; clear hb hc wc wd)
      (refine wpF_free rfl rfl rfl (fun _ _ => ?_); go_step; go_step)
      (refine wpF_free rfl rfl rfl (fun _ _ => ?_); go_step; go_step)
      (refine wpF_load rfl rfl rfl (by simp [Stay, OneD, NoD, *]) (by simp [*]) (fun _ _ => ?_); go_step; go_step)
      (refine wpF_free rfl rfl rfl (fun _ _ => ?_); go_step; go_step)
      (refine wpF_call rfl rfl (fun wc hc _ _ => ?_); go_step; refine (HFRE.out _ (hc.inv.rowLies 2 frC_len rfl rfl)).mono ?_; rintro _ wd ⟨rfl, hb⟩; dsimp only; go_step; refine ⟨hc.below (fun _ h => h.lt) hb (hc.inv.below hb), fun k _ hk => hb.block k hk, ?_⟩; clear hb hc wc wd)
      (refine wpF_free rfl rfl rfl (fun _ _ => ?_); go_step; go_step)
      (refine wpF_float rfl rfl #[.int .i64 0, .int .i64 0, .int .i64 0, .int .i64 0, .int .i64 0]   24 (fun w => by kernel_rfl) (fun bM hbM nbM _ _ => ?_); go_simp; go_step)
      (refine wpF_store (cs := #[.int .i64 mv, .int .i64 m2, .int .i64 fi, .int .i64 0, .int .i64 0]) rfl rfl rfl rfl (Fl.at _ _ _) rfl (by kernel_rfl) rfl rfl (fun _ _ => ?_); go_simp; go_step)
      refine wpF_nil ?_
      intro w14 hC
      replace H := H.floats1 hC (Fl.at _ _ _)
      clear hC C hbM nbM w13
      try simp only [List.nil_append, List.cons_append, List.append_assoc] at H
      have C := H.cells
      try simp only [cellsOf, cellsM, apartOf, apartM, and_true] at C
      go_step
      go_step
      clear HM6 HFRE
      go_upto_region 12 with fail
      generalize hwb : w14.alloc _ = w15
      replace H := HS.eqW hwb H.alloc
      try simp only [World.size_alloc, List.nil_append, List.cons_append, List.append_assoc] at H
      clear hwb
      generalize w14.heap.size = bL at H ⊢
      try clear C
      try clear w14
      have C := H.cells
      try simp only [cellsOf, cellsM, apartOf, apartM, and_true] at C
      obtain ⟨xs, hxs⟩ : ∃ xs : List Dd, xs = [⟨r0, r1, r2, r3, r4⟩, ⟨m1, m2, m3, pp, m5⟩, ⟨nk, m2, m3, np, ng⟩, ⟨mv, m2, fi, 0, 0⟩, ⟨1, m2, 0, 0, 0⟩] := ⟨_, rfl⟩
      have hxl : xs.length = 5 := by rw [hxs]; rfl
      replace H : HS NoD w [.row (.slice sf F.length cf) 47 2 F.length (F.flatMap frC), Item.many (PsR u qs), .blk bL (xs.flatMap ddC).toArray 24] w15 := by
        have H9 := HS.less (L' := [.row (.slice sf F.length cf) 47 2 F.length (F.flatMap frC), Item.many (PsR u qs), .blk bL _ 24]) H (by repeat (first | exact .slnil | refine .cons_cons _ ?_ | refine .cons _ ?_))
        rw [hxs]
        exact H9
      have HXL := Lib.hid hxl
      clear hxs hxl
      try clear C
      try simp only [World.size_alloc, List.nil_append, List.cons_append, List.append_assoc] at H
      have C := H.cells
      try simp only [cellsOf, cellsM, apartOf, apartM, and_true] at C
      have HSMA := Lib.hid (fun d => apply_small HHE.out d)
      have HEQ := Lib.hid (fun d => rapply_eq HHE.out d)
      have hLEN : F.length ≤ 1000 := by omega
      clear hF1 hF2 hL1 hq6 hq7
      go_loopw [101] (fun jj wr => ∃ (j : Nat), jj = .int .i64 j ∧ j ≤ 5 ∧ HS NoD w [.row (.slice sf F.length cf) 47 2 F.length (F.flatMap frC), Item.many (PsR u qs), .blk bL (xs.flatMap ddC).toArray 24] wr) (fun jj _ => 5 - (intOf jj).toNat)
      case atStart => exact ⟨0, rfl, by omega, H⟩
      case round =>
        clear H C
        obtain ⟨j, rfl, hj, H⟩ := hrel
        skip
        try clear C
        try simp only [World.size_alloc, List.nil_append, List.cons_append, List.append_assoc] at H
        have C := H.cells
        try simp only [cellsOf, cellsM, apartOf, apartM, and_true] at C
        by_cases hlt : j < 5
        · obtain ⟨b, o, e9, hb9, hc⟩ := (H.blkLies 2 ddC_len (xs := xs) (n := xs.length) rfl rfl rfl).at (j := j) (by rw [HXL.out]; exact hlt)
          obtain ⟨rfl, rfl⟩ : bL = b ∧ 0 = o := by simpa using e9
          obtain ⟨d, hd⟩ : ∃ d, d = xs[j]! := ⟨_, rfl⟩
          rw [← hd] at hc
          clear hd e9 hb9
          obtain ⟨dk, df, dt, dp, dg⟩ := d
          simp only [Nat.zero_add] at hc
          have c0 : wr.cell? ⟨bL, j * 5, none⟩ = some (.int .i64 dk) := hc 0 _ rfl
          have c1 : wr.cell? ⟨bL, j * 5 + 1, none⟩ = some (.int .i64 df) := hc 1 _ rfl
          have c2 : wr.cell? ⟨bL, j * 5 + 2, none⟩ = some (.int .i64 dt) := hc 2 _ rfl
          have c3 : wr.cell? ⟨bL, j * 5 + 3, none⟩ = some (.int .i64 dp) := hc 3 _ rfl
          have c4 : wr.cell? ⟨bL, j * 5 + 4, none⟩ = some (.int .i64 dg) := hc 4 _ rfl
          clear hc C
          have hbl : bL < wr.heap.size := Item.lt (H.at 2 rfl) (k := bL) rfl
          have n1 : (bL = wr.heap.size) = False := eq_false (by omega)
          have n2 : (wr.heap.size = bL) = False := eq_false (by omega)
          have hE := HEQ.out ⟨dk, df, dt, dp, dg⟩
          have HA := Lib.hid (fun w h1 h2 => HAP.out ⟨dk, df, dt, dp, dg⟩ sf cf w h1 h2)
          have HB := Lib.hid (fun hc w h1 h2 => HRA.out ⟨dk, df, dt, dp, dg⟩ sf cf hc w h1 h2)
          rw [hE] at HB
          have hsm := HSMA.out ⟨dk, df, dt, dp, dg⟩
          clear hE
          generalize applyP F ps ⟨dk, df, dt, dp, dg⟩ = R at HA HB hsm
          obtain ⟨e, G, out⟩ := R
          dsimp only at hsm
          obtain ⟨hs1, hs2⟩ := hsm
          have HS2 := Lib.hid hs2
          clear hs2
          go_upto_region 14 with fail
          clear c0 c1 c2 c3 c4 n1 n2 hbl
          generalize hwb : wr.alloc _ = w16
          replace H := HS.eqW hwb H.alloc
          try simp only [World.size_alloc, List.nil_append, List.cons_append, List.append_assoc] at H
          clear hwb
          generalize wr.heap.size = bX at H ⊢
          try clear C
          try clear wr
          have C := H.cells
          try simp only [cellsOf, cellsM, apartOf, apartM, and_true] at C
          go_wp2_with fail
          refine (HA.out _ (H.rowLies 0 frC_len rfl rfl) (by have := H.ownPs 1 rfl; rw [HPS.out] at this; exact this)).mono ?_
          rintro _ w50 ⟨fv, pv, q1, rfl, hq1, K⟩
          replace H := H.join K (fun A hA => by simp only [List.mem_cons, List.mem_nil_iff, or_false] at hA; rcases hA with rfl | rfl <;> rfl)
          have HQ1 := Lib.hid hq1
          clear K hq1 HA
          simp only [List.nil_append, List.cons_append] at H
          obtain ⟨s5, d5, rfl⟩ := ownsRow_slice (H.at 4 rfl)
          skip
          try clear C
          try simp only [World.size_alloc, List.nil_append, List.cons_append, List.append_assoc] at H
          have C := H.cells
          try simp only [cellsOf, cellsM, apartOf, apartM, and_true] at C
          try dsimp only
          try dsimp only at H
          go_wp2_with fail
          refine (HB.out (row_cap (H.at 0 rfl)) _ (H.rowLies 0 frC_len rfl rfl) (by have := H.ownPs 1 rfl; rw [HPS.out] at this; exact this)).mono ?_
          rintro _ w51 ⟨fv2, pv2, q2, rfl, hq2, K⟩
          replace H := H.join K (fun A hA => by simp only [List.mem_cons, List.mem_nil_iff, or_false] at hA; rcases hA with rfl | rfl <;> rfl)
          have HQ2 := Lib.hid hq2
          clear K hq2 HB
          simp only [List.nil_append, List.cons_append] at H
          obtain ⟨s6, d6, rfl⟩ := ownsRow_slice (H.at 6 rfl)
          skip
          try clear C
          try simp only [World.size_alloc, List.nil_append, List.cons_append, List.append_assoc] at H
          have C := H.cells
          try simp only [cellsOf, cellsM, apartOf, apartM, and_true] at C
          try dsimp only
          try dsimp only at H
          go_wp2_with fail
          refine (same28_of (xs := G) (by omega) d5 d6 _ (H.rowLies 4 frC_len rfl rfl) (H.rowLies 6 frC_len rfl rfl)).mono ?_
          rintro _ w17 ⟨rfl, hb⟩
          replace H := H.below hb
          clear hb
          try clear C
          try simp only [World.size_alloc, List.nil_append, List.cons_append, List.append_assoc] at H
          try clear w51
          have C := H.cells
          try simp only [cellsOf, cellsM, apartOf, apartM, and_true] at C
          dsimp only
          go_wp2_with fail
          refine (same29_of HS2.out _ (by have := H.ownPs 5 rfl; rw [HQ1.out] at this; exact this) (by have := H.ownPs 7 rfl; rw [HQ2.out] at this; exact this)).mono ?_
          rintro _ w18 ⟨rfl, hb⟩
          replace H := H.below hb
          clear hb
          try clear C
          try simp only [World.size_alloc, List.nil_append, List.cons_append, List.append_assoc] at H
          try clear w17
          have C := H.cells
          try simp only [cellsOf, cellsM, apartOf, apartM, and_true] at C
          dsimp only
          go_wp2_with fail
          go_roundw
          case rel => exact ⟨j + 1, by go_num, by omega, HS.less (L' := [.row (.slice sf F.length cf) 47 2 F.length (F.flatMap frC), Item.many (PsR u qs), .blk bL (xs.flatMap ddC).toArray 24]) H (by repeat (first | exact .slnil | refine .cons_cons _ ?_ | refine .cons _ ?_))⟩
          case measure => simp [intOf]; omega
        · go_wp2_with fail
          refine (HAW.out _).mono ?_
          rintro _ w19 ⟨rfl, hb⟩
          replace H := H.below hb
          clear hb
          try clear C
          try simp only [World.size_alloc, List.nil_append, List.cons_append, List.append_assoc] at H
          try clear w18
          have C := H.cells
          try simp only [cellsOf, cellsM, apartOf, apartM, and_true] at C
          dsimp only
          go_wp2_with fail
          go_ret
          exact ⟨rfl, H.done⟩
  · rw [decide_eq_false h400] at hli
    have HLI := Lib.hid hli
    clear hli
    go_enter Tryz.func3, Tryz.ntmps3
    have H := HS.start NoD w
    go_upto_region 1 with fail
    generalize hwb : w.alloc _ = w1
    replace H := HS.eqW hwb H.alloc
    try simp only [World.size_alloc, List.nil_append, List.cons_append, List.append_assoc] at H
    clear hwb
    generalize w.heap.size = bR at H ⊢
    try clear C
    have C := H.cells
    try simp only [cellsOf, cellsM, apartOf, apartM, and_true] at C
    go_wp2_with fail
    refine (gives_ofA (HLI.out _)).mono ?_
    rintro _ w2 ⟨rfl, hb⟩
    replace H := H.below hb
    clear hb
    try clear C
    try simp only [World.size_alloc, List.nil_append, List.cons_append, List.append_assoc] at H
    try clear w1
    have C := H.cells
    try simp only [cellsOf, cellsM, apartOf, apartM, and_true] at C
    dsimp only
    go_wp2_with fail
    refine (HAW.out _).mono ?_
    rintro _ w3 ⟨rfl, hb⟩
    replace H := H.below hb
    clear hb
    try clear C
    try simp only [World.size_alloc, List.nil_append, List.cons_append, List.append_assoc] at H
    try clear w2
    have C := H.cells
    try simp only [cellsOf, cellsM, apartOf, apartM, and_true] at C
    dsimp only
    go_wp2_with fail
    go_ret
    exact ⟨rfl, H.done⟩
end Go.Proofs.YtedbpmckgiifpaaGreat
