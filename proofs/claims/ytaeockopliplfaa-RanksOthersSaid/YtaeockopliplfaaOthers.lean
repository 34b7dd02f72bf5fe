/- The statement RanksOthers: its walk. -/
import Derived.Test.YtaeockopliplfaaRAwake
import Derived.Test.YtaeockopliplfaaDice
namespace Go.Proofs.Ytaeockopliplfaa
set_option linter.unusedSimpArgs false
set_option linter.unusedVariables false
open Go.RowKit
set_option maxRecDepth 100000
attribute [local go_sem] lt_more ne_more ne_more'
attribute [local irreducible] wpX wpF

theorem SV_o {b3 : Int} (hb : 0 ≤ b3 ∧ b3 < 2) : SV 1 1 2 b3 1 0 := by constructor <;> omega
theorem PV_o {b3 so cn r : Int} (h1 : 0 ≤ so ∧ so < 2) (h2 : 0 ≤ cn ∧ cn < 2) (h3 : 0 ≤ r ∧ r < 4) : PV 1 1 2 b3 1 0 so cn r 0 0 0 :=
  ⟨by simpa using h1, by simpa using h2, by simpa using h3, ⟨by decide, by have := pw_pos b3; omega⟩, by decide +kernel, by decide +kernel⟩
theorem RS_o {b3 so cn bd sp : Int} (hb : 0 ≤ b3 ∧ b3 < 2) (h1 : 0 ≤ so ∧ so < 2) (h2 : 0 ≤ cn ∧ cn < 2) (h3 : 0 ≤ bd ∧ bd < 4) (h4 : 0 ≤ sp ∧ sp < 4) (hne : bd ≠ sp) : RS 1 1 2 b3 1 0 so cn bd sp :=
  ⟨SV_o hb, PV_o h1 h2 h3, PV_o h1 h2 h4, hne⟩

set_option maxHeartbeats 1500000 in
theorem others_walk (sa : Option Addr) (len cap : Nat) (hl : len ≤ maxLen) (steps : Int) (w : World) (hI : Ints w sa len) :
    Calls Try.prog 4 #[.slice sa len cap, .int .i64 steps] w (Gives (.bool true) w) := by
  have HI := Lib.hid hI
  clear hI
  have hli := light_any sa len cap hl
  clear hl
  by_cases h400 : len ≤ 400
  · rw [decide_eq_true h400] at hli
    have HLI := Lib.hid hli
    clear hli
    go_enter Try.func4, Try.ntmps4
    have H := HS.start NoD w
    go_wp2_with fail
    refine (gives_of (HLI.out _)).mono ?_
    rintro _ w1 ⟨rfl, hb⟩
    replace H := H.below hb
    clear hb
    try clear C
    try simp only [World.size_alloc, List.nil_append, List.cons_append, List.append_assoc] at H
    have C := H.cells
    try simp only [cellsOf, apartOf, and_true] at C
    dsimp only
    go_wp2_with fail
    refine (roll_at w.heap.size _ _ _ h400 _ H.size (H.ints HI.out)).mono ?_
    rintro _ w2 ⟨b, rfl, hd, hb, hbb⟩
    replace H := H.getsDice hb hd hbb (Nat.le_refl _)
    clear hb hd hbb
    try clear C
    try simp only [World.size_alloc, List.nil_append, List.cons_append, List.append_assoc] at H
    try clear w1
    have C := H.cells
    try simp only [cellsOf, apartOf, and_true] at C
    dsimp only
    go_wp2_with fail
    refine (next_any 2 (by omega) w.heap.size b _ (H.at 0 rfl)).mono ?_
    rintro _ w3 ⟨b3, rfl, hb3, hd, hg⟩
    replace H := (H).diceAt 0 rfl hg hd
    clear hg hd
    try clear C
    try simp only [World.size_alloc, List.nil_append, List.cons_append, List.append_assoc] at H
    try clear w2
    have C := H.cells
    try simp only [cellsOf, apartOf, and_true] at C
    dsimp only
    replace hb3 : 0 ≤ b3 ∧ b3 < 2 := ⟨hb3.1, hb3.lt (by decide)⟩
    go_wp2_with fail
    refine (next_any 4 (by omega) w.heap.size b _ (H.alloc.at 0 rfl)).mono ?_
    rintro _ w4 ⟨bd, rfl, hbd, hd, hg⟩
    replace H := (H.alloc).diceAt 0 rfl hg hd
    clear hg hd
    try clear C
    try simp only [World.size_alloc, List.nil_append, List.cons_append, List.append_assoc] at H
    generalize w3.heap.size = bS at H ⊢
    try clear w3
    have C := H.cells
    try simp only [cellsOf, apartOf, and_true] at C
    dsimp only
    replace hbd : 0 ≤ bd ∧ bd < 4 := ⟨hbd.1, hbd.lt (by decide)⟩
    go_wp2_with fail
    refine wp_region_fH (by kernel_rfl) [0, 1, 2, 3, 4, 5, 6, 7, 8, 9, 10, 11, 12, 13, 14, 15, 16, 17, 18] (by kernel_rfl) (by kernel_rfl) (by kernel_rfl) (OneD b) (H) ?_
    clear H; intro w5 H hz0
    try clear C
    try simp only [World.size_alloc, List.nil_append, List.cons_append, List.append_assoc] at H hz0 ⊢
    clear hz0
    try clear w4
    have C := H.cells
    try simp only [cellsOf, apartOf, and_true] at C
    simp only [List.filterMap_cons, List.filterMap_nil, List.getElem?_toArray, List.getElem?_cons_zero, List.getElem?_cons_succ]
    (refine wpF_load rfl rfl rfl (by simp [Stay, OneD, NoD, *]) (by simp [*]) (fun _ _ => ?_); go_step; go_step)
    (refine wpF_free rfl rfl rfl (fun _ _ => ?_); go_step; go_step)
    (refine wpF_call rfl rfl (fun wc hc _ _ => ?_); go_step; refine (next_any 2 (by omega) w.heap.size b _ (hc.inv.at 0 rfl)).mono ?_; rintro _ wd ⟨so, rfl, hso, hd, hg⟩; dsimp only; go_step; refine ⟨hc.chgS hg rfl (Dice.lt (H.at 0 rfl)) (hc.inv.diceAt 0 rfl hg hd), hc.chgK hg (Dice.lt (H.at 0 rfl)), ?_⟩; clear hg hd hc wc wd)
    (refine wpF_free rfl rfl rfl (fun _ _ => ?_); go_step; go_step)
    (refine wpF_call rfl rfl (fun wc hc _ _ => ?_); go_step; refine (next_any 2 (by omega) w.heap.size b _ (hc.inv.at 0 rfl)).mono ?_; rintro _ wd ⟨cn, rfl, hcn, hd, hg⟩; dsimp only; go_step; refine ⟨hc.chgS hg rfl (Dice.lt (H.at 0 rfl)) (hc.inv.diceAt 0 rfl hg hd), hc.chgK hg (Dice.lt (H.at 0 rfl)), ?_⟩; clear hg hd hc wc wd)
    (refine wpF_free rfl rfl rfl (fun _ _ => ?_); go_step; go_step)
    (refine wpF_free rfl rfl rfl (fun _ _ => ?_); go_step; go_step)
    (refine wpF_free rfl rfl rfl (fun _ _ => ?_); go_step; go_step)
    (refine wpF_free rfl rfl rfl (fun _ _ => ?_); go_step; go_step)
    (refine wpF_call rfl rfl (fun wc hc _ _ => ?_); go_step; refine (next_any 3 (by omega) w.heap.size b _ (hc.inv.at 0 rfl)).mono ?_; rintro _ wd ⟨v, rfl, hv, hd, hg⟩; dsimp only; go_step; refine ⟨hc.chgS hg rfl (Dice.lt (H.at 0 rfl)) (hc.inv.diceAt 0 rfl hg hd), hc.chgK hg (Dice.lt (H.at 0 rfl)), ?_⟩; clear hg hd hc wc wd)
    replace hso : 0 ≤ so ∧ so < 2 := ⟨hso.1, hso.lt (by decide)⟩
    replace hcn : 0 ≤ cn ∧ cn < 2 := ⟨hcn.1, hcn.lt (by decide)⟩
    replace hv : 0 ≤ v ∧ v < 3 := ⟨hv.1, hv.lt (by decide)⟩
    obtain ⟨sp, hsp⟩ : ∃ sp, sp = (bd + 1 + v) % 4 := ⟨_, rfl⟩
    have q1 : wrap64 (bd + 1) = bd + 1 := IntWalk.wrap64_in _ (by omega)
    have q2 : wrap64 (bd + 1 + v) = bd + 1 + v := IntWalk.wrap64_in _ (by omega)
    have q3 : (bd + 1 + v).tmod 4 = sp := by rw [hsp]; exact Int.tmod_eq_emod_of_nonneg (by omega)
    have q4 : (bd + 1 + v) % 4 = sp := hsp.symm
    have hrs : RS 1 1 2 b3 1 0 so cn bd sp := RS_o hb3 hso hcn hbd (by omega) (by omega)
    have HRS := Lib.hid hrs
    clear hrs hsp
    (refine wpF_free rfl rfl rfl (fun _ _ => ?_); go_step; go_step)
    (refine wpF_free rfl rfl rfl (fun _ _ => ?_); go_step; go_step)
    clear q1 q2 q3 q4
    (refine wpF_call rfl rfl (fun wc hc _ _ => ?_); go_step; refine (start_of HRS.out _).mono ?_; rintro _ wd ⟨rfl, hb⟩; dsimp only; go_step; refine ⟨hc.below (fun _ h => h.lt) hb (hc.inv.below hb), fun k _ hk => hb.block k hk, ?_⟩; clear hb hc wc wd)
    (refine wpF_free rfl rfl rfl (fun _ _ => ?_); go_step; go_step)
    (refine wpF_free rfl rfl rfl (fun _ _ => ?_); go_step; go_step)
    (refine wpF_free rfl rfl rfl (fun _ _ => ?_); go_step; go_step)
    (refine wpF_float rfl rfl #[.int .i64 0, .int .i64 0, .int .i64 0, .int .i64 0, .int .i64 0, .int .i64 0, .int .i64 0, .int .i64 0, .int .i64 0, .int .i64 0, .int .i64 0, .bool false]   35 (fun w => by kernel_rfl) (fun bX hbX nbX _ _ => ?_); go_simp; go_step)
    (refine wpF_store (cs := #[.int .i64 1, .int .i64 1, .int .i64 2, .int .i64 b3, .int .i64 1, .int .i64 0, .int .i64 so, .int .i64 cn, .int .i64 bd, .int .i64 sp, .int .i64 0, .bool true]) rfl rfl rfl rfl (Fl.at _ _ _) rfl (by kernel_rfl) rfl rfl (fun _ _ => ?_); go_simp; go_step)
    (refine wpF_free rfl rfl rfl (fun _ _ => ?_); go_step; go_step)
    refine wpF_nil ?_
    intro w6 hC
    replace H := H.floats1 hC (Fl.at _ _ _)
    clear hC C hbX nbX w5
    try simp only [List.nil_append, List.cons_append, List.append_assoc] at H
    have C := H.cells
    try simp only [cellsOf, apartOf, and_true] at C
    go_step
    go_step
    go_wp2_with fail
    refine (gives_of (mod_any _ _ _)).mono ?_
    rintro _ w7 ⟨rfl, hb⟩
    replace H := H.below hb
    clear hb
    try clear C
    try simp only [World.size_alloc, List.nil_append, List.cons_append, List.append_assoc] at H
    try clear w6
    have C := H.cells
    try simp only [cellsOf, apartOf, and_true] at C
    dsimp only
    have hk6 := modF_in (n := steps) (m := 6) (by decide) (by decide)
    obtain ⟨k0, hk0⟩ : ∃ k0, k0 = modF steps 6 := ⟨_, rfl⟩
    rw [← hk0] at hk6 ⊢
    clear hk0
    have hz := rsz_in HRS.out.sv
    obtain ⟨R, hR⟩ : ∃ R, R = rsz b3 1 0 := ⟨_, rfl⟩
    rw [← hR] at hz
    have HR := Lib.hid hR
    clear hR
    go_wp2_with fail
    go_loopw [10] (fun c wr => ∃ k dn : Int, c = .int .i64 k ∧ 0 ≤ k ∧ k < 6 ∧ 0 ≤ dn ∧ dn ≤ R ∧ HS NoD w [.dice w.heap.size b, .blk bS #[.int .i64 1, .int .i64 1, .int .i64 2, .int .i64 b3, .int .i64 1, .int .i64 0] 29, .blk bX #[.int .i64 1, .int .i64 1, .int .i64 2, .int .i64 b3, .int .i64 1, .int .i64 0, .int .i64 so, .int .i64 cn, .int .i64 bd, .int .i64 sp, .int .i64 dn, .bool true] 35] wr) (fun c _ => (intOf c).toNat)
    case atStart => exact ⟨k0, 0, rfl, hk6.1, hk6.2, Int.le_refl _, by omega, H⟩
    case round =>
      clear H C hk6 w7
      obtain ⟨k, dn, rfl, hk0, hk6, hd0, hdR, H⟩ := hrel
      skip
      try clear C
      try simp only [World.size_alloc, List.nil_append, List.cons_append, List.append_assoc] at H
      have C := H.cells
      try simp only [cellsOf, apartOf, and_true] at C
      by_cases hk : 0 < k
      · by_cases hdn : dn < R
        · have HC := Lib.hid (fun w => copied_yes HRS.out (dn := dn) (by rw [← HR.out]; exact ⟨hd0, hdn⟩) w)
          go_wp2_with fail
          refine (HC.out _).mono ?_
          rintro _ w8 ⟨rfl, hb⟩
          replace H := H.below hb
          clear hb
          try clear C
          try simp only [World.size_alloc, List.nil_append, List.cons_append, List.append_assoc] at H
          try clear wr
          have C := H.cells
          try simp only [cellsOf, apartOf, and_true] at C
          dsimp only
          go_wp2_with fail
          have H := H.putAll (i := 2) rfl (vs := (#[.int .i64 1, .int .i64 1, .int .i64 2, .int .i64 b3, .int .i64 1, .int .i64 0, .int .i64 so, .int .i64 cn, .int .i64 bd, .int .i64 sp, .int .i64 (dn + 1), .bool true]).toList) rfl rfl
          go_roundw
          case rel => exact ⟨k - 1, dn + 1, by go_num, by omega, by omega, by omega, by omega, H.skipAlloc⟩
          case measure => simp [intOf]; omega
        · have hdn' : dn = R := by omega
          have hc : ∀ w, Calls Try.prog 15 #[vS 1 1 2 b3 1 0 so cn bd sp dn true] w (Gives (.tuple #[vS 1 1 2 b3 1 0 so cn bd sp dn true, .int .i64 40]) w) := fun w => by rw [hdn', HR.out]; exact copied_no HRS.out w
          have HC := Lib.hid hc
          clear hc hdn' hdn
          go_wp2_with fail
          refine (HC.out _).mono ?_
          rintro _ w9 ⟨rfl, hb⟩
          replace H := H.below hb
          clear hb
          try clear C
          try simp only [World.size_alloc, List.nil_append, List.cons_append, List.append_assoc] at H
          try clear w8
          have C := H.cells
          try simp only [cellsOf, apartOf, and_true] at C
          dsimp only
          go_wp2_with fail
          go_roundw
          case rel => exact ⟨k - 1, dn, by go_num, by omega, by omega, by omega, by omega, H.skipAlloc⟩
          case measure => simp [intOf]; omega
      · have HV := Lib.hid (fun w => rvalid_of HRS.out (dn := dn) (by rw [← HR.out]; exact ⟨hd0, hdR⟩) w)
        go_wp2_with fail
        refine (HV.out _).mono ?_
        rintro _ w10 ⟨rfl, hb⟩
        replace H := H.below hb
        clear hb
        try clear C
        try simp only [World.size_alloc, List.nil_append, List.cons_append, List.append_assoc] at H
        try clear w9
        have C := H.cells
        try simp only [cellsOf, apartOf, and_true] at C
        dsimp only
        go_wp2_with fail
        have hsz : ∀ w, Calls Try.prog 12 #[v6 1 1 2 b3 1 0] w (Gives (.int .i64 (2 ^ ((1 : Int) + 1 + 2 + b3 + 1 + 0).toNat)) w) := fun w => rsize_yes HRS.out.sv w
        have hNN := pw_12 (a := (1 : Int) + 1 + 2 + b3 + 1 + 0) HRS.out.sv.sum
        have hN1 := pw_pos ((1 : Int) + 1 + 2 + b3 + 1 + 0)
        obtain ⟨N, hN⟩ : ∃ N : Int, N = 2 ^ ((1 : Int) + 1 + 2 + b3 + 1 + 0).toNat := ⟨_, rfl⟩
        rw [← hN] at hsz hNN hN1
        have HN := Lib.hid hN
        clear hN
        have HSZ := Lib.hid hsz
        clear hsz
        refine (HSZ.out _).mono ?_
        rintro _ w11 ⟨rfl, hb⟩
        replace H := H.below hb
        clear hb
        try clear C
        try simp only [World.size_alloc, List.nil_append, List.cons_append, List.append_assoc] at H
        try clear w10
        have C := H.cells
        try simp only [cellsOf, apartOf, and_true] at C
        dsimp only
        go_wp2_with fail
        obtain ⟨hb, hhb⟩ : ∃ hb, hb = hi3 1 2 so cn bd := ⟨_, rfl⟩
        obtain ⟨hs, hhs⟩ : ∃ hs, hs = hi3 1 2 so cn sp := ⟨_, rfl⟩
        have hbn := hi3_in HRS.out.sv HRS.out.pb
        have hsn := hi3_in HRS.out.sv HRS.out.ps
        rw [← hhb] at hbn
        rw [← hhs] at hsn
        have HHB := Lib.hid hhb
        have HHS := Lib.hid hhs
        clear hhb hhs
        have HBN := Lib.hid hbn
        have HSN := Lib.hid hsn
        clear hbn hsn
        go_loopw [13, 75] (fun m c wr => ∃ i : Int, 0 ≤ i ∧ i ≤ N ∧ c = .int .i64 i ∧ m = .int .i64 (cntM R hb dn i) ∧ HS NoD w [.dice w.heap.size b, .blk bS #[.int .i64 1, .int .i64 1, .int .i64 2, .int .i64 b3, .int .i64 1, .int .i64 0] 29, .blk bX #[.int .i64 1, .int .i64 1, .int .i64 2, .int .i64 b3, .int .i64 1, .int .i64 0, .int .i64 so, .int .i64 cn, .int .i64 bd, .int .i64 sp, .int .i64 dn, .bool true] 35] wr) (fun _ c _ => (N - intOf c).toNat)
        case atStart => exact ⟨0, Int.le_refl _, by omega, rfl, by rw [cntM_zero hz.1 HBN.out.1], H⟩
        case round =>
          clear H C w11
          obtain ⟨i, hi0, hiN, rfl, rfl, H⟩ := hrel
          skip
          try clear C
          try simp only [World.size_alloc, List.nil_append, List.cons_append, List.append_assoc] at H
          have C := H.cells
          try simp only [cellsOf, apartOf, and_true] at C
          by_cases hi : i < N
          · have hiS : i < 2 ^ ((1 : Int) + 1 + 2 + b3 + 1 + 0).toNat := by rw [← HN.out]; exact hi
            have HA := Lib.hid (fun w => rat_is HRS.out.sv hi0 hiS w)
            have hwh : ∀ w, Calls Try.prog 17 #[vS 1 1 2 b3 1 0 so cn bd sp dn true, .int .i64 i] w (Gives (.tuple #[.int .i64 (whF R hb hs dn i), .int .i64 0]) w) := fun w => by
              rw [HR.out, HHB.out, HHS.out]; exact where_of HRS.out (by rw [← HR.out]; exact ⟨hd0, hdR⟩) hi0 hiS w
            have HWH := Lib.hid hwh
            obtain ⟨hp, hd1, hd2⟩ := at_div HRS.out.sv hi0 hiS
            have hiff : i / R = hb ↔ ((atF 1 1 2 b3 1 0 i).a = so ∧ (atF 1 1 2 b3 1 0 i).b = cn ∧ (atF 1 1 2 b3 1 0 i).c = bd) := by
              rw [HR.out, hd1, HHB.out]
              exact ⟨fun e => hi3_inj hp HRS.out.pb e, fun ⟨x, y, z⟩ => by rw [x, y, z]⟩
            have hst := cntM_step (hb := hb) (dn := dn) hz.1 hi0 ⟨hd0, hdR⟩
            have hin := cntM_in (R := R) (hb := hb) (j := i) hd0
            obtain ⟨m, hm⟩ : ∃ m, m = cntM R hb dn i := ⟨_, rfl⟩
            rw [← hm] at hst hin ⊢
            have HST := Lib.hid hst
            have HIFF := Lib.hid hiff
            have HD := Lib.hid (And.intro hp (And.intro hd1 hd2))
            clear hwh hp hd1 hd2 hiff hst hm hiS
            have hstay : ∀ hn : ¬ (i / R = hb ∧ i % R < dn), (∀ w, Calls Try.prog 17 #[vS 1 1 2 b3 1 0 so cn bd sp dn true, .int .i64 i] w (Gives (.tuple #[.int .i64 i, .int .i64 0]) w)) ∧ cntM R hb dn (i + 1) = m := fun hn => by
              have e : whF R hb hs dn i = i := by unfold whF; rw [if_neg hn]
              refine ⟨fun w => by have := HWH.out w; rwa [e] at this, ?_⟩
              rw [HST.out, if_neg hn]; omega
            have HSTAY := Lib.hid hstay
            clear hstay
            by_cases hh : i / R = hb
            · obtain ⟨e1, e2, e3⟩ := HIFF.out.1 hh
              by_cases hlt : i % R < dn
              · obtain ⟨k, hk⟩ : ∃ k, k = hs * R + i % R := ⟨_, rfl⟩
                have hwh : ∀ w, Calls Try.prog 17 #[vS 1 1 2 b3 1 0 so cn bd sp dn true, .int .i64 i] w (Gives (.tuple #[.int .i64 k, .int .i64 0]) w) := fun w => by
                  have := HWH.out w
                  rw [show whF R hb hs dn i = k from by unfold whF; rw [if_pos ⟨hh, hlt⟩, hk]] at this
                  exact this
                obtain ⟨hk1, hk2, hk3⟩ := at_moved HRS.out.sv hi0 (by rw [← HN.out]; exact hi) HRS.out.ps
                rw [← HHS.out, ← HR.out, ← hk] at hk1 hk2 hk3
                have hq : ∀ w, Calls Try.prog 16 #[v6 1 1 2 b3 1 0, .int .i64 k] w (Gives (.tuple #[v6 so cn sp (atF 1 1 2 b3 1 0 i).d (atF 1 1 2 b3 1 0 i).e (atF 1 1 2 b3 1 0 i).f, .int .i64 0]) w) := fun w => by
                  have := rat_is HRS.out.sv hk2 hk3 w
                  rw [hk1] at this
                  exact this
                have hki : (k != i) = true := by
                  refine bne_iff_ne.2 fun e => ?_
                  have h1 : (hs * R + i % R) / R = hs := (divmod_of ⟨Int.emod_nonneg _ (by omega), Int.emod_lt_of_pos _ (by omega)⟩).1
                  rw [← hk, e, hh, HHB.out, HHS.out] at h1
                  exact hi3_ne HRS.out.ne h1
                have hcn : cntM R hb dn (i + 1) = m + 1 := by rw [HST.out, if_pos ⟨hh, hlt⟩]
                have hm1 : wrap64 (m + 1) = m + 1 := IntWalk.wrap64_in _ (by omega)
                have HWI := Lib.hid hwh
                have HCN := Lib.hid hcn
                have HQ := Lib.hid hq
                clear hwh hcn hh hlt hk hk1 hk2 hk3 hq
                go_wp2_with fail
                refine (HA.out _).mono ?_
                rintro _ w12 ⟨rfl, hb⟩
                replace H := H.below hb
                clear hb
                try clear C
                try simp only [World.size_alloc, List.nil_append, List.cons_append, List.append_assoc] at H
                try clear wr
                have C := H.cells
                try simp only [cellsOf, apartOf, and_true] at C
                dsimp only
                go_wp2_with fail
                refine (HWI.out _).mono ?_
                rintro _ w13 ⟨rfl, hb⟩
                replace H := H.alloc.below hb
                clear hb
                try clear C
                try simp only [World.size_alloc, List.nil_append, List.cons_append, List.append_assoc] at H
                generalize w12.heap.size = bP at H ⊢
                try clear w12
                have C := H.cells
                try simp only [cellsOf, apartOf, and_true] at C
                dsimp only
                go_wp2_with fail
                refine (HQ.out _).mono ?_
                rintro _ w14 ⟨rfl, hb⟩
                replace H := H.below hb
                clear hb
                try clear C
                try simp only [World.size_alloc, List.nil_append, List.cons_append, List.append_assoc] at H
                try clear w13
                have C := H.cells
                try simp only [cellsOf, apartOf, and_true] at C
                dsimp only
                go_wp2_with fail
                all_goals replace H := H.less (L' := [.dice _ _, .blk bS _ _, .blk bX _ _]) (by repeat (first | exact .slnil | refine .cons_cons _ ?_ | refine .cons _ ?_))
                all_goals go_roundw
                all_goals first
                  | exact ⟨i + 1, by omega, by omega, by go_num, by rw [HCN.out], H.skipAlloc⟩
                  | (simp [intOf]; omega)
              · obtain ⟨hwh, hcn⟩ := HSTAY.out (fun h => hlt h.2)
                have HWI := Lib.hid hwh
                have HCN := Lib.hid hcn
                clear hwh hcn hh hlt
                go_wp2_with fail
                refine (HA.out _).mono ?_
                rintro _ w15 ⟨rfl, hb⟩
                replace H := H.below hb
                clear hb
                try clear C
                try simp only [World.size_alloc, List.nil_append, List.cons_append, List.append_assoc] at H
                try clear w14
                have C := H.cells
                try simp only [cellsOf, apartOf, and_true] at C
                dsimp only
                go_wp2_with fail
                refine (HWI.out _).mono ?_
                rintro _ w16 ⟨rfl, hb⟩
                replace H := H.alloc.below hb
                clear hb
                try clear C
                try simp only [World.size_alloc, List.nil_append, List.cons_append, List.append_assoc] at H
                generalize w15.heap.size = bP at H ⊢
                try clear w15
                have C := H.cells
                try simp only [cellsOf, apartOf, and_true] at C
                dsimp only
                go_wp2_with fail
                replace H := H.less (L' := [.dice _ _, .blk bS _ _, .blk bX _ _]) (by repeat (first | exact .slnil | refine .cons_cons _ ?_ | refine .cons _ ?_))
                try clear C
                go_roundw
                case rel => exact ⟨i + 1, by omega, by omega, by go_num, by rw [HCN.out], H⟩
                case measure => simp [intOf]; omega
            · obtain ⟨hwh, hcn⟩ := HSTAY.out (fun h => hh h.1)
              have HWI := Lib.hid hwh
              have HCN := Lib.hid hcn
              have HNE := Lib.hid (fun h => hh (HIFF.out.2 h))
              clear hwh hcn hh
              go_wp2_with fail
              refine (HA.out _).mono ?_
              rintro _ w17 ⟨rfl, hb⟩
              replace H := H.below hb
              clear hb
              try clear C
              try simp only [World.size_alloc, List.nil_append, List.cons_append, List.append_assoc] at H
              try clear w16
              have C := H.cells
              try simp only [cellsOf, apartOf, and_true] at C
              dsimp only
              go_wp2_with fail
              refine (HWI.out _).mono ?_
              rintro _ w18 ⟨rfl, hb⟩
              replace H := H.alloc.below hb
              clear hb
              try clear C
              try simp only [World.size_alloc, List.nil_append, List.cons_append, List.append_assoc] at H
              generalize w17.heap.size = bP at H ⊢
              try clear w17
              have C := H.cells
              try simp only [cellsOf, apartOf, and_true] at C
              dsimp only
              go_wp2_with fail
              all_goals replace H := H.less (L' := [.dice _ _, .blk bS _ _, .blk bX _ _]) (by repeat (first | exact .slnil | refine .cons_cons _ ?_ | refine .cons _ ?_))
              all_goals go_roundw
              all_goals first
                | exact ⟨i + 1, by omega, by omega, by go_num, by rw [HCN.out], H⟩
                | (simp [intOf]; omega)
          · have hie : i = N := by omega
            have hall := cntM_all HRS.out.sv HRS.out.pb (dn := dn) (by rw [← HR.out]; exact ⟨hd0, hdR⟩)
            rw [← HR.out, ← HN.out, ← HHB.out, ← hie] at hall
            rw [hall]
            clear hall
            go_wp2_with fail
            refine (awake38 _).mono ?_
            rintro _ w19 ⟨rfl, hb⟩
            replace H := H.below hb
            clear hb
            try clear C
            try simp only [World.size_alloc, List.nil_append, List.cons_append, List.append_assoc] at H
            try clear w18
            have C := H.cells
            try simp only [cellsOf, apartOf, and_true] at C
            dsimp only
            go_wp2_with fail
            go_ret
            exact ⟨rfl, H.done⟩
  · rw [decide_eq_false h400] at hli
    have HLI := Lib.hid hli
    clear hli
    go_enter Try.func4, Try.ntmps4
    have H := HS.start NoD w
    go_wp2_with fail
    refine (gives_of (HLI.out _)).mono ?_
    rintro _ w1 ⟨rfl, hb⟩
    replace H := H.below hb
    clear hb
    try clear C
    try simp only [World.size_alloc, List.nil_append, List.cons_append, List.append_assoc] at H
    have C := H.cells
    try simp only [cellsOf, apartOf, and_true] at C
    dsimp only
    go_wp2_with fail
    refine (awake38 _).mono ?_
    rintro _ w2 ⟨rfl, hb⟩
    replace H := H.below hb
    clear hb
    try clear C
    try simp only [World.size_alloc, List.nil_append, List.cons_append, List.append_assoc] at H
    try clear w1
    have C := H.cells
    try simp only [cellsOf, apartOf, and_true] at C
    dsimp only
    go_wp2_with fail
    go_ret
    exact ⟨rfl, H.done⟩
end Go.Proofs.Ytaeockopliplfaa
