/- The statement CacheSets: its walk. -/
import Derived.Test.YtfmcicmbehjdcaaLrX
import Derived.Test.YtfmcicmbehjdcaaLrY
import Derived.Test.YtfmcicmbehjdcaaLrFz
import Derived.Test.YtfmcicmbehjdcaaLrG
namespace Go.Proofs.Ytfmcicmbehjdcaa
set_option linter.unusedSimpArgs false
set_option linter.unusedVariables false
open Go.RowKit
set_option maxRecDepth 100000
attribute [local irreducible] wpX wpF Calls

theorem gives_of31 {n : Nat} {args : Array Value} {v : Value} {w : World} (h : Calls Try.prog n args w fun e w' => e = .returned v ∧ w = w') : Calls Try.prog n args w (Gives v w) :=
  h.mono fun e w' ⟨h1, h2⟩ => ⟨h1, h2 ▸ Below.refl _ _⟩
set_option maxHeartbeats 32000000 in
theorem csets_walk (sa : Option Addr) (len cap : Nat) (hl : len ≤ maxLen) (n : Int) (w : World) (hI : Ints w sa len) :
    Calls Try.prog 5 #[.slice sa len cap, .int .i64 n] w (Gives (.bool true) w) := by
  have HI := Lib.hid hI
  clear hI
  have hli := light_any sa len cap hl
  clear hl
  have HAW := Lib.hid awake31_any
  by_cases h400 : len ≤ 400
  · rw [decide_eq_true h400] at hli
    have HLI := Lib.hid hli
    clear hli
    go_enter Try.func5, Try.ntmps5
    have H := HS.start NoD w
    go_wp2_with fail
    refine (gives_of31 (HLI.out _)).mono ?_
    rintro _ w1 ⟨rfl, hb⟩
    replace H := H.below hb
    clear hb
    try clear C
    try simp only [World.size_alloc, List.nil_append, List.cons_append, List.append_assoc] at H
    have C := H.cells
    try simp only [cellsOf, cellsM, apartOf, apartM, and_true] at C
    dsimp only
    go_wp2_with fail
    refine (roll_at w.heap.size _ _ _ h400 _ H.size (H.ints HI.out)).mono ?_
    rintro _ w2 ⟨bd, rfl, hd, hb, hbb⟩
    replace H := H.getsDice hb hd hbb (Nat.le_refl _)
    clear hb hd hbb
    try clear C
    try simp only [World.size_alloc, List.nil_append, List.cons_append, List.append_assoc] at H
    try clear w1
    have C := H.cells
    try simp only [cellsOf, cellsM, apartOf, apartM, and_true] at C
    dsimp only
    go_wp2_with fail
    refine (mcache_f w.heap.size bd _ (H.at 0 rfl) H.size).mono ?_
    rintro _ w41 ⟨S, W, z, l, ⟨sc, nc, cc⟩, Fc, hS3, hz1, hz3, hg, rfl, K⟩
    replace H := H.joinDice 0 rfl K (one_low rfl)
    clear K
    try simp only [List.nil_append, List.cons_append] at H
    skip
    try clear C
    try simp only [World.size_alloc, List.nil_append, List.cons_append, List.append_assoc] at H
    have C := H.cells
    try simp only [cellsOf, cellsM, apartOf, apartM, and_true] at C
    dsimp only [caV, lnV]
    have HG := Lib.hid hg
    have HZ := Lib.hid (show 1 ≤ z ∧ z ≤ 3 from ⟨hz1, hz3⟩)
    have HSS := Lib.hid hS3
    clear hS3 hz1 hz3 hg
    go_upto_region 5 with fail
    generalize hwb : w41.alloc _ = w3
    replace H := HS.eqW hwb H.alloc
    try simp only [World.size_alloc, List.nil_append, List.cons_append, List.append_assoc] at H
    clear hwb
    generalize w41.heap.size = b6 at H ⊢
    try clear C
    try clear w41
    have C := H.cells
    try simp only [cellsOf, cellsM, apartOf, apartM, and_true] at C
    have HM := Lib.hid (fun w => gives_of31 (mod_any n 14 w))
    have hm := modF_in (n := n) (m := 14) (by decide) (by decide)
    generalize modF n 14 = k0 at HM hm
    have hk0 : 0 ≤ k0 := hm.1
    have hk14 : k0 < 14 := hm.2
    clear hm
    have HML := Lib.hid (fun wx hd hB => mline_any z (by have := HZ.out; omega) k0 w.heap.size bd wx hd hB)
    refine wp_region_h (by kernel_rfl) [0, 1, 2, 3, 4, 5, 6, 7] (by kernel_rfl) (by kernel_rfl) (by kernel_rfl) (fun k => k = bd) (H) ?_
    clear H; intro w4 H hz0
    try clear C
    try simp only [World.size_alloc, List.nil_append, List.cons_append, List.append_assoc] at H hz0 ⊢
    clear hz0
    try clear w3
    have C := H.cells
    try simp only [cellsOf, cellsM, apartOf, apartM, and_true] at C
    have Z := H.zs
    try simp only [ltsOf, ltsM, and_true] at Z
    simp only [List.filterMap_cons, List.filterMap_nil, List.getElem?_toArray, List.getElem?_cons_zero, List.getElem?_cons_succ]
    (refine wpH_free rfl rfl rfl (fun _ _ => ?_); go_step; go_step)
    (refine wpH_free rfl rfl rfl (fun _ _ => ?_); go_step; go_step)
    (refine wpH_load rfl rfl rfl (by simp [Stay, OneD, NoD, *]) (by simp [*]) (fun _ _ => ?_); go_step; go_step)
    (refine wpH_free rfl rfl rfl (fun _ _ => ?_); go_step; go_step)
    (refine wpH_call rfl rfl (fun wc hc _ _ => ?_); go_step; refine (HM.out _).mono ?_; rintro _ wd ⟨rfl, hb⟩; dsimp only; go_step; refine ⟨_, (hc.belowH (fun _ h => h.1) hb).1, (hc.belowH (fun _ h => h.1) hb).2, ?_⟩; clear hb hc wc wd)
    (refine wpH_call rfl rfl (fun wc hc _ _ => ?_); go_step; refine (HML.out _ (hc.hs.at 0 rfl) hc.hs.size).mono ?_; rintro _ wd ⟨⟨ad, bs, d, p⟩, ⟨xa, xn, xc⟩, Fx, rfl, hma, hmb, K⟩; dsimp only; go_step; refine ⟨_, (hc.joinDiceH (fun _ h => h.1) 0 rfl (fun h => h.2 (by first | exact rfl | exact .inl rfl)) (K) (one_low rfl)).1, (hc.joinDiceH (fun _ h => h.1) 0 rfl (fun h => h.2 (by first | exact rfl | exact .inl rfl)) (K) (one_low rfl)).2, ?_⟩; clear hc; try clear wc wd)
    (refine wpH_float rfl rfl #[.int .i64 0, .slice none 0 0, .bool false, .bool false]   35 (fun w => by kernel_rfl) (fun b7 hb7 nb7 _ _ => ?_); go_simp; go_step)
    dsimp only [lnV]
    (refine wpH_store (cs := #[.int .i64 ad, .slice xa xn xc, .bool d, .bool p]) rfl rfl rfl rfl (Fl.at _ _ _) rfl (by kernel_rfl) rfl rfl (fun _ _ => ?_); go_simp; go_step)
    refine wpH_nil ?_
    intro w5 hC
    have hL := hC.laid b7 _ (Fl.at _ _ _)
    replace H := hC.hs.lay hL.2.1 (Nat.le_trans H.size hL.1) hL.2.2
    clear hC hL
    try clear C
    try clear Z
    try simp only [List.nil_append, List.cons_append, List.append_assoc, List.set_cons_succ, List.set_cons_zero] at H
    try clear w4
    have C := H.cells
    try simp only [cellsOf, cellsM, apartOf, apartM, and_true] at C
    have hma' : ad = k0 := hma
    subst hma'
    have hmb' : bs.length = z := hmb
    have hlb : lineB z ⟨ad, bs, d, p⟩ = true := decide_eq_true (by have := HZ.out; dsimp only; omega)
    have HLB := Lib.hid hlb
    have HBL := Lib.hid (show bs.length ≤ 1000 by have := HZ.out; omega)
    clear hma hmb hmb' hlb HM HML
    go_wp2_with fail
    refine (cput_f HG.out ⟨sc, nc, cc⟩ ⟨ad, bs, d, p⟩ ⟨xa, xn, xc⟩ HBL.out _ (H.says 1 rfl) (H.says 3 rfl)).mono ?_
    rintro _ w42 ⟨⟨la, va, fa, ea⟩, ⟨saA, naA, caA⟩, ⟨yaA, ynA, ycA⟩, Fa, ho, rfl, K⟩
    replace H := H.join K (one_low rfl)
    clear K
    try simp only [List.nil_append, List.cons_append] at H
    skip
    try clear C
    try simp only [World.size_alloc, List.nil_append, List.cons_append, List.append_assoc] at H
    have C := H.cells
    try simp only [cellsOf, cellsM, apartOf, apartM, and_true] at C
    dsimp only [caV, lnV]
    obtain ⟨he0, s, r, hp⟩ := put_spec HG.out HLB.out ho
    have HGA := Lib.hid (show GoodC S W z la from HG.out.put ho)
    have he1 : ea = 0 := he0
    subst he1
    have HP := Lib.hid (show PutIn S W l ⟨ad, bs, d, p⟩ la s r from hp)
    clear ho he0 hp
    go_upto_region 7 with fail
    generalize hwb : (w42.alloc _).alloc _ = w6
    replace H := HS.eqW hwb H.alloc.alloc
    try simp only [World.size_alloc, List.nil_append, List.cons_append, List.append_assoc] at H
    clear hwb
    generalize w42.heap.size + 1 = b9 at H ⊢
    generalize w42.heap.size = b8 at H ⊢
    try clear C
    try clear w42
    have C := H.cells
    try simp only [cellsOf, cellsM, apartOf, apartM, and_true] at C
    go_wp2_with fail
    refine (cput_f HGA.out ⟨saA, naA, caA⟩ ⟨ad, bs, d, p⟩ ⟨xa, xn, xc⟩ HBL.out _ (H.says 5 rfl).1 (H.says 3 rfl)).mono ?_
    rintro _ w43 ⟨o, ⟨saB, naB, caB⟩, ⟨yaB, ynB, ycB⟩, Fb, ho, rfl, K⟩
    obtain rfl := HGA.out.put_one ho (put_again HGA.out HLB.out HP.out)
    clear ho
    replace H := H.join K (one_low rfl)
    clear K
    try simp only [List.nil_append, List.cons_append] at H
    skip
    try clear C
    try simp only [World.size_alloc, List.nil_append, List.cons_append, List.append_assoc] at H
    have C := H.cells
    try simp only [cellsOf, cellsM, apartOf, apartM, and_true] at C
    dsimp only [caV, lnV]
    dsimp only [zLm]
    go_upto_region 8 with fail
    generalize hwb : (w43.alloc _).alloc _ = w7
    replace H := HS.eqW hwb H.alloc.alloc
    try simp only [World.size_alloc, List.nil_append, List.cons_append, List.append_assoc] at H
    clear hwb
    generalize w43.heap.size + 1 = b13 at H ⊢
    generalize w43.heap.size = b12 at H ⊢
    try clear C
    try clear w43
    have C := H.cells
    try simp only [cellsOf, cellsM, apartOf, apartM, and_true] at C
    go_wp2_with fail
    refine (cget_f HGA.out ⟨saA, naA, caA⟩ ad _ (H.says 5 rfl).1).mono ?_
    rintro _ w44 ⟨o, ⟨saG, naG, caG⟩, ⟨yaG, ynG, ycG⟩, Fg, ho, rfl, K⟩
    obtain rfl := HGA.out.get_one ho (get_again HGA.out HP.out)
    clear ho
    replace H := H.join K (one_low rfl)
    clear K
    try simp only [List.nil_append, List.cons_append] at H
    skip
    try clear C
    try simp only [World.size_alloc, List.nil_append, List.cons_append, List.append_assoc] at H
    have C := H.cells
    try simp only [cellsOf, cellsM, apartOf, apartM, and_true] at C
    dsimp only [caV, lnV]
    go_upto_region 9 with fail
    generalize hwb : (w44.alloc _).alloc _ = w8
    replace H := HS.eqW hwb H.alloc.alloc
    try simp only [World.size_alloc, List.nil_append, List.cons_append, List.append_assoc] at H
    clear hwb
    generalize w44.heap.size + 1 = b17 at H ⊢
    generalize w44.heap.size = b16 at H ⊢
    try clear C
    try clear w44
    have C := H.cells
    try simp only [cellsOf, cellsM, apartOf, apartM, and_true] at C
    go_wp2_with fail
    refine (cdrop_f HGA.out ⟨saA, naA, caA⟩ ad _ (H.says 5 rfl).1).mono ?_
    rintro _ w45 ⟨⟨lh, vh, fh⟩, ⟨saH, naH, caH⟩, ⟨yaH, ynH, ycH⟩, Fh, ho, rfl, K⟩
    replace H := H.join K (one_low rfl)
    clear K
    try simp only [List.nil_append, List.cons_append] at H
    skip
    try clear C
    try simp only [World.size_alloc, List.nil_append, List.cons_append, List.append_assoc] at H
    have C := H.cells
    try simp only [cellsOf, cellsM, apartOf, apartM, and_true] at C
    dsimp only [caV, lnV]
    have HGH := Lib.hid (show GoodC S W z lh from HGA.out.drop ho)
    have HNH := Lib.hid (show ∀ k, k < lh.length → ¬ Hit lh ad k from drop_gone HGA.out ho)
    have HOH := Lib.hid (drop_out HGA.out HP.out.mod ho)
    clear ho
    go_upto_region 10 with fail
    generalize hwb : (w45.alloc _).alloc _ = w9
    replace H := HS.eqW hwb H.alloc.alloc
    try simp only [World.size_alloc, List.nil_append, List.cons_append, List.append_assoc] at H
    clear hwb
    generalize w45.heap.size + 1 = b20 at H ⊢
    generalize w45.heap.size = b19 at H ⊢
    try clear C
    try clear w45
    have C := H.cells
    try simp only [cellsOf, cellsM, apartOf, apartM, and_true] at C
    have HSM := Lib.hid (fun x y wx hx hy => r31same_any S W z x y la (by have := HGA.out.len32; omega) wx hx hy)
    go_wp2_with fail
    refine (HSM.out ⟨saA, naA, caA⟩ ⟨saB, naB, caB⟩ _ (H.says 5 rfl).1 (H.says 8 rfl).1).mono ?_
    rintro _ w10 ⟨rfl, hb⟩
    replace H := H.below hb
    clear hb
    try clear C
    try simp only [World.size_alloc, List.nil_append, List.cons_append, List.append_assoc] at H
    try clear w9
    have C := H.cells
    try simp only [cellsOf, cellsM, apartOf, apartM, and_true] at C
    dsimp only
    go_wp2_with fail
    refine (HSM.out ⟨saA, naA, caA⟩ ⟨saG, naG, caG⟩ _ (H.says 5 rfl).1 (H.says 11 rfl).1).mono ?_
    rintro _ w11 ⟨rfl, hb⟩
    replace H := H.below hb
    clear hb
    try clear C
    try simp only [World.size_alloc, List.nil_append, List.cons_append, List.append_assoc] at H
    try clear w10
    have C := H.cells
    try simp only [cellsOf, cellsM, apartOf, apartM, and_true] at C
    dsimp only
    clear HSM
    have H9 := HS.less (L' := [.any Fc (fun w => SlotsAt w ⟨sc, nc, cc⟩ l), .blk b6 #[.int .i64 S, .int .i64 W, .int .i64 z, .slice sc nc cc] 24, .blk b7 #[.int .i64 ad, .slice xa xn xc, .bool d, .bool p] 35, .any Fa (fun w => SlotsAt w ⟨saA, naA, caA⟩ la ∧ BytesAt w ⟨yaA, ynA, ycA⟩ va.bs), .blk b8 #[.int .i64 S, .int .i64 W, .int .i64 z, .slice saA naA caA] 24, .any Fh (fun w => SlotsAt w ⟨saH, naH, caH⟩ lh ∧ BytesAt w ⟨yaH, ynH, ycH⟩ vh.bs), .blk b19 #[.int .i64 S, .int .i64 W, .int .i64 z, .slice saH naH caH] 24]) H (by repeat (first | exact .slnil | refine .cons_cons _ ?_ | refine .cons _ ?_))
    clear H C
    have H := H9
    clear H9 HZ HBL HLB
    have HYA := Lib.hid (fun (kq : Int) (u u' : List Sm × Lm × Bool) (hq : kq % S ≠ s) (h1 : GetR S W l kq u) (h2 : GetR S W la kq u') => get_other HG.out HGA.out HP.out.len HP.out.out hq h1 h2)
    have HYH := Lib.hid (fun (kq : Int) (u u' : List Sm × Lm × Bool) (hq : kq % S ≠ s) (h1 : GetR S W l kq u) (h2 : GetR S W lh kq u') => get_other HG.out HGH.out (HOH.out.1.trans HP.out.len) (fun i hi hn => (HOH.out.2 i (by rw [HP.out.len]; exact hi) hn).trans (HP.out.out i hi hn)) hq h1 h2)
    have HMX := Lib.hid HP.out.mod
    have HS1 := Lib.hid (show 1 ≤ S ∧ S ≤ 3 from ⟨HG.out.S1, HSS.out⟩)
    clear HOH HP
    try clear C
    try simp only [World.size_alloc, List.nil_append, List.cons_append, List.append_assoc] at H
    have C := H.cells
    try simp only [cellsOf, cellsM, apartOf, apartM, and_true] at C
    go_wp2_with fail
    go_loopw [22, 101] (fun _ kk wr => ∃ (k : Nat), kk = .int .i64 k ∧ k ≤ 14 ∧ HS NoD w [.any Fc (fun w => SlotsAt w ⟨sc, nc, cc⟩ l), .blk b6 #[.int .i64 S, .int .i64 W, .int .i64 z, .slice sc nc cc] 24, .blk b7 #[.int .i64 ad, .slice xa xn xc, .bool d, .bool p] 35, .any Fa (fun w => SlotsAt w ⟨saA, naA, caA⟩ la ∧ BytesAt w ⟨yaA, ynA, ycA⟩ va.bs), .blk b8 #[.int .i64 S, .int .i64 W, .int .i64 z, .slice saA naA caA] 24, .any Fh (fun w => SlotsAt w ⟨saH, naH, caH⟩ lh ∧ BytesAt w ⟨yaH, ynH, ycH⟩ vh.bs), .blk b19 #[.int .i64 S, .int .i64 W, .int .i64 z, .slice saH naH caH] 24] wr) (fun _ kk _ => 14 - (intOf kk).toNat)
    case atStart => exact ⟨0, rfl, by omega, H⟩
    case round =>
      clear H C
      obtain ⟨k, rfl, hk, H⟩ := hrel
      skip
      try clear C
      try simp only [World.size_alloc, List.nil_append, List.cons_append, List.append_assoc] at H
      have C := H.cells
      try simp only [cellsOf, cellsM, apartOf, apartM, and_true] at C
      by_cases hlt : k < 14
      · have HLT := Lib.hid hlt
        have hki : (k : Int) < 14 := by omega
        go_upto_region 15 with fail
        go_wp2_with fail
        refine (cget_f HG.out ⟨sc, nc, cc⟩ (k : Int) _ (H.says 0 rfl)).mono ?_
        rintro _ w46 ⟨⟨lu, vu, fu⟩, ⟨saU, naU, caU⟩, ⟨yaU, ynU, ycU⟩, Fu, hu, rfl, K⟩
        replace H := H.join K (one_low rfl)
        clear K
        try simp only [List.nil_append, List.cons_append] at H
        skip
        try clear C
        try simp only [World.size_alloc, List.nil_append, List.cons_append, List.append_assoc] at H
        have C := H.cells
        try simp only [cellsOf, cellsM, apartOf, apartM, and_true] at C
        dsimp only [caV, lnV]
        have HU := Lib.hid hu
        clear hu
        go_upto_region 16 with fail
        generalize hwb : (w46.alloc _).alloc _ = w12
        replace H := HS.eqW hwb H.alloc.alloc
        try simp only [World.size_alloc, List.nil_append, List.cons_append, List.append_assoc] at H
        clear hwb
        generalize w46.heap.size + 1 = b24 at H ⊢
        generalize w46.heap.size = b23 at H ⊢
        try clear C
        try clear w46
        have C := H.cells
        try simp only [cellsOf, cellsM, apartOf, apartM, and_true] at C
        go_wp2_with fail
        generalize hwb : w12.alloc _ = w13
        replace H := HS.eqW hwb H.alloc
        try simp only [World.size_alloc, List.nil_append, List.cons_append, List.append_assoc] at H
        clear hwb
        generalize w12.heap.size = bS at H ⊢
        try clear C
        try clear w12
        have C := H.cells
        try simp only [cellsOf, cellsM, apartOf, apartM, and_true] at C
        go_loopw [115] (fun jj wr2 => ∃ (j : Nat), jj = .int .i64 j ∧ j ≤ 2 ∧ HS NoD w [.any Fc (fun w => SlotsAt w ⟨sc, nc, cc⟩ l), .blk b6 #[.int .i64 S, .int .i64 W, .int .i64 z, .slice sc nc cc] 24, .blk b7 #[.int .i64 ad, .slice xa xn xc, .bool d, .bool p] 35, .any Fa (fun w => SlotsAt w ⟨saA, naA, caA⟩ la ∧ BytesAt w ⟨yaA, ynA, ycA⟩ va.bs), .blk b8 #[.int .i64 S, .int .i64 W, .int .i64 z, .slice saA naA caA] 24, .any Fh (fun w => SlotsAt w ⟨saH, naH, caH⟩ lh ∧ BytesAt w ⟨yaH, ynH, ycH⟩ vh.bs), .blk b19 #[.int .i64 S, .int .i64 W, .int .i64 z, .slice saH naH caH] 24, .any Fu (fun w => SlotsAt w ⟨saU, naU, caU⟩ lu ∧ BytesAt w ⟨yaU, ynU, ycU⟩ vu.bs), .blk b23 #[.int .i64 S, .int .i64 W, .int .i64 z, .slice saU naU caU] 24, .blk b24 #[.int .i64 vu.ad, .slice yaU ynU ycU, .bool vu.d, .bool vu.p] 35, .blk bS #[.int .i64 S, .int .i64 W, .int .i64 z, .slice saA naA caA, .int .i64 S, .int .i64 W, .int .i64 z, .slice saH naH caH] 24] wr2) (fun jj _ => 2 - (intOf jj).toNat)
        case atStart => exact ⟨0, rfl, by omega, H⟩
        case round =>
          clear H C
          obtain ⟨j, rfl, hj, H⟩ := hrel
          skip
          try clear C
          try simp only [World.size_alloc, List.nil_append, List.cons_append, List.append_assoc] at H
          have C := H.cells
          try simp only [cellsOf, cellsM, apartOf, apartM, and_true] at C
          by_cases hlt2 : j < 2
          · have hj01 : j = 0 ∨ j = 1 := by omega
            rcases hj01 with rfl | rfl
            · skip
              go_upto_region 19 with fail
              generalize hwb : wr.alloc _ = w14
              replace H := HS.eqW hwb H.alloc
              try simp only [World.size_alloc, List.nil_append, List.cons_append, List.append_assoc] at H
              clear hwb
              generalize wr.heap.size = b27 at H ⊢
              try clear C
              try clear wr
              have C := H.cells
              try simp only [cellsOf, cellsM, apartOf, apartM, and_true] at C
              go_wp2_with fail
              refine (cget_f HGA.out ⟨saA, naA, caA⟩ (k : Int) _ (H.says 3 rfl).1).mono ?_
              rintro _ w47 ⟨⟨lv, vv, fv⟩, ⟨saV, naV, caV9⟩, ⟨yaV, ynV, ycV⟩, Fv, hv, rfl, K⟩
              replace H := H.join K (one_low rfl)
              clear K
              try simp only [List.nil_append, List.cons_append] at H
              skip
              try clear C
              try simp only [World.size_alloc, List.nil_append, List.cons_append, List.append_assoc] at H
              have C := H.cells
              try simp only [cellsOf, cellsM, apartOf, apartM, and_true] at C
              dsimp only [caV, lnV]
              have HV := Lib.hid hv
              clear hv
              have hS1 : (1 : Int) ≤ S := by have := HS1.out; omega
              have hS3 : (S : Int) ≤ 3 := by have := HS1.out; omega
              have hS0 : ((S : Int) == 0) = false := beq_eq_false_iff_ne.2 (by omega)
              have hS0' : ¬ S = 0 := by omega
              have hk0i : (0 : Int) ≤ k := by omega
              skip
              by_cases hks : (k : Int) % S = ad % S
              · have hksb : ((k : Int) % (S : Int) != ad % (S : Int)) = false := by rw [hks]; simp
                clear hks
                go_upto_region 20 with fail
                generalize hwb : (w47.alloc _).alloc _ = w15
                replace H := HS.eqW hwb H.alloc.alloc
                try simp only [World.size_alloc, List.nil_append, List.cons_append, List.append_assoc] at H
                clear hwb
                generalize w47.heap.size + 1 = b29 at H ⊢
                generalize w47.heap.size = b28 at H ⊢
                try clear C
                try clear w47
                have C := H.cells
                try simp only [cellsOf, cellsM, apartOf, apartM, and_true] at C
                refine wp_region_xH (by kernel_rfl) (by kernel_rfl) (by kernel_rfl) (by kernel_rfl) (fun _ => False) (H) ?_
                clear H; intro w16 H hz0 hs0
                try clear C
                try simp only [World.size_alloc, List.nil_append, List.cons_append, List.append_assoc] at H hz0
                clear hz0
                try clear w15
                have C := H.cells
                try simp only [cellsOf, cellsM, apartOf, apartM, and_true] at C
                have Z := H.zs
                try simp only [ltsOf, ltsM, and_true] at Z
                have hz0 := Nat.le_refl w16.heap.size
                repeat (first | (refine wpX_skip rfl ?_; go_simp) | (refine wpX_free rfl rfl rfl (fun K hK => ?_); go_step; refine hK _ _ ?_; clear hK K) | (refine wpX_load rfl rfl rfl (by simp [Stay, OneD, NoD, *]) hs0 (by simp [*]) (fun K hK => ?_); go_step; refine hK _ _ ?_; clear hK K))
                (refine wpX_nil ?_; go_step)
                go_wp2_with fail
                go_roundw
                case rel => exact ⟨0 + 1, by go_num, by omega, HS.less H (by repeat (first | exact .slnil | refine .cons_cons _ ?_ | refine .cons _ ?_))⟩
                case measure => simp [intOf]
              · have hksb : ((k : Int) % (S : Int) != ad % (S : Int)) = true := bne_iff_ne.2 hks
                have hvu := HYA.out (k : Int) (lu, vu, fu) (lv, vv, fv) (by rw [← HMX.out]; exact hks) HU.out HV.out
                obtain ⟨rfl, rfl⟩ : vv = vu ∧ fv = fu := by simpa using hvu
                clear hks hvu
                skip
                have hff : (fv != fv) = false := by cases fv <;> rfl
                go_upto_region 20 with fail
                generalize hwb : (w47.alloc _).alloc _ = w17
                replace H := HS.eqW hwb H.alloc.alloc
                try simp only [World.size_alloc, List.nil_append, List.cons_append, List.append_assoc] at H
                clear hwb
                generalize w47.heap.size + 1 = b29 at H ⊢
                generalize w47.heap.size = b28 at H ⊢
                try clear C
                try clear w47
                have C := H.cells
                try simp only [cellsOf, cellsM, apartOf, apartM, and_true] at C
                refine wp_region_xH (by kernel_rfl) (by kernel_rfl) (by kernel_rfl) (by kernel_rfl) (fun _ => False) (H) ?_
                clear H; intro w18 H hz0 hs0
                try clear C
                try simp only [World.size_alloc, List.nil_append, List.cons_append, List.append_assoc] at H hz0
                clear hz0
                try clear w17
                have C := H.cells
                try simp only [cellsOf, cellsM, apartOf, apartM, and_true] at C
                have Z := H.zs
                try simp only [ltsOf, ltsM, and_true] at Z
                have hz0 := Nat.le_refl w18.heap.size
                repeat (first | (refine wpX_skip rfl ?_; go_simp) | (refine wpX_free rfl rfl rfl (fun K hK => ?_); go_step; refine hK _ _ ?_; clear hK K) | (refine wpX_load rfl rfl rfl (by simp [Stay, OneD, NoD, *]) hs0 (by simp [*]) (fun K hK => ?_); go_step; refine hK _ _ ?_; clear hK K))
                refine wpX_eff rfl rfl (fun _ _ => ?_)
                go_step
                refine (l30same_any vv ⟨yaU, ynU, ycU⟩ ⟨yaV, ynV, ycV⟩ _ (H.says 7 rfl).2 (H.says 12 rfl).2).mono ?_
                rintro _ w19 ⟨rfl, hb⟩
                replace hs0 := hs0.belowS hz0 hb
                replace hz0 := Nat.le_trans hz0 hb.size
                replace H := H.below hb
                clear hb
                try clear C
                have C := H.cells
                try simp only [cellsOf, cellsM, apartOf, apartM, and_true] at C
                try clear w18
                dsimp only
                go_step
                refine ⟨hs0, ?_⟩
                repeat (first | (refine wpX_skip rfl ?_; go_simp) | (refine wpX_free rfl rfl rfl (fun K hK => ?_); go_step; refine hK _ _ ?_; clear hK K) | (refine wpX_load rfl rfl rfl (by simp [Stay, OneD, NoD, *]) hs0 (by simp [*]) (fun K hK => ?_); go_step; refine hK _ _ ?_; clear hK K))
                (refine wpX_nil ?_; go_step)
                go_wp2_with fail
                go_roundw
                case rel => exact ⟨0 + 1, by go_num, by omega, HS.less H (by repeat (first | exact .slnil | refine .cons_cons _ ?_ | refine .cons _ ?_))⟩
                case measure => simp [intOf]
            · skip
              skip
              go_upto_region 19 with fail
              generalize hwb : wr.alloc _ = w20
              replace H := HS.eqW hwb H.alloc
              try simp only [World.size_alloc, List.nil_append, List.cons_append, List.append_assoc] at H
              clear hwb
              generalize wr.heap.size = b27 at H ⊢
              try clear C
              try clear wr
              have C := H.cells
              try simp only [cellsOf, cellsM, apartOf, apartM, and_true] at C
              go_wp2_with fail
              refine (cget_f HGH.out ⟨saH, naH, caH⟩ (k : Int) _ (H.says 5 rfl).1).mono ?_
              rintro _ w48 ⟨⟨lv, vv, fv⟩, ⟨saV, naV, caV9⟩, ⟨yaV, ynV, ycV⟩, Fv, hv, rfl, K⟩
              replace H := H.join K (one_low rfl)
              clear K
              try simp only [List.nil_append, List.cons_append] at H
              skip
              try clear C
              try simp only [World.size_alloc, List.nil_append, List.cons_append, List.append_assoc] at H
              have C := H.cells
              try simp only [cellsOf, cellsM, apartOf, apartM, and_true] at C
              dsimp only [caV, lnV]
              have HV := Lib.hid hv
              clear hv
              have hS1 : (1 : Int) ≤ S := by have := HS1.out; omega
              have hS3 : (S : Int) ≤ 3 := by have := HS1.out; omega
              have hS0 : ((S : Int) == 0) = false := beq_eq_false_iff_ne.2 (by omega)
              have hS0' : ¬ S = 0 := by omega
              have hk0i : (0 : Int) ≤ k := by omega
              skip
              by_cases hks : (k : Int) % S = ad % S
              · have hksb : ((k : Int) % (S : Int) != ad % (S : Int)) = false := by rw [hks]; simp
                clear hks
                go_upto_region 20 with fail
                generalize hwb : (w48.alloc _).alloc _ = w21
                replace H := HS.eqW hwb H.alloc.alloc
                try simp only [World.size_alloc, List.nil_append, List.cons_append, List.append_assoc] at H
                clear hwb
                generalize w48.heap.size + 1 = b29 at H ⊢
                generalize w48.heap.size = b28 at H ⊢
                try clear C
                try clear w48
                have C := H.cells
                try simp only [cellsOf, cellsM, apartOf, apartM, and_true] at C
                refine wp_region_xH (by kernel_rfl) (by kernel_rfl) (by kernel_rfl) (by kernel_rfl) (fun _ => False) (H) ?_
                clear H; intro w22 H hz0 hs0
                try clear C
                try simp only [World.size_alloc, List.nil_append, List.cons_append, List.append_assoc] at H hz0
                clear hz0
                try clear w21
                have C := H.cells
                try simp only [cellsOf, cellsM, apartOf, apartM, and_true] at C
                have Z := H.zs
                try simp only [ltsOf, ltsM, and_true] at Z
                have hz0 := Nat.le_refl w22.heap.size
                repeat (first | (refine wpX_skip rfl ?_; go_simp) | (refine wpX_free rfl rfl rfl (fun K hK => ?_); go_step; refine hK _ _ ?_; clear hK K) | (refine wpX_load rfl rfl rfl (by simp [Stay, OneD, NoD, *]) hs0 (by simp [*]) (fun K hK => ?_); go_step; refine hK _ _ ?_; clear hK K))
                (refine wpX_nil ?_; go_step)
                go_wp2_with fail
                go_roundw
                case rel => exact ⟨1 + 1, by go_num, by omega, HS.less H (by repeat (first | exact .slnil | refine .cons_cons _ ?_ | refine .cons _ ?_))⟩
                case measure => simp [intOf]
              · have hksb : ((k : Int) % (S : Int) != ad % (S : Int)) = true := bne_iff_ne.2 hks
                have hvu := HYH.out (k : Int) (lu, vu, fu) (lv, vv, fv) (by rw [← HMX.out]; exact hks) HU.out HV.out
                obtain ⟨rfl, rfl⟩ : vv = vu ∧ fv = fu := by simpa using hvu
                clear hks hvu
                skip
                have hff : (fv != fv) = false := by cases fv <;> rfl
                go_upto_region 20 with fail
                generalize hwb : (w48.alloc _).alloc _ = w23
                replace H := HS.eqW hwb H.alloc.alloc
                try simp only [World.size_alloc, List.nil_append, List.cons_append, List.append_assoc] at H
                clear hwb
                generalize w48.heap.size + 1 = b29 at H ⊢
                generalize w48.heap.size = b28 at H ⊢
                try clear C
                try clear w48
                have C := H.cells
                try simp only [cellsOf, cellsM, apartOf, apartM, and_true] at C
                refine wp_region_xH (by kernel_rfl) (by kernel_rfl) (by kernel_rfl) (by kernel_rfl) (fun _ => False) (H) ?_
                clear H; intro w24 H hz0 hs0
                try clear C
                try simp only [World.size_alloc, List.nil_append, List.cons_append, List.append_assoc] at H hz0
                clear hz0
                try clear w23
                have C := H.cells
                try simp only [cellsOf, cellsM, apartOf, apartM, and_true] at C
                have Z := H.zs
                try simp only [ltsOf, ltsM, and_true] at Z
                have hz0 := Nat.le_refl w24.heap.size
                repeat (first | (refine wpX_skip rfl ?_; go_simp) | (refine wpX_free rfl rfl rfl (fun K hK => ?_); go_step; refine hK _ _ ?_; clear hK K) | (refine wpX_load rfl rfl rfl (by simp [Stay, OneD, NoD, *]) hs0 (by simp [*]) (fun K hK => ?_); go_step; refine hK _ _ ?_; clear hK K))
                refine wpX_eff rfl rfl (fun _ _ => ?_)
                go_step
                refine (l30same_any vv ⟨yaU, ynU, ycU⟩ ⟨yaV, ynV, ycV⟩ _ (H.says 7 rfl).2 (H.says 12 rfl).2).mono ?_
                rintro _ w25 ⟨rfl, hb⟩
                replace hs0 := hs0.belowS hz0 hb
                replace hz0 := Nat.le_trans hz0 hb.size
                replace H := H.below hb
                clear hb
                try clear C
                have C := H.cells
                try simp only [cellsOf, cellsM, apartOf, apartM, and_true] at C
                try clear w24
                dsimp only
                go_step
                refine ⟨hs0, ?_⟩
                repeat (first | (refine wpX_skip rfl ?_; go_simp) | (refine wpX_free rfl rfl rfl (fun K hK => ?_); go_step; refine hK _ _ ?_; clear hK K) | (refine wpX_load rfl rfl rfl (by simp [Stay, OneD, NoD, *]) hs0 (by simp [*]) (fun K hK => ?_); go_step; refine hK _ _ ?_; clear hK K))
                (refine wpX_nil ?_; go_step)
                go_wp2_with fail
                go_roundw
                case rel => exact ⟨1 + 1, by go_num, by omega, HS.less H (by repeat (first | exact .slnil | refine .cons_cons _ ?_ | refine .cons _ ?_))⟩
                case measure => simp [intOf]
          · obtain rfl : j = 2 := by omega
            skip
            go_wp2_with fail
            go_roundw
            case rel => exact ⟨k + 1, by go_num, by have := HLT.out; omega, HS.less H (by repeat (first | exact .slnil | refine .cons_cons _ ?_ | refine .cons _ ?_))⟩
            case measure => simp [intOf]; have := HLT.out; omega
      · obtain rfl : k = 14 := by omega
        skip
        go_wp2_with fail
        refine (cget_f HGH.out ⟨saH, naH, caH⟩ ad _ (H.says 5 rfl).1).mono ?_
        rintro _ w49 ⟨o, ⟨saQ, naQ, caQ⟩, ⟨yaQ, ynQ, ycQ⟩, Fq, ho, rfl, K⟩
        obtain rfl := HGH.out.get_one ho (.inl ⟨HNH.out, rfl⟩)
        clear ho
        replace H := H.join K (one_low rfl)
        clear K
        try simp only [List.nil_append, List.cons_append] at H
        skip
        try clear C
        try simp only [World.size_alloc, List.nil_append, List.cons_append, List.append_assoc] at H
        have C := H.cells
        try simp only [cellsOf, cellsM, apartOf, apartM, and_true] at C
        dsimp only [caV, lnV]
        dsimp only [zLm]
        go_upto_region 25 with fail
        generalize hwb : (w49.alloc _).alloc _ = w26
        replace H := HS.eqW hwb H.alloc.alloc
        try simp only [World.size_alloc, List.nil_append, List.cons_append, List.append_assoc] at H
        clear hwb
        generalize w49.heap.size + 1 = b32 at H ⊢
        generalize w49.heap.size = b31 at H ⊢
        try clear C
        try clear w49
        have C := H.cells
        try simp only [cellsOf, cellsM, apartOf, apartM, and_true] at C
        go_wp2_with fail
        refine (cvalid_f HGH.out ⟨saH, naH, caH⟩ _ (H.says 5 rfl).1).mono ?_
        rintro _ w27 ⟨rfl, hb⟩
        replace H := H.below hb
        clear hb
        try clear C
        try simp only [World.size_alloc, List.nil_append, List.cons_append, List.append_assoc] at H
        try clear w26
        have C := H.cells
        try simp only [cellsOf, cellsM, apartOf, apartM, and_true] at C
        dsimp only
        go_wp2_with fail
        refine (HAW.out _).mono ?_
        rintro _ w28 ⟨rfl, hb⟩
        replace H := H.below hb
        clear hb
        try clear C
        try simp only [World.size_alloc, List.nil_append, List.cons_append, List.append_assoc] at H
        try clear w27
        have C := H.cells
        try simp only [cellsOf, cellsM, apartOf, apartM, and_true] at C
        dsimp only
        go_wp2_with fail
        go_ret
        exact ⟨rfl, H.done⟩
  · rw [decide_eq_false h400] at hli
    have HLI := Lib.hid hli
    clear hli
    go_enter Try.func5, Try.ntmps5
    have H := HS.start NoD w
    go_wp2_with fail
    refine (gives_of31 (HLI.out _)).mono ?_
    rintro _ w1 ⟨rfl, hb⟩
    replace H := H.below hb
    clear hb
    try clear C
    try simp only [World.size_alloc, List.nil_append, List.cons_append, List.append_assoc] at H
    have C := H.cells
    try simp only [cellsOf, cellsM, apartOf, apartM, and_true] at C
    dsimp only
    go_wp2_with fail
    refine (HAW.out _).mono ?_
    rintro _ w2 ⟨rfl, hb⟩
    replace H := H.below hb
    clear hb
    try clear C
    try simp only [World.size_alloc, List.nil_append, List.cons_append, List.append_assoc] at H
    try clear w1
    have C := H.cells
    try simp only [cellsOf, cellsM, apartOf, apartM, and_true] at C
    dsimp only
    go_wp2_with fail
    go_ret
    exact ⟨rfl, H.done⟩
end Go.Proofs.Ytfmcicmbehjdcaa
