/- CellMade's walk. -/
import Derived.Test.YtplflpmkomeadaaDoorCeZr
import Derived.Test.YtplflpmkomeadaaDoorCeAg
import Derived.Test.YtplflpmkomeadaaDoorMade2
import Derived.Test.YtplflpmkomeadaaDoorK1
namespace Go.Proofs.YtplflpmkomeadaaDoor
set_option linter.unusedSimpArgs false
set_option linter.unusedVariables false
open Go.RowKit
set_option maxRecDepth 100000
attribute [local irreducible] wpX wpF Calls

theorem manyLieK {w : World} {F : Nat → Prop} {s t : Option Addr} {c d : Nat} {qs : List (Wm × Sv)} {fs : List Fa} (h : (∀ A ∈ [rowCw s qs.length c qs, anyCw F qs, rowCf t fs.length d fs], A.ok w ∧ A.low = 0) ∧ Apart [rowCw s qs.length c qs, anyCw F qs, rowCf t fs.length d fs]) : CwLie w ⟨s, qs.length, c⟩ qs ∧ CfAt w ⟨t, fs.length, d⟩ fs := by
  have h1 := h.1
  have h2 := (h1 _ List.mem_cons_self).1
  have h3 := (h1 _ (List.mem_cons_of_mem _ List.mem_cons_self)).1
  have h4 := (h1 _ (List.mem_cons_of_mem _ (List.mem_cons_of_mem _ List.mem_cons_self))).1
  exact ⟨cwLie_of h2 rfl h3.1, cfAt_of h4 rfl⟩
theorem row_less {M : Mm} (h : GoodM M) (hz : szM M ≤ 256) : sizeN M.s0 M.s1 M.s2 M.s3 (M.s4 - 1) M.s5 ≤ 256 := by
  by_cases hs : SV M.s0 M.s1 M.s2 M.s3 (M.s4 - 1) M.s5
  · have h1 := sizeN_yes h.sv
    have h2 := sizeN_yes hs
    obtain ⟨k0, k1, k2, k3, k4, k5, k6⟩ := hs
    have h3 : (2 : Nat) ^ (M.s0 + M.s1 + M.s2 + M.s3 + (M.s4 - 1) + M.s5).toNat ≤ 2 ^ (M.s0 + M.s1 + M.s2 + M.s3 + M.s4 + M.s5).toNat := Nat.pow_le_pow_right (by decide) (by omega)
    have h4 : (2 : Int) ^ (M.s0 + M.s1 + M.s2 + M.s3 + (M.s4 - 1) + M.s5).toNat ≤ 2 ^ (M.s0 + M.s1 + M.s2 + M.s3 + M.s4 + M.s5).toNat := by exact_mod_cast h3
    have h5 : ((szM M : Nat) : Int) = 2 ^ (M.s0 + M.s1 + M.s2 + M.s3 + M.s4 + M.s5).toNat := h1
    omega
  · unfold sizeN
    rw [if_neg hs]
    exact Nat.zero_le _
/-- The memory's rows and the word's bytes as one. -/
theorem made_join {D : Nat → Prop} {W w : World} {A0 A1 A2 A3 : Item} {s t : Option Addr} {n c k d : Nat} {qs qn : List (Wm × Sv)} {F G : Nat → Prop} {J : World → Prop} {fn : List Fa} {cw cf : List Value}
    (h : HS D W [A0, A1, A2, .any G J, A3, .row (.slice s n c) 50 3 n cw, anyCw F qs, .row (.slice t k d) 38 11 k cf] w) (hn : n = qn.length) (hk : k = fn.length) (hcw : cw = qn.flatMap cwC) (hcf : cf = fn.flatMap cfC)
    (hok : ∀ w, CwOk w qs → J w → CwOk w qn) : ∃ G9, HS D W [A0, A1, A2, A3, .any G9 (fun w => (CwLie w ⟨s, n, c⟩ qn ∧ CfAt w ⟨t, k, d⟩ fn) ∧ J w)] w := by
  subst hcw hcf
  have h1 := HS.anyOf (L := [_, _, _, _, _, _, _]) h rfl
  have h2 := HS.merge (L := [_, _, _, _, _, _]) h1
  have h3 : HS D W ([A0, A1, A2, .any G J, A3] ++ [.any _ _, .row (.slice s n c) 50 3 n (qn.flatMap cwC)]) w := h2.permu (by
    refine List.Perm.append_left [A0, A1, A2, .any G J, A3] ?_
    exact List.Perm.swap _ _ _)
  have h4 := HS.anyOf (L := [_, _, _, _, _, _]) h3 rfl
  have h5 := HS.merge (L := [_, _, _, _, _]) h4
  have h6 : HS D W ([A0, A1, A2, A3] ++ [.any _ _, .any G J]) w := h5.permu (by
    refine List.Perm.append_left [A0, A1, A2] ?_
    show List.Perm [.any G J, A3, .any _ _] [A3, .any _ _, .any G J]
    exact (List.Perm.swap _ _ _).trans (List.Perm.cons _ (List.Perm.swap _ _ _)))
  have h7 := HS.merge h6
  exact ⟨_, HS.weak h7 (fun w' h => ⟨⟨cwLie_of h.1.2 hn (hok w' h.1.1.1 h.2), cfAt_of h.1.1.2 hk⟩, h.2⟩)⟩
set_option maxHeartbeats 16000000 in
theorem made13_walk (sa : Option Addr) (len cap : Nat) (hl : len ≤ maxLen) (w : World) (hN : Nm w) (hI : Ints w sa len) : Calls Tryd.prog 8 #[.slice sa len cap] w (Gives (.bool true) w) := by
  have HI := Lib.hid hI
  have HNm := Lib.hid hN
  clear hI hN
  have hli := light_any sa len cap hl
  clear hl
  by_cases h400 : len ≤ 400
  · rw [decide_eq_true h400] at hli
    have HLI := Lib.hid hli
    clear hli
    go_enter Tryd.func8, Tryd.ntmps8
    have H := HS.start NoD w
    go_wp2_with fail
    refine (gives_of (HLI.out _)).mono ?_
    rintro _ w1 ⟨rfl, hb⟩
    replace H := H.below hb
    clear hb
    try clear C
    try simp only [World.size_alloc, List.nil_append, List.cons_append, List.append_assoc] at H
    have C := H.cells
    try simp only [cellsOf, cellsM, apartOf, apartM, and_true] at C
    dsimp only
    go_wp2_with fail
    refine (roll_at w.heap.size _ _ _ h400 _ H.size (H.ints HI.out)).mono ?_
    rintro _ w2 ⟨bd, rfl, hd, hb, hbb⟩
    replace H := H.getsDice hb hd hbb (Nat.le_refl _)
    clear hb hd hbb
    try clear C
    try simp only [World.size_alloc, List.nil_append, List.cons_append, List.append_assoc] at H
    try clear w1
    have C := H.cells
    try simp only [cellsOf, cellsM, apartOf, apartM, and_true] at C
    dsimp only
    go_wp2_with fail
    refine (random13R_any w.heap.size bd _ (H.at 0 rfl) H.size).mono ?_
    rintro _ w61 ⟨M, pa, pc, ra, rc, qs, F, hg, hbw, hz, hfl, hqm, rfl, K0⟩
    replace H := H.joinDice 0 rfl K0 (one_low rfl)
    clear K0
    try simp only [List.nil_append, List.cons_append] at H
    obtain ⟨s0, s1, s2, s3, s4, s5, kd, dt, ck, fx, ws, fs⟩ := M
    have HG := Lib.hid hg
    have HBW := Lib.hid hbw
    have HZ := Lib.hid hz
    have HQM := Lib.hid hqm
    have HFL := Lib.hid (show fs.length ≤ 10 from hfl)
    have hrg := codeB_rng hg.co
    have hrg1 : 1 ≤ dt + ck ∧ dt + ck ≤ 40 ∧ 0 ≤ dt ∧ 0 ≤ ck := by dsimp only at hrg; omega
    have HRG := Lib.hid hrg1
    obtain ⟨N, hN⟩ : ∃ N : Nat, (N : Int) = dt + ck := ⟨(dt + ck).toNat, by have := HRG.out; omega⟩
    have hN2 : (dt + ck).toNat = N := by omega
    have HN2 := Lib.hid hN2
    have HN40 := Lib.hid (show N ≤ 40 by omega)
    have HN1 := Lib.hid (show 1 ≤ N by omega)
    have HCH := Lib.hid (fun w => (show Calls Tryd.prog 14 #[.agg #[.int .i64 kd, .int .i64 dt, .int .i64 ck, .int .i64 fx]] w (Gives (.int .i64 (N : Int)) w) from by rw [hN]; exact r13chips_any kd dt ck fx (by omega) (by omega) w))
    have HSV := Lib.hid (show SV s0 s1 s2 s3 s4 s5 from hg.sv)
    have hGW : GoodWs (szM (⟨s0, s1, s2, s3, s4, s5, kd, dt, ck, fx, ws, fs⟩ : Mm)) N ws := by have := HG.out.ws; dsimp only at this; rwa [hN2] at this
    have HGW := Lib.hid hGW
    have HSM1 := Lib.hid (HG.out.small (Nat.le_trans HZ.out (by decide)))
    obtain ⟨sz9, hZ⟩ : ∃ z : Nat, z = sizeN s0 s1 s2 s3 s4 s5 := ⟨_, rfl⟩
    have hz64 : sz9 ≤ 64 := by rw [hZ]; exact HZ.out
    have hz1 : 1 ≤ sz9 := by
      have h1 := sizeN_yes HSV.out
      have h2 : (0 : Int) < 2 ^ (s0 + s1 + s2 + s3 + s4 + s5).toNat := Int.pow_pos (by decide)
      omega
    have HZZ := Lib.hid (show szM (⟨s0, s1, s2, s3, s4, s5, kd, dt, ck, fx, ws, fs⟩ : Mm) = sz9 from hZ.symm)
    have HZ64 := Lib.hid hz64
    have HZ1 := Lib.hid hz1
    have HSZ := Lib.hid (fun w => show Calls Tryd.prog 17 #[.agg #[.int .i64 s0, .int .i64 s1, .int .i64 s2, .int .i64 s3, .int .i64 s4, .int .i64 s5]] w (Gives (.int .i64 sz9) w) from by rw [hZ]; exact rsize_all s0 s1 s2 s3 s4 s5 w)
    have HND := Lib.hid hN
    clear hg hbw hz hfl hqm hrg hrg1 hN hN2 hGW hZ hz64 hz1
    skip
    try clear C
    try simp only [World.size_alloc, List.nil_append, List.cons_append, List.append_assoc] at H
    have C := H.cells
    try simp only [cellsOf, cellsM, apartOf, apartM, and_true] at C
    try dsimp only [meV] at H ⊢
    try dsimp only [meV]
    obtain ⟨ei, e1, e2, e3, e4⟩ := elemBy.hi
    have hz64 := HZ64.out
    have hn40 := HN40.out
    go_upto_region 5 with fail
    generalize hwb : w61.alloc _ = w3
    replace H := HS.eqW hwb H.alloc
    try simp only [World.size_alloc, List.nil_append, List.cons_append, List.append_assoc] at H
    clear hwb
    generalize w61.heap.size = b4 at H ⊢
    try clear C
    try clear w61
    have C := H.cells
    try simp only [cellsOf, cellsM, apartOf, apartM, and_true] at C
    go_wp2_with fail
    refine (HCH.out _).mono ?_
    rintro _ w4 ⟨rfl, hb⟩
    replace H := H.below hb
    clear hb
    try clear C
    try simp only [World.size_alloc, List.nil_append, List.cons_append, List.append_assoc] at H
    try clear w3
    have C := H.cells
    try simp only [cellsOf, cellsM, apartOf, apartM, and_true] at C
    dsimp only
    go_wp2_with fail
    refine (HSZ.out _).mono ?_
    rintro _ w5 ⟨rfl, hb⟩
    replace H := H.below hb
    clear hb
    try clear C
    try simp only [World.size_alloc, List.nil_append, List.cons_append, List.append_assoc] at H
    try clear w4
    have C := H.cells
    try simp only [cellsOf, cellsM, apartOf, apartM, and_true] at C
    dsimp only
    clear HCH HSZ
    go_wp2_with fail
    refine (next_any ((sz9 : Int) + 2) (by omega) w.heap.size bd _ (H.at 0 rfl)).mono ?_
    rintro _ w6 ⟨v5, rfl, hv5, hd, hg⟩
    replace H := (H).diceAt 0 rfl hg hd
    clear hg hd
    try clear C
    try simp only [World.size_alloc, List.nil_append, List.cons_append, List.append_assoc] at H
    try clear w5
    have C := H.cells
    try simp only [cellsOf, cellsM, apartOf, apartM, and_true] at C
    dsimp only
    have hv0 : 0 ≤ v5 := hv5.1
    have hvz : v5 < sz9 + 2 := hv5.lt (by omega)
    clear hv5
    go_wp2_with fail
    refine (mbytesB_any N (by omega) w.heap.size bd _ (H.at 0 rfl) H.size).mono ?_
    rintro _ w62 ⟨sB, cB, bs, rfl, hbl, hbr, K0⟩
    replace H := H.joinDice 0 rfl K0 (one_low rfl)
    clear K0 hbr
    try simp only [List.nil_append, List.cons_append] at H
    skip
    try clear C
    try simp only [World.size_alloc, List.nil_append, List.cons_append, List.append_assoc] at H
    have C := H.cells
    try simp only [cellsOf, cellsM, apartOf, apartM, and_true] at C
    dsimp only
    have HBL := Lib.hid hbl
    clear hbl
    go_wp2_with fail
    refine (one_any 4 (by omega) (by omega) w.heap.size bd _ (H.at 0 rfl)).mono ?_
    rintro _ w7 ⟨po, rfl, hd, hg⟩
    replace H := (H).diceAt 0 rfl hg hd
    clear hg hd
    try clear C
    try simp only [World.size_alloc, List.nil_append, List.cons_append, List.append_assoc] at H
    try clear w62
    have C := H.cells
    try simp only [cellsOf, cellsM, apartOf, apartM, and_true] at C
    dsimp only
    go_upto_region 7 with fail
    generalize hwb : w7.alloc _ = w8
    replace H := HS.eqW hwb H.alloc
    try simp only [World.size_alloc, List.nil_append, List.cons_append, List.append_assoc] at H
    clear hwb
    generalize w7.heap.size = b6 at H ⊢
    try clear C
    try clear w7
    have C := H.cells
    try simp only [cellsOf, cellsM, apartOf, apartM, and_true] at C
    generalize v5 - 1 = iw at H C
    clear hv0 hvz
    have H8 := HS.less (L' := [_, _, _, _, _]) (H.last 3 rfl) (List.Sublist.refl _)
    have H7 := HS.anyOf (L := [_, _, _, _]) H8 rfl
    have H6 := HS.weak (L := [_, _, _, _]) H7 (K' := fun w => BytesAt w ⟨sB, N, cB⟩ bs) (fun w' h => bytes_row HBL.out.symm h)
    clear H H8 H7 C
    obtain ⟨G, H⟩ : ∃ G, HS NoD w [.dice w.heap.size bd, Item.many [rowCw pa qs.length pc qs, anyCw F qs, rowCf ra fs.length rc fs], .blk b4 #[.int .i64 s0, .int .i64 s1, .int .i64 s2, .int .i64 s3, .int .i64 s4, .int .i64 s5, .int .i64 kd, .int .i64 dt, .int .i64 ck, .int .i64 fx, .slice pa qs.length pc, .slice ra fs.length rc] 34, .blk b6 #[.int .i64 iw, .slice sB N cB, .bool po] 50, .any G (fun w => BytesAt w ⟨sB, N, cB⟩ bs)] w8 := ⟨_, H6⟩
    clear H6
    try clear C
    try simp only [World.size_alloc, List.nil_append, List.cons_append, List.append_assoc] at H
    have C := H.cells
    try simp only [cellsOf, cellsM, apartOf, apartM, and_true] at C
    go_wp2_with fail
    refine (one_any 5 (by omega) (by omega) w.heap.size bd _ (H.at 0 rfl)).mono ?_
    rintro _ w9 ⟨c, rfl, hd, hg⟩
    replace H := (H).diceAt 0 rfl hg hd
    clear hg hd
    try clear C
    try simp only [World.size_alloc, List.nil_append, List.cons_append, List.append_assoc] at H
    try clear w8
    have C := H.cells
    try simp only [cellsOf, cellsM, apartOf, apartM, and_true] at C
    dsimp only
    go_upto_if 33 with fail
    go_cut [] from 34 to 36 (fun wx => ∃ (sB : Option Addr) (nB cB : Nat) (bs : List Int) (G : Nat → Prop), bs.length ≤ 1000 ∧ HS NoD w [.dice w.heap.size bd, Item.many [rowCw pa qs.length pc qs, anyCw F qs, rowCf ra fs.length rc fs], .blk b4 #[.int .i64 s0, .int .i64 s1, .int .i64 s2, .int .i64 s3, .int .i64 s4, .int .i64 s5, .int .i64 kd, .int .i64 dt, .int .i64 ck, .int .i64 fx, .slice pa qs.length pc, .slice ra fs.length rc] 34, .blk b6 #[.int .i64 iw, .slice sB nB cB, .bool po] 50, .any G (fun w => BytesAt w ⟨sB, nB, cB⟩ bs)] wx)
    case first =>
      skip
      cases c with
      | false =>
        go_wp2_with fail
        go_meet
        case rel => exact ⟨_, _, _, bs, G, by have := HBL.out; omega, H⟩
      | true =>
        skip
        go_wp2_with (at_make; refine wpList_make_full _ rfl (.tmp 34) (.tmp 34) 48 rfl w9.heap.size 5 ei _ 1 elemBy.ht e1 e2 e3 .i64 .i64 _ _ N rfl rfl rfl rfl (by rw [e4]; omega) (by unfold maxLen; omega) (Nat.le_refl _) (fun wm hm1 hm2 => ?_); replace H := H.getsRow ((Below.refl _ _).grown hm2 (Nat.le_refl _) (fun k h => by cases h)) hm1; clear hm1 hm2; simp only [List.nil_append, List.cons_append] at H; clear C; have C := H.cells; simp only [cellsOf, cellsM, apartOf, apartM, and_true] at C)
        rw [show (madeCells (Value.int IntKind.u8 0).cells (N * 1)).toList = (List.replicate N 0).flatMap bC1 from made_u8 N] at H
        have H8 := HS.less (L' := [_, _, _, _, _]) H (.cons_cons _ (.cons_cons _ (.cons_cons _ (.cons_cons _ (.cons _ (.cons_cons _ .slnil))))))
        have H7 := HS.anyOf (L := [_, _, _, _]) H8 rfl
        have H6 := HS.weak (L := [_, _, _, _]) H7 (K' := fun wz => BytesAt wz ⟨some ⟨w9.heap.size, 0, none⟩, N, N⟩ (List.replicate N 0)) (fun w' h => bytes_row (by rw [List.length_replicate]) h)
        go_meet
        case rel =>
          have H5 := H6.setTo (o := 1) (v := .slice (some ⟨w9.heap.size, 0, none⟩) N N) 3 rfl rfl
          exact ⟨_, _, _, List.replicate N 0, _, by rw [List.length_replicate]; omega, H5⟩
    case rest =>
      clear HBL
      clear H C
      obtain ⟨sB, nB, cB, bs, G, hbl, H⟩ := hcut
      skip
      try clear C
      try simp only [World.size_alloc, List.nil_append, List.cons_append, List.append_assoc] at H
      have C := H.cells
      try simp only [cellsOf, cellsM, apartOf, apartM, and_true] at C
      go_wp2_with fail
      refine (one_any 5 (by omega) (by omega) w.heap.size bd _ (H.at 0 rfl)).mono ?_
      rintro _ w10 ⟨c, rfl, hd, hg⟩
      replace H := (H).diceAt 0 rfl hg hd
      clear hg hd
      try clear C
      try simp only [World.size_alloc, List.nil_append, List.cons_append, List.append_assoc] at H
      try clear wc
      have C := H.cells
      try simp only [cellsOf, cellsM, apartOf, apartM, and_true] at C
      dsimp only
      go_upto_if 38 with fail
      go_cut [] from 39 to 43 (fun wx => ∃ (sB : Option Addr) (nB cB : Nat) (bs : List Int) (G : Nat → Prop), bs.length ≤ 1000 ∧ HS NoD w [.dice w.heap.size bd, Item.many [rowCw pa qs.length pc qs, anyCw F qs, rowCf ra fs.length rc fs], .blk b4 #[.int .i64 s0, .int .i64 s1, .int .i64 s2, .int .i64 s3, .int .i64 s4, .int .i64 s5, .int .i64 kd, .int .i64 dt, .int .i64 ck, .int .i64 fx, .slice pa qs.length pc, .slice ra fs.length rc] 34, .blk b6 #[.int .i64 iw, .slice sB nB cB, .bool po] 50, .any G (fun w => BytesAt w ⟨sB, nB, cB⟩ bs)] wx)
      case first =>
        skip
        cases c with
        | false =>
          go_wp2_with fail
          go_meet
          case rel => exact ⟨_, _, _, bs, G, hbl, H⟩
        | true =>
          skip
          go_wp2_with fail
          have HBY := Lib.hid (fun wx hd hB => (show Calls Tryd.prog 28 #[.pointer (some ⟨bd, 0, none⟩), .int .i64 ((N : Int) + 1)] wx _ from mbytesB_any (N + 1) (by omega) w.heap.size bd wx hd hB))
          refine (HBY.out _ (H.at 0 rfl) H.size).mono ?_
          rintro _ w63 ⟨sC, cC, cs, rfl, hcl, hcr, K0⟩
          replace H := H.joinDice 0 rfl K0 (one_low rfl)
          clear K0 hcr HBY
          try simp only [List.nil_append, List.cons_append] at H
          have H8 := HS.less (L' := [_, _, _, _, _]) H (.cons_cons _ (.cons_cons _ (.cons_cons _ (.cons_cons _ (.cons _ (.cons_cons _ .slnil))))))
          have H7 := HS.anyOf (L := [_, _, _, _]) H8 rfl
          have H6 := HS.weak (L := [_, _, _, _]) H7 (K' := fun wz => BytesAt wz ⟨sC, N + 1, cC⟩ cs) (fun w' h => bytes_row hcl.symm h)
          clear H H8 H7 C
          have H := H6
          clear H6
          skip
          try clear C
          try simp only [World.size_alloc, List.nil_append, List.cons_append, List.append_assoc] at H
          have C := H.cells
          try simp only [cellsOf, cellsM, apartOf, apartM, and_true] at C
          dsimp only
          have HCL := Lib.hid hcl
          clear hcl
          go_upto_region 11 with fail
          go_meet
          case rel =>
            have H5 := H.setTo (o := 1) (v := .slice sC (N + 1) cC) 3 rfl rfl
            exact ⟨_, _, _, cs, _, by have := HCL.out; omega, H5⟩
      case rest =>
        clear H C hbl
        obtain ⟨sB, nB, cB, bs, G, hbl, H⟩ := hcut
        have HBL := Lib.hid hbl
        clear hbl
        skip
        try clear C
        try simp only [World.size_alloc, List.nil_append, List.cons_append, List.append_assoc] at H
        have C := H.cells
        try simp only [cellsOf, cellsM, apartOf, apartM, and_true] at C
        go_upto_region 11 with fail
        refine wp_region_fH (by kernel_rfl) [0, 1, 2, 3, 4, 5, 6, 7, 8] (by kernel_rfl) (by kernel_rfl) (by kernel_rfl) (OneD bd) (H) ?_
        clear H; intro w11 H hz0
        try clear C
        try simp only [World.size_alloc, List.nil_append, List.cons_append, List.append_assoc] at H hz0 ⊢
        clear hz0
        try clear wc
        have C := H.cells
        try simp only [cellsOf, cellsM, apartOf, apartM, and_true] at C
        simp only [List.filterMap_cons, List.filterMap_nil, List.getElem?_toArray, List.getElem?_cons_zero, List.getElem?_cons_succ]
        (refine wpF_free rfl rfl rfl (fun _ _ => ?_); go_step; go_step)
        (refine wpF_free rfl rfl rfl (fun _ _ => ?_); go_step; go_step)
        (refine wpF_load rfl rfl rfl (by simp [Stay, OneD, NoD, *]) (by simp [*]) (fun _ _ => ?_); go_step; go_step)
        (refine wpF_free rfl rfl rfl (fun _ _ => ?_); go_step; go_step)
        (refine wpF_free rfl rfl rfl (fun _ _ => ?_); go_step; go_step)
        (refine wpF_call rfl rfl (fun wc hc _ _ => ?_); go_step; refine (one_any 2 (by omega) (by omega) w.heap.size bd _ (hc.inv.at 0 rfl)).mono ?_; rintro _ wd ⟨c0, rfl, hd, hg⟩; dsimp only; go_step; refine ⟨hc.chgS hg rfl (Dice.lt (H.at 0 rfl)) (hc.inv.diceAt 0 rfl hg hd), hc.chgK hg (Dice.lt (H.at 0 rfl)), ?_⟩; clear hg hd hc wc wd)
        (refine wpF_call rfl rfl (fun wc hc _ _ => ?_); go_step; refine (faultv_any HSV.out (N : Int) (by have := HN1.out; omega) (by omega) c0 w.heap.size bd _ (hc.inv.at 0 rfl) hc.inv.size).mono ?_; rintro _ wd ⟨f8, rfl, hfh, hfv, hd, hg⟩; dsimp only; go_step; refine ⟨hc.chgS hg rfl (Dice.lt (H.at 0 rfl)) (hc.inv.diceAt 0 rfl hg hd), hc.chgK hg (Dice.lt (H.at 0 rfl)), ?_⟩; clear hg hd hc wc wd)
        (refine wpF_float rfl rfl #[.int .i64 0, .int .i64 0, .int .i64 0, .int .i64 0, .int .i64 0, .int .i64 0, .int .i64 0, .int .i64 0, .int .u8 0, .int .u8 0, .bool false]   38 (fun w => by kernel_rfl) (fun b7 hb7 nb7 _ _ => ?_); go_simp; go_step)
        (refine wpF_store (cs := #[.int .i64 f8.k, .int .i64 f8.p0, .int .i64 f8.p1, .int .i64 f8.p2, .int .i64 f8.p3, .int .i64 f8.p4, .int .i64 f8.p5, .int .i64 f8.ch, .int .u8 f8.ms, .int .u8 f8.vl, .bool f8.hd]) rfl rfl rfl rfl (Fl.at _ _ _) rfl (by kernel_rfl) rfl rfl (fun _ _ => ?_); go_simp; go_step)
        refine wpF_nil ?_
        intro w12 hC
        replace H := H.floats1 hC (Fl.at _ _ _)
        clear hC C hb7 nb7 w11
        try simp only [List.nil_append, List.cons_append, List.append_assoc] at H
        have C := H.cells
        try simp only [cellsOf, cellsM, apartOf, apartM, and_true] at C
        go_step
        go_step
        clear hfh hfv
        go_step
        go_cut [] from 51 to 67 (fun wx => ∃ f : Fa, HS NoD w [.dice w.heap.size bd, Item.many [rowCw pa qs.length pc qs, anyCw F qs, rowCf ra fs.length rc fs], .blk b4 #[.int .i64 s0, .int .i64 s1, .int .i64 s2, .int .i64 s3, .int .i64 s4, .int .i64 s5, .int .i64 kd, .int .i64 dt, .int .i64 ck, .int .i64 fx, .slice pa qs.length pc, .slice ra fs.length rc] 34, .blk b6 #[.int .i64 iw, .slice sB nB cB, .bool po] 50, .any G (fun w => BytesAt w ⟨sB, nB, cB⟩ bs), .blk b7 #[.int .i64 f.k, .int .i64 f.p0, .int .i64 f.p1, .int .i64 f.p2, .int .i64 f.p3, .int .i64 f.p4, .int .i64 f.p5, .int .i64 f.ch, .int .u8 f.ms, .int .u8 f.vl, .bool f.hd] 38] wx)
        case first =>
          by_cases hf0 : fs.length = 0
          · have hfi : ¬ (0 : Int) < fs.length := by omega
            clear hf0
            skip
            go_wp2_with fail
            go_meet
            case rel => exact ⟨f8, H⟩
          · have hfi : (0 : Int) < fs.length := by omega
            have HFL9 := HFL.out
            skip
            have hrow : w12.ownsRow 0 38 11 (.slice ra fs.length rc) fs.length (fs.flatMap cfC) := ((Item.ofMany (H.at 1 rfl)).1 _ (List.mem_cons_of_mem _ (List.mem_cons_of_mem _ List.mem_cons_self))).1
            obtain ⟨g, cap, hv, -, -⟩ := World.ownsRow.form hrow (by omega)
            obtain ⟨rfl, -, rfl⟩ := Value.slice.inj hv
            clear hv hrow
            have hg7 : g ≠ b7 := fun e => H.apart (i := 1) (j := 5) rfl rfl (by decide) (k := g) ⟨_, List.mem_cons_of_mem _ (List.mem_cons_of_mem _ List.mem_cons_self), rfl⟩ e
            have hgd : g ≠ bd := fun e => H.apart (i := 1) (j := 0) rfl rfl (by decide) (k := g) ⟨_, List.mem_cons_of_mem _ (List.mem_cons_of_mem _ List.mem_cons_self), rfl⟩ e
            go_wp2_with fail
            refine (one_any 2 (by omega) (by omega) w.heap.size bd _ (H.at 0 rfl)).mono ?_
            rintro _ w13 ⟨c, rfl, hd, hg⟩
            replace H := (H).diceAt 0 rfl hg hd
            clear hg hd
            try clear C
            try simp only [World.size_alloc, List.nil_append, List.cons_append, List.append_assoc] at H
            try clear w12
            have C := H.cells
            try simp only [cellsOf, cellsM, apartOf, apartM, and_true] at C
            dsimp only
            skip
            cases c with
            | false =>
              go_wp2_with fail
              go_meet
              case rel => exact ⟨f8, H⟩
            | true =>
              skip
              go_upto_region 13 with fail
              refine wp_region_xH (by kernel_rfl) (by kernel_rfl) (by kernel_rfl) (by kernel_rfl) (fun k => k = bd ∨ k = b7) (H) ?_
              clear H; intro w14 H hz0 hs0
              try clear C
              try simp only [World.size_alloc, List.nil_append, List.cons_append, List.append_assoc] at H hz0
              clear hz0
              try clear w13
              have C := H.cells
              try simp only [cellsOf, cellsM, apartOf, apartM, and_true] at C
              have Z := H.zs
              try simp only [ltsOf, ltsM, and_true] at Z
              have hz0 := Nat.le_refl w14.heap.size
              have hgl : g < w14.heap.size := Item.lt (H.at 1 rfl) (k := g) ⟨_, List.mem_cons_of_mem _ (List.mem_cons_of_mem _ List.mem_cons_self), rfl⟩
              repeat (first | (refine wpX_skip rfl ?_; go_simp) | (refine wpX_free rfl rfl rfl (fun K hK => ?_); go_step; refine hK _ _ ?_; clear hK K) | (refine wpX_load rfl rfl rfl (by simp [Stay, OneD, NoD, *]) hs0 (by simp [*]) (fun K hK => ?_); go_step; refine hK _ _ ?_; clear hK K))
              refine wpX_eff rfl rfl (fun _ _ => ?_)
              go_step
              refine (next_any (fs.length : Int) (by omega) w.heap.size bd _ (H.at 0 rfl)).mono ?_
              rintro _ w64 ⟨v7, rfl, hv7, hd, hg⟩
              replace hs0 := hs0.chgS hz0 hg (.inl rfl)
              replace hz0 := Nat.le_trans hz0 hg.size
              replace H := H.diceAt 0 rfl hg hd
              clear hg hd
              skip
              try clear C
              have C := H.cells
              try simp only [cellsOf, cellsM, apartOf, apartM, and_true] at C
              dsimp only
              go_step
              refine ⟨hs0, ?_⟩
              have hj0 : 0 ≤ v7 := hv7.1
              have hj1 : v7 < fs.length := hv7.lt (by omega)
              obtain ⟨j, rfl⟩ : ∃ n : Nat, v7 = n := ⟨v7.toNat, by omega⟩
              have hj : j < fs.length := by omega
              obtain ⟨b, o, e9, hb9, hcf⟩ := (manyLie (H.at 1 rfl)).2.2.2.at hj
              cases e9
              generalize fs[j]! = f9 at hcf
              have k0 : w64.cell? ⟨g, 0 + j * 11, none⟩ = some (.int .i64 f9.k) := hcf 0 _ rfl
              have k1 : w64.cell? ⟨g, 0 + j * 11 + 1, none⟩ = some (.int .i64 f9.p0) := hcf 1 _ rfl
              have k2 : w64.cell? ⟨g, 0 + j * 11 + 2, none⟩ = some (.int .i64 f9.p1) := hcf 2 _ rfl
              have k3 : w64.cell? ⟨g, 0 + j * 11 + 3, none⟩ = some (.int .i64 f9.p2) := hcf 3 _ rfl
              have k4 : w64.cell? ⟨g, 0 + j * 11 + 4, none⟩ = some (.int .i64 f9.p3) := hcf 4 _ rfl
              have k5 : w64.cell? ⟨g, 0 + j * 11 + 5, none⟩ = some (.int .i64 f9.p4) := hcf 5 _ rfl
              have k6 : w64.cell? ⟨g, 0 + j * 11 + 6, none⟩ = some (.int .i64 f9.p5) := hcf 6 _ rfl
              have k7 : w64.cell? ⟨g, 0 + j * 11 + 7, none⟩ = some (.int .i64 f9.ch) := hcf 7 _ rfl
              have k8 : w64.cell? ⟨g, 0 + j * 11 + 8, none⟩ = some (.int .u8 f9.ms) := hcf 8 _ rfl
              have k9 : w64.cell? ⟨g, 0 + j * 11 + 9, none⟩ = some (.int .u8 f9.vl) := hcf 9 _ rfl
              have k10 : w64.cell? ⟨g, 0 + j * 11 + 10, none⟩ = some (.bool f9.hd) := hcf 10 _ rfl
              clear hcf
              simp only [Nat.zero_add] at k0 k1 k2 k3 k4 k5 k6 k7 k8 k9 k10
              repeat (first | (refine wpX_skip rfl ?_; go_simp) | (refine wpX_free rfl rfl rfl (fun K hK => ?_); go_step; refine hK _ _ ?_; clear hK K) | (refine wpX_load rfl rfl rfl (by simp [Stay, OneD, NoD, *]) hs0 (by simp [*]) (fun K hK => ?_); go_step; refine hK _ _ ?_; clear hK K))
              refine wpX_eff rfl rfl (fun _ _ => ?_)
              go_step
              go_step
              generalize hwb : ((((((((((w64.setCell _ _).setCell _ _).setCell _ _).setCell _ _).setCell _ _).setCell _ _).setCell _ _).setCell _ _).setCell _ _).setCell _ _).setCell _ _ = w15
              replace hs0 := Same.eqW hwb (hs0.setAll (b := b7) (fun k hk e => hk.2 (by simp [e])) 0 [.int .i64 f9.k, .int .i64 f9.p0, .int .i64 f9.p1, .int .i64 f9.p2, .int .i64 f9.p3, .int .i64 f9.p4, .int .i64 f9.p5, .int .i64 f9.ch, .int .u8 f9.ms, .int .u8 f9.vl, .bool f9.hd])
              replace hz0 := Nat.le_trans hz0 (Nat.le_of_eq ((setAll_same [.int .i64 f9.k, .int .i64 f9.p0, .int .i64 f9.p1, .int .i64 f9.p2, .int .i64 f9.p3, .int .i64 f9.p4, .int .i64 f9.p5, .int .i64 f9.ch, .int .u8 f9.ms, .int .u8 f9.vl, .bool f9.hd] b7 0 w64).2.2.2.1.symm.trans (congrArg (fun w => w.heap.size) hwb)))
              replace H := HS.eqW hwb (H.putAll (i := 5) rfl (vs := [.int .i64 f9.k, .int .i64 f9.p0, .int .i64 f9.p1, .int .i64 f9.p2, .int .i64 f9.p3, .int .i64 f9.p4, .int .i64 f9.p5, .int .i64 f9.ch, .int .u8 f9.ms, .int .u8 f9.vl, .bool f9.hd]) rfl rfl)
              simp only [List.nil_append, List.cons_append, List.append_assoc, List.set_cons_succ, List.set_cons_zero] at H
              clear hwb
              try clear C
              try clear w64
              have C := H.cells
              try simp only [cellsOf, cellsM, apartOf, apartM, and_true] at C
              refine ⟨hs0, ?_⟩
              (refine wpX_nil ?_; go_step)
              go_wp2_with fail
              go_meet
              case rel => exact ⟨f9, H⟩
        case rest =>
          clear H C
          obtain ⟨f, H⟩ := hcut
          skip
          try clear C
          try simp only [World.size_alloc, List.nil_append, List.cons_append, List.append_assoc] at H
          have C := H.cells
          try simp only [cellsOf, cellsM, apartOf, apartM, and_true] at C
          go_wp2_with fail
          refine (one_any 4 (by omega) (by omega) w.heap.size bd _ (H.at 0 rfl)).mono ?_
          rintro _ w16 ⟨c, rfl, hd, hg⟩
          replace H := (H).diceAt 0 rfl hg hd
          clear hg hd
          try clear C
          try simp only [World.size_alloc, List.nil_append, List.cons_append, List.append_assoc] at H
          try clear wc
          have C := H.cells
          try simp only [cellsOf, cellsM, apartOf, apartM, and_true] at C
          dsimp only
          go_upto_if 69 with fail
          go_cut [] from 70 to 72 (fun wx => ∃ f : Fa, HS NoD w [.dice w.heap.size bd, Item.many [rowCw pa qs.length pc qs, anyCw F qs, rowCf ra fs.length rc fs], .blk b4 #[.int .i64 s0, .int .i64 s1, .int .i64 s2, .int .i64 s3, .int .i64 s4, .int .i64 s5, .int .i64 kd, .int .i64 dt, .int .i64 ck, .int .i64 fx, .slice pa qs.length pc, .slice ra fs.length rc] 34, .blk b6 #[.int .i64 iw, .slice sB nB cB, .bool po] 50, .any G (fun w => BytesAt w ⟨sB, nB, cB⟩ bs), .blk b7 #[.int .i64 f.k, .int .i64 f.p0, .int .i64 f.p1, .int .i64 f.p2, .int .i64 f.p3, .int .i64 f.p4, .int .i64 f.p5, .int .i64 f.ch, .int .u8 f.ms, .int .u8 f.vl, .bool f.hd] 38] wx)
          case first =>
            skip
            cases c with
            | false =>
              go_wp2_with fail
              go_meet
              case rel => exact ⟨f, H⟩
            | true =>
              skip
              go_wp2_with fail
              refine (oddFault_any _ _ _ _ _ _ _ _ _ _ _ w.heap.size bd _ (H.at 0 rfl) H.size).mono ?_
              rintro _ w17 ⟨k', f0', f1', f2', f3', f4', f5', ch', ms', vl', hard', rfl, hd, hg⟩
              replace H := (H).diceAt 0 rfl hg hd
              clear hg hd
              try clear C
              try simp only [World.size_alloc, List.nil_append, List.cons_append, List.append_assoc] at H
              try clear w16
              have C := H.cells
              try simp only [cellsOf, cellsM, apartOf, apartM, and_true] at C
              dsimp only
              repeat go_step
              generalize hwb : ((((((((((w17.setCell _ _).setCell _ _).setCell _ _).setCell _ _).setCell _ _).setCell _ _).setCell _ _).setCell _ _).setCell _ _).setCell _ _).setCell _ _ = w18
              replace H := HS.eqW hwb (H.putAll (i := 5) rfl (vs := [.int .i64 k', .int .i64 f0', .int .i64 f1', .int .i64 f2', .int .i64 f3', .int .i64 f4', .int .i64 f5', .int .i64 ch', .int .u8 ms', .int .u8 vl', .bool hard']) rfl rfl)
              simp only [List.nil_append, List.cons_append, List.append_assoc, List.set_cons_succ, List.set_cons_zero] at H
              clear hwb
              try clear C
              try clear w17
              have C := H.cells
              try simp only [cellsOf, cellsM, apartOf, apartM, and_true] at C
              go_meet
              case rel => exact ⟨⟨k', f0', f1', f2', f3', f4', f5', ch', ms', vl', hard'⟩, H⟩
          case rest =>
            clear H C
            obtain ⟨f, H⟩ := hcut
            skip
            try clear C
            try simp only [World.size_alloc, List.nil_append, List.cons_append, List.append_assoc] at H
            have C := H.cells
            try simp only [cellsOf, cellsM, apartOf, apartM, and_true] at C
            go_step
            go_step
            go_cut [] from 73 to 106 (fun wx => ∃ (M9 : Mm) (x9 y9 : Sv) (G9 : Nat → Prop), Hid (SmallM M9 ∧ szM M9 ≤ 256) ∧ HS NoD w [.dice w.heap.size bd, .blk b4 #[.int .i64 M9.s0, .int .i64 M9.s1, .int .i64 M9.s2, .int .i64 M9.s3, .int .i64 M9.s4, .int .i64 M9.s5, .int .i64 M9.kd, .int .i64 M9.dt, .int .i64 M9.ck, .int .i64 M9.fx, .slice x9.sa x9.n x9.c, .slice y9.sa y9.n y9.c] 34, .blk b6 #[.int .i64 iw, .slice sB nB cB, .bool po] 50, .blk b7 #[.int .i64 f.k, .int .i64 f.p0, .int .i64 f.p1, .int .i64 f.p2, .int .i64 f.p3, .int .i64 f.p4, .int .i64 f.p5, .int .i64 f.ch, .int .u8 f.ms, .int .u8 f.vl, .bool f.hd] 38, .any G9 (fun w => MeAt w x9 y9 M9 ∧ BytesAt w ⟨sB, nB, cB⟩ bs)] wx)
            case first =>
              go_wp2_with fail
              refine (next_any 10 (by omega) w.heap.size bd _ (H.at 0 rfl)).mono ?_
              rintro _ w19 ⟨v9, rfl, hv9, hd, hg⟩
              replace H := (H).diceAt 0 rfl hg hd
              clear hg hd
              try clear C
              try simp only [World.size_alloc, List.nil_append, List.cons_append, List.append_assoc] at H
              try clear wc
              have C := H.cells
              try simp only [cellsOf, cellsM, apartOf, apartM, and_true] at C
              dsimp only
              have hv0 : 0 ≤ v9 := hv9.1
              have hvz : v9 < 10 := hv9.lt (by omega)
              clear hv9
              have hsm : SmallM (⟨s0, s1, s2, s3, s4, s5, kd, dt, ck, fx, ws, fs⟩ : Mm) := HSM1.out
              skip
              by_cases h4 : v9 < 4
              · have hvs : v9 = 0 ∨ v9 = 1 ∨ v9 = 2 ∨ v9 = 3 := by omega
                clear hv0 hvz h4
                rcases hvs with rfl | rfl | rfl | rfl
                · skip
                  have hql9 : qs.length ≤ 1000 := by have h9 := HSM1.out.ws; rw [← HQM.out, List.length_map] at h9; exact h9
                  have HU := HS.less (L' := [_, _, _, _, _, _, _, _]) (H.unmany 1 rfl) (List.Sublist.refl _)
                  clear H C
                  have H := HU
                  clear HU
                  try clear C
                  try simp only [World.size_alloc, List.nil_append, List.cons_append, List.append_assoc] at H
                  have C := H.cells
                  try simp only [cellsOf, cellsM, apartOf, apartM, and_true] at C
                  go_upto_region 18 with fail
                  iterate 13 go_step
                  generalize hwb : World.alloc _ _ = w70
                  replace H := HS.eqW hwb H.alloc
                  clear hwb C
                  simp only [List.nil_append, List.cons_append] at H
                  refine wpList_append_H rfl (.tmp 78) (.tmp 80) 31 rfl elemCw H 5 rfl rfl 8 rfl rfl rfl rfl (by decide) (by unfold maxLen; omega) (by omega) (fun gz9 cz9 w72 HZ9 => ?_)
                  clear H
                  simp only [List.set_cons_succ, List.set_cons_zero, List.nil_append, List.cons_append, List.append_assoc] at HZ9
                  have C := HZ9.cells
                  simp only [cellsOf, cellsM, apartOf, apartM, and_true] at C
                  go_wp2_with fail
                  go_meet
                  case rel =>
                    have H := HZ9.setTo (o := 10) (v := .slice (some ⟨gz9, 0, none⟩) (qs.length + 1) cz9) 1 rfl rfl
                    simp only [List.set_cons_succ, List.set_cons_zero] at H
                    have H9 := HS.less (L' := [_, _, _, _, _, _, _, _]) H (.cons_cons _ (.cons_cons _ (.cons_cons _ (.cons_cons _ (.cons_cons _ (.cons_cons _ (.cons_cons _ (.cons_cons _ (.cons _ .slnil)))))))))
                    have H8 := made_join H9 (qn := qs ++ [((⟨iw, bs, po⟩ : Wm), (⟨sB, nB, cB⟩ : Sv))]) (fn := fs) (by rw [List.length_append]; rfl) rfl (by rw [List.flatMap_append]; rfl) rfl (fun w' h1 h2 q hq => by
                      rcases List.mem_append.1 hq with h | h
                      · exact h1 q h
                      · cases List.mem_singleton.1 h; exact h2)
                    obtain ⟨G9, H8⟩ := H8
                    refine ⟨(⟨s0, s1, s2, s3, s4, s5, kd, dt, ck, fx, (ws ++ [(⟨iw, bs, po⟩ : Wm)]), fs⟩ : Mm), ⟨some ⟨gz9, 0, none⟩, qs.length + 1, cz9⟩, ⟨ra, fs.length, rc⟩, G9, (show Hid _ from ⟨⟨?_, hsm.fs, ?_⟩, Nat.le_trans HZ.out (by decide)⟩), HS.weak (L := [_, _, _, _]) H8 (fun w' h => ⟨⟨CwLie.at h.1.1 ?_, h.1.2⟩, h.2⟩)⟩
                    · show (ws ++ [(⟨iw, bs, po⟩ : Wm)]).length ≤ 1000
                      rw [List.length_append]
                      have := (show ws.length ≤ szM (⟨s0, s1, s2, s3, s4, s5, kd, dt, ck, fx, ws, fs⟩ : Mm) from HG.out.ws.len_le)
                      have := HZ.out
                      simp; omega
                    · intro q hq
                      rcases List.mem_append.1 hq with h | h
                      · exact hsm.bs q h
                      · cases List.mem_singleton.1 h; exact Nat.le_trans HBL.out (by decide)
                    · show (qs ++ [_]).map Prod.fst = ws ++ [(⟨iw, bs, po⟩ : Wm)]
                      rw [List.map_append, HQM.out]; rfl
                · skip
                  have hfl9 : fs.length ≤ 10 := HFL.out
                  have HU := HS.less (L' := [_, _, _, _, _, _, _, _]) (H.unmany 1 rfl) (List.Sublist.refl _)
                  clear H C
                  have H := HU
                  clear HU
                  try clear C
                  try simp only [World.size_alloc, List.nil_append, List.cons_append, List.append_assoc] at H
                  have C := H.cells
                  try simp only [cellsOf, cellsM, apartOf, apartM, and_true] at C
                  go_upto_region 20 with fail
                  iterate 13 go_step
                  generalize hwb : World.alloc _ _ = w70
                  replace H := HS.eqW hwb H.alloc
                  clear hwb C
                  simp only [List.nil_append, List.cons_append] at H
                  refine wpList_append_H rfl (.tmp 86) (.tmp 88) 32 rfl elemCf H 7 rfl rfl 8 rfl rfl rfl rfl (by decide) (by unfold maxLen; omega) (by omega) (fun gz9 cz9 w72 HZ9 => ?_)
                  clear H
                  simp only [List.set_cons_succ, List.set_cons_zero, List.nil_append, List.cons_append, List.append_assoc] at HZ9
                  have C := HZ9.cells
                  simp only [cellsOf, cellsM, apartOf, apartM, and_true] at C
                  go_wp2_with fail
                  go_meet
                  case rel =>
                    have H := HZ9.setTo (o := 11) (v := .slice (some ⟨gz9, 0, none⟩) (fs.length + 1) cz9) 1 rfl rfl
                    simp only [List.set_cons_succ, List.set_cons_zero] at H
                    have H9 := HS.less (L' := [_, _, _, _, _, _, _, _]) H (.cons_cons _ (.cons_cons _ (.cons_cons _ (.cons_cons _ (.cons_cons _ (.cons_cons _ (.cons_cons _ (.cons_cons _ (.cons _ .slnil)))))))))
                    have H8 := made_join H9 (qn := qs) (fn := fs ++ [f]) rfl (by rw [List.length_append]; rfl) rfl (by rw [List.flatMap_append]; rfl) (fun w' h1 h2 => h1)
                    obtain ⟨G9, H8⟩ := H8
                    refine ⟨(⟨s0, s1, s2, s3, s4, s5, kd, dt, ck, fx, ws, (fs ++ [f])⟩ : Mm), ⟨pa, qs.length, pc⟩, ⟨some ⟨gz9, 0, none⟩, fs.length + 1, cz9⟩, G9, (show Hid _ from ⟨⟨hsm.ws, ?_, hsm.bs⟩, Nat.le_trans HZ.out (by decide)⟩), HS.weak (L := [_, _, _, _]) H8 (fun w' h => ⟨⟨CwLie.at h.1.1 HQM.out, h.1.2⟩, h.2⟩)⟩
                    show (fs ++ [f]).length ≤ 1000
                    rw [List.length_append]
                    simp; omega
                · skip
                  have hr4 : 0 ≤ s4 ∧ s4 ≤ 12 := by obtain ⟨h0, h1, h2, h3, h4, h5, h6⟩ := HSV.out; exact h4
                  go_wp2_with fail
                  go_meet
                  case rel =>
                    have H := H.setTo (o := 4) (v := .int .i64 (s4 - 1)) 2 rfl rfl
                    have H9 := HS.less (L' := [_, _, _, _, _, _]) ((H.last 4 rfl).last 1 rfl) (List.Sublist.refl _)
                    have H8 := HS.merge (L := [_, _, _, _]) H9
                    have H7 := HS.weak (L := [_, _, _, _]) H8 (K' := fun w => MeAt w ⟨pa, qs.length, pc⟩ ⟨ra, fs.length, rc⟩ (⟨s0, s1, s2, s3, s4 - 1, s5, kd, dt, ck, fx, ws, fs⟩ : Mm) ∧ BytesAt w ⟨sB, nB, cB⟩ bs) (fun w' h => ⟨meAt_of (m := (⟨s0, s1, s2, s3, s4 - 1, s5, kd, dt, ck, fx, ws, fs⟩ : Mm)) HQM.out (manyLieK h.2), h.1⟩)
                    exact ⟨(⟨s0, s1, s2, s3, s4 - 1, s5, kd, dt, ck, fx, ws, fs⟩ : Mm), ⟨pa, qs.length, pc⟩, ⟨ra, fs.length, rc⟩, _, (show Hid _ from ⟨⟨hsm.ws, hsm.fs, hsm.bs⟩, row_less HG.out (Nat.le_trans HZ.out (by decide))⟩), H7⟩
                · skip
                  have hck9 : 0 ≤ ck ∧ ck ≤ 40 := by have := HRG.out; omega
                  go_wp2_with fail
                  go_meet
                  case rel =>
                    have H := H.setTo (o := 8) (v := .int .i64 (ck + 1)) 2 rfl rfl
                    have H9 := HS.less (L' := [_, _, _, _, _, _]) ((H.last 4 rfl).last 1 rfl) (List.Sublist.refl _)
                    have H8 := HS.merge (L := [_, _, _, _]) H9
                    have H7 := HS.weak (L := [_, _, _, _]) H8 (K' := fun w => MeAt w ⟨pa, qs.length, pc⟩ ⟨ra, fs.length, rc⟩ (⟨s0, s1, s2, s3, s4, s5, kd, dt, ck + 1, fx, ws, fs⟩ : Mm) ∧ BytesAt w ⟨sB, nB, cB⟩ bs) (fun w' h => ⟨meAt_of (m := (⟨s0, s1, s2, s3, s4, s5, kd, dt, ck + 1, fx, ws, fs⟩ : Mm)) HQM.out (manyLieK h.2), h.1⟩)
                    exact ⟨(⟨s0, s1, s2, s3, s4, s5, kd, dt, ck + 1, fx, ws, fs⟩ : Mm), ⟨pa, qs.length, pc⟩, ⟨ra, fs.length, rc⟩, _, (show Hid _ from ⟨⟨hsm.ws, hsm.fs, hsm.bs⟩, Nat.le_trans HZ.out (by decide)⟩), H7⟩
              · skip
                have hd0 : ¬ v9 = 0 := by omega
                have hd1 : ¬ v9 = 1 := by omega
                have hd2 : ¬ v9 = 2 := by omega
                have hd3 : ¬ v9 = 3 := by omega
                have he0 : (v9 == 0) = false := beq_eq_false_iff_ne.2 hd0
                have he1 : (v9 == 1) = false := beq_eq_false_iff_ne.2 hd1
                have he2 : (v9 == 2) = false := beq_eq_false_iff_ne.2 hd2
                have he3 : (v9 == 3) = false := beq_eq_false_iff_ne.2 hd3
                go_wp2_with fail
                go_meet
                case rel =>
                  have H9 := HS.less (L' := [_, _, _, _, _, _]) ((H.last 4 rfl).last 1 rfl) (List.Sublist.refl _)
                  have H8 := HS.merge (L := [_, _, _, _]) H9
                  have H7 := HS.weak (L := [_, _, _, _]) H8 (K' := fun w => MeAt w ⟨pa, qs.length, pc⟩ ⟨ra, fs.length, rc⟩ (⟨s0, s1, s2, s3, s4, s5, kd, dt, ck, fx, ws, fs⟩ : Mm) ∧ BytesAt w ⟨sB, nB, cB⟩ bs) (fun w' h => ⟨meAt_of (m := (⟨s0, s1, s2, s3, s4, s5, kd, dt, ck, fx, ws, fs⟩ : Mm)) HQM.out (manyLieK h.2), h.1⟩)
                  exact ⟨(⟨s0, s1, s2, s3, s4, s5, kd, dt, ck, fx, ws, fs⟩ : Mm), ⟨pa, qs.length, pc⟩, ⟨ra, fs.length, rc⟩, _, (show Hid _ from ⟨⟨hsm.ws, hsm.fs, hsm.bs⟩, Nat.le_trans HZ.out (by decide)⟩), H7⟩
            case rest =>
              clear H C
              obtain ⟨M9, x9, y9, G9, HGD, H⟩ := hcut
              have HAG := Lib.hid (fun wx hn hx hb => (show Calls Tryd.prog 34 #[meV M9 x9 y9, .agg #[.int .i64 iw, .slice sB nB cB, .bool po], .agg #[.int .i64 f.k, .int .i64 f.p0, .int .i64 f.p1, .int .i64 f.p2, .int .i64 f.p3, .int .i64 f.p4, .int .i64 f.p5, .int .i64 f.ch, .int .u8 f.ms, .int .u8 f.vl, .bool f.hd]] wx (Gives (.bool true) wx) from agree13_any M9 x9 y9 HGD.out.1 HGD.out.2 (⟨iw, bs, po⟩ : Wm) ⟨sB, nB, cB⟩ (Nat.le_trans HBL.out (by decide)) f wx hn hx hb))
              dsimp only [meV] at HAG
              skip
              try clear C
              try simp only [World.size_alloc, List.nil_append, List.cons_append, List.append_assoc] at H
              have C := H.cells
              try simp only [cellsOf, cellsM, apartOf, apartM, and_true] at C
              go_wp2_with fail
              refine (awake13_any _ (HNm.out.below H.done)).mono ?_
              rintro _ w20 ⟨rfl, hb⟩
              replace H := H.below hb
              clear hb
              try clear C
              try simp only [World.size_alloc, List.nil_append, List.cons_append, List.append_assoc] at H
              try clear wc
              have C := H.cells
              try simp only [cellsOf, cellsM, apartOf, apartM, and_true] at C
              dsimp only
              go_wp2_with fail
              refine (HAG.out _ (HNm.out.below H.done) (H.says 4 rfl).1 (H.says 4 rfl).2).mono ?_
              rintro _ w21 ⟨rfl, hb⟩
              replace H := H.below hb
              clear hb
              try clear C
              try simp only [World.size_alloc, List.nil_append, List.cons_append, List.append_assoc] at H
              try clear w20
              have C := H.cells
              try simp only [cellsOf, cellsM, apartOf, apartM, and_true] at C
              dsimp only
              go_wp2_with fail
              go_ret
              exact ⟨by first | rfl | go_simp, H.done⟩
  · rw [decide_eq_false h400] at hli
    have HLI := Lib.hid hli
    clear hli
    go_enter Tryd.func8, Tryd.ntmps8
    have H := HS.start NoD w
    go_wp2_with fail
    refine (gives_of (HLI.out _)).mono ?_
    rintro _ w1 ⟨rfl, hb⟩
    replace H := H.below hb
    clear hb
    try clear C
    try simp only [World.size_alloc, List.nil_append, List.cons_append, List.append_assoc] at H
    have C := H.cells
    try simp only [cellsOf, cellsM, apartOf, apartM, and_true] at C
    dsimp only
    go_wp2_with fail
    refine (awake13_any _ (HNm.out.below H.done)).mono ?_
    rintro _ w2 ⟨rfl, hb⟩
    replace H := H.below hb
    clear hb
    try clear C
    try simp only [World.size_alloc, List.nil_append, List.cons_append, List.append_assoc] at H
    try clear w1
    have C := H.cells
    try simp only [cellsOf, cellsM, apartOf, apartM, and_true] at C
    dsimp only
    go_wp2_with fail
    go_ret
    exact ⟨rfl, H.done⟩
end Go.Proofs.YtplflpmkomeadaaDoor
