/- The statement PartMade: its walk. -/
import Derived.Test.YtaeockopliplfaaDoorAgree
import Derived.Test.YtaeockopliplfaaDoorAwake
import Derived.Test.YtaeockopliplfaaDoorMade2
import Derived.Deep.RegionWith
namespace Go.Proofs.YtaeockopliplfaaDoor
set_option linter.unusedSimpArgs false
set_option linter.unusedVariables false
open Go.RowKit
set_option maxRecDepth 100000
attribute [local go_sem] lt_more ne_more ne_more'
attribute [local irreducible] wpX wpF

set_option maxHeartbeats 8000000 in
theorem made_walk (sa : Option Addr) (len cap : Nat) (hl : len ≤ maxLen) (n0 n1 : Int) (w : World) (hN : Nm w) (hI : Ints w sa len) :
    Calls Tryd.prog 7 #[.slice sa len cap, .agg #[.int .i64 n0, .int .i64 n1]] w (Gives (.bool true) w) := by
  have HN := Lib.hid hN
  have HI := Lib.hid hI
  clear hN hI
  have hli := light_any sa len cap hl
  clear hl
  by_cases h400 : len ≤ 400
  · rw [decide_eq_true h400] at hli
    have HLI := Lib.hid hli
    clear hli
    go_enter Tryd.func7, Tryd.ntmps7
    have H := HS.start NoD w
    go_wp2_with fail
    refine (gives_of (HLI.out _)).mono ?_
    rintro _ w1 ⟨rfl, hb⟩
    replace H := H.alloc.below hb
    clear hb
    try clear C
    try simp only [World.size_alloc, List.nil_append, List.cons_append, List.append_assoc] at H
    generalize w.heap.size = bn at H ⊢
    have C := H.cells
    try simp only [cellsOf, apartOf, and_true] at C
    dsimp only
    go_wp2_with fail
    refine (roll_at w.heap.size _ _ _ h400 _ H.size (H.ints HI.out)).mono ?_
    rintro _ w2 ⟨b, rfl, hd, hb, hbb⟩
    replace H := H.getsDice hb hd hbb (Nat.le_refl _)
    clear hb hd hbb
    try clear C
    try simp only [World.size_alloc, List.nil_append, List.cons_append, List.append_assoc] at H
    try clear w1
    have C := H.cells
    try simp only [cellsOf, apartOf, and_true] at C
    dsimp only
    go_wp2_with fail
    refine (shape_any 8 (by omega) w.heap.size b _ (H.at 1 rfl)).mono ?_
    rintro _ w3 ⟨a0, a1, a2, a3, a4, a5, rfl, hS, hsm, hd, hg⟩
    replace H := (H).diceAt 1 rfl hg hd
    clear hg hd
    try clear C
    try simp only [World.size_alloc, List.nil_append, List.cons_append, List.append_assoc] at H
    try clear w2
    have C := H.cells
    try simp only [cellsOf, apartOf, and_true] at C
    dsimp only
    have HSV := Lib.hid hS
    clear hS hsm
    go_wp2_with fail
    refine wp_region_fH (by kernel_rfl) [0, 1, 2, 3, 4, 5, 6] (by kernel_rfl) (by kernel_rfl) (by kernel_rfl) (OneD b) (H.alloc) ?_
    clear H; intro w4 H hz0
    try clear C
    try simp only [World.size_alloc, List.nil_append, List.cons_append, List.append_assoc] at H hz0 ⊢
    generalize w3.heap.size = bS at H hz0 ⊢
    clear hz0
    try clear w3
    have C := H.cells
    try simp only [cellsOf, apartOf, and_true] at C
    simp only [List.filterMap_cons, List.filterMap_nil, List.getElem?_toArray, List.getElem?_cons_zero, List.getElem?_cons_succ]
    (refine wpF_free rfl rfl rfl (fun _ _ => ?_); go_step; go_step)
    (refine wpF_load rfl rfl rfl (by simp [Stay, OneD, NoD, *]) (by simp [*]) (fun _ _ => ?_); go_step; go_step)
    (refine wpF_free rfl rfl rfl (fun _ _ => ?_); go_step; go_step)
    (refine wpF_call rfl rfl (fun wc hc _ _ => ?_); go_step; refine (one_any 2 (by omega) (by omega) w.heap.size b _ (hc.inv.at 1 rfl)).mono ?_; rintro _ wd ⟨c0, rfl, hd, hg⟩; dsimp only; go_step; refine ⟨hc.chgS hg rfl (Dice.lt (H.at 1 rfl)) (hc.inv.diceAt 1 rfl hg hd), hc.chgK hg (Dice.lt (H.at 1 rfl)), ?_⟩; clear hg hd hc wc wd)
    (refine wpF_call rfl rfl (fun wc hc _ _ => ?_); go_step; refine (fault_any HSV.out 9 (by omega) c0 w.heap.size b _ (hc.inv.at 1 rfl) (Nat.le_trans H.size hc.size)).mono ?_; rintro _ wd ⟨k, f0, f1, f2, f3, f4, f5, ch, ms, vl, hard, rfl, hd, hg⟩; dsimp only; go_step; refine ⟨hc.chgS hg rfl (Dice.lt (H.at 1 rfl)) (hc.inv.diceAt 1 rfl hg hd), hc.chgK hg (Dice.lt (H.at 1 rfl)), ?_⟩; clear hg hd hc wc wd)
    (refine wpF_float rfl rfl #[.int .i64 0, .int .i64 0, .int .i64 0, .int .i64 0, .int .i64 0, .int .i64 0, .int .i64 0, .int .i64 0, .int .u8 0, .int .u8 0, .bool false]   44 (fun w => by kernel_rfl) (fun bF hbF nbF _ _ => ?_); go_simp; go_step)
    (refine wpF_store (cs := #[.int .i64 k, .int .i64 f0, .int .i64 f1, .int .i64 f2, .int .i64 f3, .int .i64 f4, .int .i64 f5, .int .i64 ch, .int .u8 ms, .int .u8 vl, .bool hard]) rfl rfl rfl rfl (Fl.at _ _ _) rfl (by kernel_rfl) rfl rfl (fun _ _ => ?_); go_simp; go_step)
    refine wpF_nil ?_
    intro w5 hC
    replace H := H.floats1 hC (Fl.at _ _ _)
    clear hC C hbF nbF w4
    try simp only [List.nil_append, List.cons_append, List.append_assoc] at H
    have C := H.cells
    try simp only [cellsOf, apartOf, and_true] at C
    go_step
    go_step
    go_step
    go_cut [] from 17 to 26 (fun wx => ∃ (k' f0' f1' f2' f3' f4' f5' ch' ms' vl' : Int) (hard' : Bool), HS NoD w [.blk bn #[.int .i64 n0, .int .i64 n1] 48, .dice w.heap.size b, .blk bS #[.int .i64 a0, .int .i64 a1, .int .i64 a2, .int .i64 a3, .int .i64 a4, .int .i64 a5] 28, .blk bF #[.int .i64 k', .int .i64 f0', .int .i64 f1', .int .i64 f2', .int .i64 f3', .int .i64 f4', .int .i64 f5', .int .i64 ch', .int .u8 ms', .int .u8 vl', .bool hard'] 44] wx)
    case first =>
      go_wp2_with fail
      refine (one_any 2 (by omega) (by omega) w.heap.size b _ (H.at 1 rfl)).mono ?_
      rintro _ w6 ⟨c, rfl, hd, hg⟩
      replace H := (H).diceAt 1 rfl hg hd
      clear hg hd
      try clear C
      try simp only [World.size_alloc, List.nil_append, List.cons_append, List.append_assoc] at H
      try clear w5
      have C := H.cells
      try simp only [cellsOf, apartOf, and_true] at C
      dsimp only
      cases c
      all_goals go_wp2_with fail
      · go_meet
        case rel => exact ⟨_, _, _, _, _, _, _, _, _, _, _, H⟩
      · refine (oddFault_any _ _ _ _ _ _ _ _ _ _ _ w.heap.size b _ (H.at 1 rfl) H.size).mono ?_
        rintro _ w7 ⟨k', f0', f1', f2', f3', f4', f5', ch', ms', vl', hard', rfl, hd, hg⟩
        replace H := (H).diceAt 1 rfl hg hd
        clear hg hd
        try clear C
        try simp only [World.size_alloc, List.nil_append, List.cons_append, List.append_assoc] at H
        try clear w6
        have C := H.cells
        try simp only [cellsOf, apartOf, and_true] at C
        dsimp only
        go_wp2_with fail
        go_meet
        case rel =>
          have H : HS NoD w [.blk bn #[.int .i64 n0, .int .i64 n1] 48, .dice w.heap.size b, .blk bS #[.int .i64 a0, .int .i64 a1, .int .i64 a2, .int .i64 a3, .int .i64 a4, .int .i64 a5] 28, .blk bF #[.int .i64 k', .int .i64 f0, .int .i64 f1, .int .i64 f2, .int .i64 f3, .int .i64 f4, .int .i64 f5, .int .i64 ch, .int .u8 ms, .int .u8 vl, .bool hard] 44] _ := H.setTo 3 (o := 0) (v := .int .i64 k') rfl rfl
          have H : HS NoD w [.blk bn #[.int .i64 n0, .int .i64 n1] 48, .dice w.heap.size b, .blk bS #[.int .i64 a0, .int .i64 a1, .int .i64 a2, .int .i64 a3, .int .i64 a4, .int .i64 a5] 28, .blk bF #[.int .i64 k', .int .i64 f0', .int .i64 f1, .int .i64 f2, .int .i64 f3, .int .i64 f4, .int .i64 f5, .int .i64 ch, .int .u8 ms, .int .u8 vl, .bool hard] 44] _ := H.setTo 3 (o := 1) (v := .int .i64 f0') rfl rfl
          have H : HS NoD w [.blk bn #[.int .i64 n0, .int .i64 n1] 48, .dice w.heap.size b, .blk bS #[.int .i64 a0, .int .i64 a1, .int .i64 a2, .int .i64 a3, .int .i64 a4, .int .i64 a5] 28, .blk bF #[.int .i64 k', .int .i64 f0', .int .i64 f1', .int .i64 f2, .int .i64 f3, .int .i64 f4, .int .i64 f5, .int .i64 ch, .int .u8 ms, .int .u8 vl, .bool hard] 44] _ := H.setTo 3 (o := 2) (v := .int .i64 f1') rfl rfl
          have H : HS NoD w [.blk bn #[.int .i64 n0, .int .i64 n1] 48, .dice w.heap.size b, .blk bS #[.int .i64 a0, .int .i64 a1, .int .i64 a2, .int .i64 a3, .int .i64 a4, .int .i64 a5] 28, .blk bF #[.int .i64 k', .int .i64 f0', .int .i64 f1', .int .i64 f2', .int .i64 f3, .int .i64 f4, .int .i64 f5, .int .i64 ch, .int .u8 ms, .int .u8 vl, .bool hard] 44] _ := H.setTo 3 (o := 3) (v := .int .i64 f2') rfl rfl
          have H : HS NoD w [.blk bn #[.int .i64 n0, .int .i64 n1] 48, .dice w.heap.size b, .blk bS #[.int .i64 a0, .int .i64 a1, .int .i64 a2, .int .i64 a3, .int .i64 a4, .int .i64 a5] 28, .blk bF #[.int .i64 k', .int .i64 f0', .int .i64 f1', .int .i64 f2', .int .i64 f3', .int .i64 f4, .int .i64 f5, .int .i64 ch, .int .u8 ms, .int .u8 vl, .bool hard] 44] _ := H.setTo 3 (o := 4) (v := .int .i64 f3') rfl rfl
          have H : HS NoD w [.blk bn #[.int .i64 n0, .int .i64 n1] 48, .dice w.heap.size b, .blk bS #[.int .i64 a0, .int .i64 a1, .int .i64 a2, .int .i64 a3, .int .i64 a4, .int .i64 a5] 28, .blk bF #[.int .i64 k', .int .i64 f0', .int .i64 f1', .int .i64 f2', .int .i64 f3', .int .i64 f4', .int .i64 f5, .int .i64 ch, .int .u8 ms, .int .u8 vl, .bool hard] 44] _ := H.setTo 3 (o := 5) (v := .int .i64 f4') rfl rfl
          have H : HS NoD w [.blk bn #[.int .i64 n0, .int .i64 n1] 48, .dice w.heap.size b, .blk bS #[.int .i64 a0, .int .i64 a1, .int .i64 a2, .int .i64 a3, .int .i64 a4, .int .i64 a5] 28, .blk bF #[.int .i64 k', .int .i64 f0', .int .i64 f1', .int .i64 f2', .int .i64 f3', .int .i64 f4', .int .i64 f5', .int .i64 ch, .int .u8 ms, .int .u8 vl, .bool hard] 44] _ := H.setTo 3 (o := 6) (v := .int .i64 f5') rfl rfl
          have H : HS NoD w [.blk bn #[.int .i64 n0, .int .i64 n1] 48, .dice w.heap.size b, .blk bS #[.int .i64 a0, .int .i64 a1, .int .i64 a2, .int .i64 a3, .int .i64 a4, .int .i64 a5] 28, .blk bF #[.int .i64 k', .int .i64 f0', .int .i64 f1', .int .i64 f2', .int .i64 f3', .int .i64 f4', .int .i64 f5', .int .i64 ch', .int .u8 ms, .int .u8 vl, .bool hard] 44] _ := H.setTo 3 (o := 7) (v := .int .i64 ch') rfl rfl
          have H : HS NoD w [.blk bn #[.int .i64 n0, .int .i64 n1] 48, .dice w.heap.size b, .blk bS #[.int .i64 a0, .int .i64 a1, .int .i64 a2, .int .i64 a3, .int .i64 a4, .int .i64 a5] 28, .blk bF #[.int .i64 k', .int .i64 f0', .int .i64 f1', .int .i64 f2', .int .i64 f3', .int .i64 f4', .int .i64 f5', .int .i64 ch', .int .u8 ms', .int .u8 vl, .bool hard] 44] _ := H.setTo 3 (o := 8) (v := .int .u8 ms') rfl rfl
          have H : HS NoD w [.blk bn #[.int .i64 n0, .int .i64 n1] 48, .dice w.heap.size b, .blk bS #[.int .i64 a0, .int .i64 a1, .int .i64 a2, .int .i64 a3, .int .i64 a4, .int .i64 a5] 28, .blk bF #[.int .i64 k', .int .i64 f0', .int .i64 f1', .int .i64 f2', .int .i64 f3', .int .i64 f4', .int .i64 f5', .int .i64 ch', .int .u8 ms', .int .u8 vl', .bool hard] 44] _ := H.setTo 3 (o := 9) (v := .int .u8 vl') rfl rfl
          have H : HS NoD w [.blk bn #[.int .i64 n0, .int .i64 n1] 48, .dice w.heap.size b, .blk bS #[.int .i64 a0, .int .i64 a1, .int .i64 a2, .int .i64 a3, .int .i64 a4, .int .i64 a5] 28, .blk bF #[.int .i64 k', .int .i64 f0', .int .i64 f1', .int .i64 f2', .int .i64 f3', .int .i64 f4', .int .i64 f5', .int .i64 ch', .int .u8 ms', .int .u8 vl', .bool hard'] 44] _ := H.setTo 3 (o := 10) (v := .bool hard') rfl rfl
          exact ⟨k', f0', f1', f2', f3', f4', f5', ch', ms', vl', hard', H⟩
    case rest =>
      clear H C
      obtain ⟨k', f0', f1', f2', f3', f4', f5', ch', ms', vl', hard', H⟩ := hcut
      skip
      try clear C
      try simp only [World.size_alloc, List.nil_append, List.cons_append, List.append_assoc] at H
      have C := H.cells
      try simp only [cellsOf, apartOf, and_true] at C
      go_wp2_with fail
      refine (place_any HSV.out w.heap.size b _ (H.at 1 rfl)).mono ?_
      rintro _ w8 ⟨p0, p1, p2, p3, p4, p5, rfl, hp, hd, hg⟩
      replace H := (H).diceAt 1 rfl hg hd
      clear hg hd
      try clear C
      try simp only [World.size_alloc, List.nil_append, List.cons_append, List.append_assoc] at H
      try clear wc
      have C := H.cells
      try simp only [cellsOf, apartOf, and_true] at C
      dsimp only
      clear hp
      go_wp2_with fail
      refine (one_any 4 (by omega) (by omega) w.heap.size b _ (H.alloc.at 1 rfl)).mono ?_
      rintro _ w9 ⟨c, rfl, hd, hg⟩
      replace H := (H.alloc).diceAt 1 rfl hg hd
      clear hg hd
      try clear C
      try simp only [World.size_alloc, List.nil_append, List.cons_append, List.append_assoc] at H
      generalize w8.heap.size = bP at H ⊢
      try clear w8
      have C := H.cells
      try simp only [cellsOf, apartOf, and_true] at C
      dsimp only
      go_upto_if 31 with fail
      go_cut [] from 32 to 37 (fun wx => ∃ (a3' : Int), HS NoD w [.blk bn #[.int .i64 n0, .int .i64 n1] 48, .dice w.heap.size b, .blk bS #[.int .i64 a0, .int .i64 a1, .int .i64 a2, .int .i64 (a3'), .int .i64 a4, .int .i64 a5] 28, .blk bF #[.int .i64 k', .int .i64 f0', .int .i64 f1', .int .i64 f2', .int .i64 f3', .int .i64 f4', .int .i64 f5', .int .i64 ch', .int .u8 ms', .int .u8 vl', .bool hard'] 44, .blk bP #[.int .i64 p0, .int .i64 p1, .int .i64 p2, .int .i64 p3, .int .i64 p4, .int .i64 p5] 32] wx)
      case first =>
        cases c
        all_goals go_wp2_with fail
        · go_meet
          case rel => exact ⟨_, H⟩
        · go_region_with (go_at_call 27; refine (next_any 8 (by omega) w.heap.size b _ (H.drew.at 1 rfl)).mono ?_; rintro _ w11 ⟨v5, rfl, hv5, hd, hg⟩; have H2 := H.drew.diceAt 1 rfl hg hd; have C2 := H2.cells; (try simp only [cellsOf, apartOf, and_true] at C2); clear hg hd)
          all_goals go_wp2_with fail
          all_goals go_meet
          case rel => exact ⟨_, H2.setTo 2 rfl (by rfl)⟩
          case rel => exact ⟨_, H2.setTo 2 rfl (by rfl)⟩
      case rest =>
        clear H C
        obtain ⟨a3', H⟩ := hcut
        skip
        try clear C
        try simp only [World.size_alloc, List.nil_append, List.cons_append, List.append_assoc] at H
        have C := H.cells
        try simp only [cellsOf, apartOf, and_true] at C
        go_wp2_with fail
        refine wp_region_xH (by kernel_rfl) (by kernel_rfl) (by kernel_rfl) (by kernel_rfl) (fun _ => False) (H) ?_
        clear H; intro w10 H hz0 hs0
        try clear C
        try simp only [World.size_alloc, List.nil_append, List.cons_append, List.append_assoc] at H hz0
        clear hz0
        try clear wc
        have C := H.cells
        try simp only [cellsOf, apartOf, and_true] at C
        have Z := H.zs
        try simp only [ltsOf, and_true] at Z
        have hz0 := Nat.le_refl w10.heap.size
        repeat (first | (refine wpX_skip rfl ?_; go_simp) | (refine wpX_free rfl rfl rfl (fun K hK => ?_); go_step; refine hK _ _ ?_; clear hK K) | (refine wpX_load rfl rfl rfl (by simp [Stay, OneD, NoD, *]) hs0 (by simp [*]) (fun K hK => ?_); go_step; refine hK _ _ ?_; clear hK K))
        refine wpX_eff rfl rfl (fun _ _ => ?_)
        go_step
        refine (awake09 _ (HN.out.below H.done)).mono ?_
        rintro _ w11 ⟨rfl, hb⟩
        replace hs0 := hs0.belowS hz0 hb
        replace hz0 := Nat.le_trans hz0 hb.size
        replace H := H.below hb
        clear hb
        try clear C
        have C := H.cells
        try simp only [cellsOf, apartOf, and_true] at C
        try clear w10
        dsimp only
        go_step
        refine ⟨hs0, ?_⟩
        repeat (first | (refine wpX_skip rfl ?_; go_simp) | (refine wpX_free rfl rfl rfl (fun K hK => ?_); go_step; refine hK _ _ ?_; clear hK K) | (refine wpX_load rfl rfl rfl (by simp [Stay, OneD, NoD, *]) hs0 (by simp [*]) (fun K hK => ?_); go_step; refine hK _ _ ?_; clear hK K))
        refine wpX_eff rfl rfl (fun _ _ => ?_)
        go_step
        refine (gives_of (mod_any _ _ _)).mono ?_
        rintro _ w12 ⟨rfl, hb⟩
        replace hs0 := hs0.belowS hz0 hb
        replace hz0 := Nat.le_trans hz0 hb.size
        replace H := H.below hb
        clear hb
        try clear C
        have C := H.cells
        try simp only [cellsOf, apartOf, and_true] at C
        try clear w11
        dsimp only
        go_step
        refine ⟨hs0, ?_⟩
        repeat (first | (refine wpX_skip rfl ?_; go_simp) | (refine wpX_free rfl rfl rfl (fun K hK => ?_); go_step; refine hK _ _ ?_; clear hK K) | (refine wpX_load rfl rfl rfl (by simp [Stay, OneD, NoD, *]) hs0 (by simp [*]) (fun K hK => ?_); go_step; refine hK _ _ ?_; clear hK K))
        refine wpX_eff rfl rfl (fun _ _ => ?_)
        go_step
        refine (agree_yes _ _ _ _ _ _ _ _ _ _ _ _ _ _ _ _ _ _ _ _ _ _ _ _ _ _ (HN.out.below H.done)).mono ?_
        rintro _ w13 ⟨rfl, hb⟩
        replace hs0 := hs0.belowS hz0 hb
        replace hz0 := Nat.le_trans hz0 hb.size
        replace H := H.below hb
        clear hb
        try clear C
        have C := H.cells
        try simp only [cellsOf, apartOf, and_true] at C
        try clear w12
        dsimp only
        go_step
        refine ⟨hs0, ?_⟩
        repeat (first | (refine wpX_skip rfl ?_; go_simp) | (refine wpX_free rfl rfl rfl (fun K hK => ?_); go_step; refine hK _ _ ?_; clear hK K) | (refine wpX_load rfl rfl rfl (by simp [Stay, OneD, NoD, *]) hs0 (by simp [*]) (fun K hK => ?_); go_step; refine hK _ _ ?_; clear hK K))
        refine wpX_eff rfl rfl (fun _ _ => ?_)
        go_step
        refine (agree_yes _ _ _ _ _ _ _ _ _ _ _ _ _ _ _ _ _ _ _ _ _ _ _ _ _ _ (HN.out.below H.done)).mono ?_
        rintro _ w14 ⟨rfl, hb⟩
        replace hs0 := hs0.belowS hz0 hb
        replace hz0 := Nat.le_trans hz0 hb.size
        replace H := H.below hb
        clear hb
        try clear C
        have C := H.cells
        try simp only [cellsOf, apartOf, and_true] at C
        try clear w13
        dsimp only
        go_step
        refine ⟨hs0, ?_⟩
        repeat (first | (refine wpX_skip rfl ?_; go_simp) | (refine wpX_free rfl rfl rfl (fun K hK => ?_); go_step; refine hK _ _ ?_; clear hK K) | (refine wpX_load rfl rfl rfl (by simp [Stay, OneD, NoD, *]) hs0 (by simp [*]) (fun K hK => ?_); go_step; refine hK _ _ ?_; clear hK K))
        (refine wpX_nil ?_; go_step)
        go_wp2_with fail
        go_ret
        exact ⟨rfl, H.done⟩
  · rw [decide_eq_false h400] at hli
    have HLI := Lib.hid hli
    clear hli
    go_enter Tryd.func7, Tryd.ntmps7
    have H := HS.start NoD w
    go_wp2_with fail
    refine (gives_of (HLI.out _)).mono ?_
    rintro _ w1 ⟨rfl, hb⟩
    replace H := H.alloc.below hb
    clear hb
    try clear C
    try simp only [World.size_alloc, List.nil_append, List.cons_append, List.append_assoc] at H
    generalize w.heap.size = bn at H ⊢
    have C := H.cells
    try simp only [cellsOf, apartOf, and_true] at C
    dsimp only
    go_wp2_with fail
    refine (awake09 _ (HN.out.below H.done)).mono ?_
    rintro _ w2 ⟨rfl, hb⟩
    replace H := H.below hb
    clear hb
    try clear C
    try simp only [World.size_alloc, List.nil_append, List.cons_append, List.append_assoc] at H
    try clear w1
    have C := H.cells
    try simp only [cellsOf, apartOf, and_true] at C
    dsimp only
    go_wp2_with fail
    go_ret
    exact ⟨rfl, H.done⟩
end Go.Proofs.YtaeockopliplfaaDoor
