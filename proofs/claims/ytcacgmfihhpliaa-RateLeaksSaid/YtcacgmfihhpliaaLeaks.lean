/- The statement RateLeaks: its walk. -/
import Derived.Test.YtcacgmfihhpliaaTwice
namespace Go.Proofs.Ytcacgmfihhpliaa
set_option linter.unusedSimpArgs false
set_option linter.unusedVariables false
open Go.RowKit
set_option maxRecDepth 100000
attribute [local go_sem] lt_more ne_more ne_more'
attribute [local irreducible] wpX wpF

def iC (n : Int) : List Value := [.int .i64 n]
theorem iC_len (n : Int) : (iC n).length = 1 := rfl
def overI (L : Int) (xs : List G3) : List Int := (xs.filter fun x => decide (L ≤ x.l)).map fun x => x.p
theorem overL_eq (L : Int) (xs : List G3) : overL L xs = (overI L xs).flatMap iC := by
  unfold overL overI
  induction xs.filter (fun x => decide (L ≤ x.l)) with
  | nil => rfl
  | cons x l ih => simp only [List.map_cons, List.flatMap_cons, ← ih]; rfl
set_option maxHeartbeats 4000000 in
theorem rover_any (P L : Int) {sa : Option Addr} (c : Nat) {xs : List G3} (hx : xs.length ≤ 1000) (w : World) (hl : Lies w w.heap.size sa 3 xs.length (fun j => gC xs[j]!)) :
    Calls Try.prog 50 #[vG P L (.slice sa xs.length c)] w (GivesS (fun v => v) 3 1 (overL L xs).length (overL L xs) w) := by
  have HL := Lib.hid hl
  clear hl
  go_enter Try.func50, Try.ntmps50
  have H := HS.start NoD w
  go_wp2_with fail
  generalize hwb : w.alloc _ = w1
  replace H := HS.eqW hwb H.alloc
  try simp only [World.size_alloc, List.nil_append, List.cons_append, List.append_assoc] at H
  clear hwb
  generalize w.heap.size = bG at H ⊢
  try clear C
  have C := H.cells
  try simp only [cellsOf, apartOf, and_true] at C
  have hn := H.nilRow 3 1
  clear H
  have H := hn
  clear hn
  try simp only [List.nil_append, List.cons_append] at H
  go_loopw [3, 9] (fun v i wr => ∃ (j : Nat), i = .int .i64 j ∧ j ≤ xs.length ∧ HS NoD w [.blk bG #[.int .i64 P, .int .i64 L, .slice sa xs.length c] 63, .row v 3 1 (overL L (xs.take j)).length (overL L (xs.take j))] wr) (fun _ i _ => xs.length - (intOf i).toNat)
  case atStart => exact ⟨0, rfl, Nat.zero_le _, H⟩
  case round =>
    clear H C w1
    obtain ⟨j, rfl, hj, H⟩ := hrel
    rename_i v _ _
    skip
    try clear C
    try simp only [World.size_alloc, List.nil_append, List.cons_append, List.append_assoc] at H
    have C := H.cells
    try simp only [cellsOf, apartOf, and_true] at C
    by_cases hlt : j < xs.length
    · obtain ⟨b, o, rfl, hb, hc⟩ := (H.lies HL.out).at hlt
      have htk := overL_take (L := L) hlt
      obtain ⟨x, hxj⟩ : ∃ x, x = xs[j]! := ⟨_, rfl⟩
      rw [← hxj] at hc htk
      obtain ⟨p, l, t⟩ := x
      have c0 : wr.cell? ⟨b, o + j * 3, none⟩ = some (.int .i64 p) := hc 0 _ rfl
      have c1 : wr.cell? ⟨b, o + j * 3 + 1, none⟩ = some (.int .i64 l) := hc 1 _ rfl
      have c2 : wr.cell? ⟨b, o + j * 3 + 2, none⟩ = some (.int .i64 t) := hc 2 _ rfl
      dsimp only at htk
      have HTK := Lib.hid htk
      clear hc hxj htk
      generalize hys : overL L (xs.take j) = ys at H C HTK
      have hyl : ys.length ≤ 1000 := by rw [← hys]; exact Nat.le_trans (overL_len _ _) (Nat.le_trans (List.length_take_le' _ _) hx)
      clear hys
      by_cases hge : L ≤ l
      · rw [if_pos hge] at HTK
        go_upto_region 6 with fail
        generalize hwb : wr.alloc _ = w2
        replace H := HS.eqW hwb H.alloc
        try simp only [World.size_alloc, List.nil_append, List.cons_append, List.append_assoc] at H
        clear hwb
        generalize wr.heap.size = bx at H ⊢
        try clear C
        try clear wr
        have C := H.cells
        try simp only [cellsOf, apartOf, and_true] at C
        go_wp2_with (at_builtin; refine wpList_append_H rfl (.tmp 18) (.tmp 21) 27 rfl elemI H.alloc 1 rfl rfl 3 rfl rfl rfl rfl (by decide) (by unfold maxLen; omega) (by omega) (fun g cap wz HZ => ?_); clear H C)
        go_roundw
        case rel =>
          refine ⟨j + 1, by go_num, by omega, ?_⟩
          rw [HTK.out, List.length_append]
          exact HZ.less (by repeat (first | exact .slnil | refine .cons_cons _ ?_ | refine .cons _ ?_))
        case measure => simp [intOf]; omega
      · rw [if_neg hge, List.append_nil] at HTK
        skip
        go_wp2_with fail
        go_roundw
        case rel =>
          refine ⟨j + 1, by go_num, by omega, ?_⟩
          rw [HTK.out]
          exact H.alloc.less (by repeat (first | exact .slnil | refine .cons_cons _ ?_ | refine .cons _ ?_))
        case measure => simp [intOf]; omega
    · have hje : j = xs.length := by omega
      subst hje
      rw [List.take_length] at H
      skip
      try clear C
      try simp only [World.size_alloc, List.nil_append, List.cons_append, List.append_assoc] at H
      have C := H.cells
      try simp only [cellsOf, apartOf, and_true] at C
      obtain ⟨sb, d, rfl⟩ := ownsRow_slice (H.at 1 rfl)
      go_wp2_with fail
      go_ret
      exact H.givesS 1 (mk := fun v => v) rfl


theorem over_I (P L : Int) {sa : Option Addr} (c : Nat) {xs : List G3} (hx : xs.length ≤ 1000) (w : World) (hl : Lies w w.heap.size sa 3 xs.length (fun j => gC xs[j]!)) :
    Calls Try.prog 49 #[vG P L (.slice sa xs.length c)] w (GivesS (fun v => v) 3 1 (overI L xs).length ((overI L xs).flatMap iC) w) := by
  have := over_any P L c hx w hl
  rwa [overL_eq, flat_len iC_len, Nat.mul_one] at this
theorem rover_I (P L : Int) {sa : Option Addr} (c : Nat) {xs : List G3} (hx : xs.length ≤ 1000) (w : World) (hl : Lies w w.heap.size sa 3 xs.length (fun j => gC xs[j]!)) :
    Calls Try.prog 50 #[vG P L (.slice sa xs.length c)] w (GivesS (fun v => v) 3 1 (overI L xs).length ((overI L xs).flatMap iC) w) := by
  have := rover_any P L c hx w hl
  rwa [overL_eq, flat_len iC_len, Nat.mul_one] at this
theorem overI_len (L : Int) (xs : List G3) : (overI L xs).length ≤ xs.length := by
  unfold overI; rw [List.length_map]; exact List.length_filter_le _ _

set_option maxHeartbeats 4000000 in
theorem ints26 {sa sb : Option Addr} (c d : Nat) {xs : List Int} (hx : xs.length ≤ 100000) (w : World) (hl : Lies w w.heap.size sa 1 xs.length (fun j => iC xs[j]!)) (hm : Lies w w.heap.size sb 1 xs.length (fun j => iC xs[j]!)) :
    Calls Try.prog 48 #[.slice sa xs.length c, .slice sb xs.length d] w (Gives (.bool true) w) := by
  have HL := Lib.hid hl
  have HM := Lib.hid hm
  clear hl hm
  go_enter Try.func48, Try.ntmps48
  have H := HS.start NoD w
  go_wp2_with fail
  go_loopw [14] (fun i wr => ∃ (j : Nat), i = .int .i64 j ∧ j ≤ xs.length ∧ HS NoD w [] wr) (fun i _ => xs.length - (intOf i).toNat)
  case atStart => exact ⟨0, rfl, Nat.zero_le _, H⟩
  case round =>
    clear H
    obtain ⟨j, rfl, hj, H⟩ := hrel
    skip
    by_cases hlt : j < xs.length
    · obtain ⟨b, o, rfl, hb, hc⟩ := (H.lies HL.out).at hlt
      obtain ⟨b', o', rfl, hb', hc'⟩ := (H.lies HM.out).at hlt
      obtain ⟨x, hxj⟩ : ∃ x, x = xs[j]! := ⟨_, rfl⟩
      rw [← hxj] at hc hc'
      have c0 : wr.cell? ⟨b, o + j, none⟩ = some (.int .i64 x) := by simpa using hc 0 _ rfl
      have d0 : wr.cell? ⟨b', o' + j, none⟩ = some (.int .i64 x) := by simpa using hc' 0 _ rfl
      clear hc hc' hxj
      go_wp2_with fail
      go_roundw
      case rel => exact ⟨j + 1, by go_num, by omega, H⟩
      case measure => simp [intOf]; omega
    · go_wp2_with fail
      go_ret
      exact ⟨rfl, H.done⟩

set_option maxHeartbeats 4000000 in
theorem leaks_walk (sa : Option Addr) (len cap : Nat) (hl : len ≤ maxLen) (time : Int) (w : World) (hI : Ints w sa len) :
    Calls Try.prog 9 #[.slice sa len cap, .int .i64 time] w (Gives (.bool true) w) := by
  have HI := Lib.hid hI
  clear hI
  have hli := light_any sa len cap hl
  clear hl
  by_cases h400 : len ≤ 400
  · rw [decide_eq_true h400] at hli
    have HLI := Lib.hid hli
    clear hli
    have m1 := modF_in (n := time) (m := 100) (by decide) (by decide)
    have m2 := modF_in (n := time) (m := 1099511627777) (by decide) (by decide)
    have M1 := Lib.hid (fun w => gives_of (mod_any time 100 w))
    have M2 := Lib.hid (fun w => gives_of (mod_any time 1099511627777 w))
    generalize modF time 100 = t1 at *
    generalize modF time 1099511627777 = t2 at *
    go_enter Try.func9, Try.ntmps9
    have H := HS.start NoD w
    go_wp2_with fail
    refine (gives_of (HLI.out _)).mono ?_
    rintro _ w1 ⟨rfl, hb⟩
    replace H := H.below hb
    clear hb
    try clear C
    try simp only [World.size_alloc, List.nil_append, List.cons_append, List.append_assoc] at H
    have C := H.cells
    try simp only [cellsOf, apartOf, and_true] at C
    dsimp only
    go_wp2_with fail
    refine (roll_at w.heap.size _ _ _ h400 _ H.size (H.ints HI.out)).mono ?_
    rintro _ w2 ⟨bd, rfl, hd, hb, hbb⟩
    replace H := H.getsDice hb hd hbb (Nat.le_refl _)
    clear hb hd hbb
    try clear C
    try simp only [World.size_alloc, List.nil_append, List.cons_append, List.append_assoc] at H
    try clear w1
    have C := H.cells
    try simp only [cellsOf, apartOf, and_true] at C
    dsimp only
    go_wp2_with fail
    refine (gauges_any w.heap.size bd _ (H.at 0 rfl) H.size).mono ?_
    rintro _ wg ⟨P, L, xs, s0, c0, rfl, hr, hG, hd, hg⟩
    replace H := H.diceRow 0 rfl hg hd hr
    clear hr hd hg
    try simp only [List.nil_append, List.cons_append, List.append_assoc] at H
    skip
    try clear C
    try simp only [World.size_alloc, List.nil_append, List.cons_append, List.append_assoc] at H
    have C := H.cells
    try simp only [cellsOf, apartOf, and_true] at C
    have hxl := hG.len
    have HG := Lib.hid hG
    clear hG
    go_wp2_with fail
    refine (M1.out _).mono ?_
    rintro _ w3 ⟨rfl, hb⟩
    replace H := H.alloc.below hb
    clear hb
    try clear C
    try simp only [World.size_alloc, List.nil_append, List.cons_append, List.append_assoc] at H
    generalize wg.heap.size = bG at H ⊢
    try clear wg
    have C := H.cells
    try simp only [cellsOf, apartOf, and_true] at C
    dsimp only
    go_wp2_with fail
    refine (M2.out _).mono ?_
    rintro _ w4 ⟨rfl, hb⟩
    replace H := H.below hb
    clear hb
    try clear C
    try simp only [World.size_alloc, List.nil_append, List.cons_append, List.append_assoc] at H
    try clear w3
    have C := H.cells
    try simp only [cellsOf, apartOf, and_true] at C
    dsimp only
    go_wp2_with fail
    generalize hwb : w4.alloc _ = w5
    replace H := HS.eqW hwb H.alloc
    try simp only [World.size_alloc, List.nil_append, List.cons_append, List.append_assoc] at H
    clear hwb
    generalize w4.heap.size = bL at H ⊢
    try clear C
    try clear w4
    have C := H.cells
    try simp only [cellsOf, apartOf, and_true] at C
    go_loopw [22] (fun i wr => ∃ (j : Nat), i = .int .i64 j ∧ j ≤ 2 ∧ HS NoD w [.dice w.heap.size bd, .row (.slice s0 xs.length c0) 66 3 xs.length (xs.flatMap gC), .blk bG #[.int .i64 P, .int .i64 L, .slice s0 xs.length c0] 63, .blk bL #[.int .i64 t1, .int .i64 t2] 3] wr) (fun i _ => 2 - (intOf i).toNat)
    case atStart => exact ⟨0, rfl, by decide, H⟩
    case round =>
      clear H C w5
      obtain ⟨j, rfl, hj, H⟩ := hrel
      skip
      try clear C
      try simp only [World.size_alloc, List.nil_append, List.cons_append, List.append_assoc] at H
      have C := H.cells
      try simp only [cellsOf, apartOf, and_true] at C
      by_cases hlt : j < 2
      · obtain ⟨T, hT, hcl⟩ : ∃ T : Int, (0 ≤ T ∧ T ≤ 1099511627776) ∧ wr.cell? ⟨bL, j, none⟩ = some (.int .i64 T) := by
          have hb := (H.at 3 rfl : Blk _ _ _ _).cell j
          obtain rfl | rfl : j = 0 ∨ j = 1 := by omega
          · exact ⟨t1, by omega, by simpa using hb⟩
          · exact ⟨t2, by omega, by simpa using hb⟩
        clear C
        have C := (H.less (L' := [.dice w.heap.size bd, .row (.slice s0 xs.length c0) 66 3 xs.length (xs.flatMap gC), .blk bG #[.int .i64 P, .int .i64 L, .slice s0 xs.length c0] 63]) (by repeat (first | exact .slnil | refine .cons_cons _ ?_ | refine .cons _ ?_))).cells
        simp only [cellsOf, apartOf, and_true] at C
        have K1 := Lib.hid (fun w (sa : Option Addr) (c : Nat) hl => leak_ok L (sa := sa) c (HG.out.ok hT) w hl)
        have K2 := Lib.hid (fun w (sa : Option Addr) (c : Nat) hl => rleak_ok L (sa := sa) c (HG.out.ok hT) w hl)
        have hyl : (leakL P T xs).length ≤ 5 := Nat.le_trans (leakL_len _ _ _) hxl
        have hol : (overI L (leakL P T xs)).length ≤ 5 := Nat.le_trans (overI_len _ _) hyl
        generalize leakL P T xs = ys at *
        go_wp2_with fail
        clear hcl
        refine (K1.out _ _ _ (H.rowLies 1 gC_len rfl rfl)).mono ?_
        rintro _ w6 ⟨s1, c1, rfl, hr, hb⟩
        replace H := (H).getsRow hb hr
        clear hb hr
        try clear C
        try simp only [World.size_alloc, List.nil_append, List.cons_append, List.append_assoc] at H
        try clear wr
        have C := H.cells
        try simp only [cellsOf, apartOf, and_true] at C
        dsimp only
        go_wp2_with fail
        refine wp_region_xH (by kernel_rfl) (by kernel_rfl) (by kernel_rfl) (by kernel_rfl) (fun _ => False) (H.alloc) ?_
        clear H; intro w7 H hz0 hs0
        try clear C
        try simp only [World.size_alloc, List.nil_append, List.cons_append, List.append_assoc] at H hz0
        generalize w6.heap.size = bX at H hz0 ⊢
        clear hz0
        try clear w6
        have C := H.cells
        try simp only [cellsOf, apartOf, and_true] at C
        have Z := H.zs
        try simp only [ltsOf, and_true] at Z
        have hz0 := Nat.le_refl w7.heap.size
        repeat (first | (refine wpX_skip rfl ?_; go_simp) | (refine wpX_free rfl rfl rfl (fun K hK => ?_); go_step; refine hK _ _ ?_; clear hK K) | (refine wpX_load rfl rfl rfl (by simp [Stay, OneD, NoD, *]) hs0 (by simp [*]) (fun K hK => ?_); go_step; refine hK _ _ ?_; clear hK K))
        refine wpX_eff rfl rfl (fun _ _ => ?_)
        go_step
        refine (K2.out _ _ _ (H.rowLies 1 gC_len rfl rfl)).mono ?_
        rintro _ w8 ⟨s2, c2, rfl, hr, hb⟩
        replace hs0 := hs0.belowS hz0 hb
        replace hz0 := Nat.le_trans hz0 hb.size
        replace H := H.getsRow hb hr
        clear hb hr
        try simp only [List.nil_append, List.cons_append, List.append_assoc] at H
        try clear C
        have C := H.cells
        try simp only [cellsOf, apartOf, and_true] at C
        try clear w7
        dsimp only
        go_step
        refine ⟨hs0, ?_⟩
        repeat (first | (refine wpX_skip rfl ?_; go_simp) | (refine wpX_free rfl rfl rfl (fun K hK => ?_); go_step; refine hK _ _ ?_; clear hK K) | (refine wpX_load rfl rfl rfl (by simp [Stay, OneD, NoD, *]) hs0 (by simp [*]) (fun K hK => ?_); go_step; refine hK _ _ ?_; clear hK K))
        refine wpX_eff rfl rfl (fun _ _ => ?_)
        go_step
        refine (same26 P L _ _ (by omega) _ (H.rowLies 4 gC_len rfl rfl) (H.rowLies 6 gC_len rfl rfl)).mono ?_
        rintro _ w9 ⟨rfl, hb⟩
        replace hs0 := hs0.belowS hz0 hb
        replace hz0 := Nat.le_trans hz0 hb.size
        replace H := H.below hb
        clear hb
        try clear C
        have C := H.cells
        try simp only [cellsOf, apartOf, and_true] at C
        try clear w8
        dsimp only
        go_step
        refine ⟨hs0, ?_⟩
        repeat (first | (refine wpX_skip rfl ?_; go_simp) | (refine wpX_free rfl rfl rfl (fun K hK => ?_); go_step; refine hK _ _ ?_; clear hK K) | (refine wpX_load rfl rfl rfl (by simp [Stay, OneD, NoD, *]) hs0 (by simp [*]) (fun K hK => ?_); go_step; refine hK _ _ ?_; clear hK K))
        refine wpX_eff rfl rfl (fun _ _ => ?_)
        go_step
        refine (over_I P L _ (by omega) _ (H.rowLies 4 gC_len rfl rfl)).mono ?_
        rintro _ w10 ⟨s3, c3, rfl, hr, hb⟩
        replace hs0 := hs0.belowS hz0 hb
        replace hz0 := Nat.le_trans hz0 hb.size
        replace H := H.getsRow hb hr
        clear hb hr
        try simp only [List.nil_append, List.cons_append, List.append_assoc] at H
        try clear C
        have C := H.cells
        try simp only [cellsOf, apartOf, and_true] at C
        try clear w9
        dsimp only
        go_step
        refine ⟨hs0, ?_⟩
        repeat (first | (refine wpX_skip rfl ?_; go_simp) | (refine wpX_free rfl rfl rfl (fun K hK => ?_); go_step; refine hK _ _ ?_; clear hK K) | (refine wpX_load rfl rfl rfl (by simp [Stay, OneD, NoD, *]) hs0 (by simp [*]) (fun K hK => ?_); go_step; refine hK _ _ ?_; clear hK K))
        refine wpX_eff rfl rfl (fun _ _ => ?_)
        go_step
        refine (rover_I P L _ (by omega) _ (H.rowLies 4 gC_len rfl rfl)).mono ?_
        rintro _ w11 ⟨s4, c4, rfl, hr, hb⟩
        replace hs0 := hs0.belowS hz0 hb
        replace hz0 := Nat.le_trans hz0 hb.size
        replace H := H.getsRow hb hr
        clear hb hr
        try simp only [List.nil_append, List.cons_append, List.append_assoc] at H
        try clear C
        have C := H.cells
        try simp only [cellsOf, apartOf, and_true] at C
        try clear w10
        dsimp only
        go_step
        refine ⟨hs0, ?_⟩
        repeat (first | (refine wpX_skip rfl ?_; go_simp) | (refine wpX_free rfl rfl rfl (fun K hK => ?_); go_step; refine hK _ _ ?_; clear hK K) | (refine wpX_load rfl rfl rfl (by simp [Stay, OneD, NoD, *]) hs0 (by simp [*]) (fun K hK => ?_); go_step; refine hK _ _ ?_; clear hK K))
        refine wpX_eff rfl rfl (fun _ _ => ?_)
        go_step
        refine (ints26 _ _ (by omega) _ (H.rowLies 7 iC_len rfl rfl) (H.rowLies 8 iC_len rfl rfl)).mono ?_
        rintro _ w12 ⟨rfl, hb⟩
        replace hs0 := hs0.belowS hz0 hb
        replace hz0 := Nat.le_trans hz0 hb.size
        replace H := H.below hb
        clear hb
        try clear C
        have C := H.cells
        try simp only [cellsOf, apartOf, and_true] at C
        try clear w11
        dsimp only
        go_step
        refine ⟨hs0, ?_⟩
        repeat (first | (refine wpX_skip rfl ?_; go_simp) | (refine wpX_free rfl rfl rfl (fun K hK => ?_); go_step; refine hK _ _ ?_; clear hK K) | (refine wpX_load rfl rfl rfl (by simp [Stay, OneD, NoD, *]) hs0 (by simp [*]) (fun K hK => ?_); go_step; refine hK _ _ ?_; clear hK K))
        (refine wpX_nil ?_; go_step)
        go_wp2_with fail
        go_roundw
        case rel => exact ⟨j + 1, by go_num, by omega, H.less (by repeat (first | exact .slnil | refine .cons_cons _ ?_ | refine .cons _ ?_))⟩
        case measure => simp [intOf]; omega
      · have K5 := Lib.hid (fun w (sa : Option Addr) (c : Nat) hl => by have := rvalid_any P L (sa := sa) c (xs := xs) (by omega) w hl; rw [HG.out.valid] at this; exact this : ∀ w (sa : Option Addr) (c : Nat), Lies w w.heap.size sa 3 xs.length (fun j => gC xs[j]!) → Calls Try.prog 44 #[vG P L (.slice sa xs.length c)] w (Gives (.bool true) w))
        have hol : (overI L xs).length ≤ 5 := Nat.le_trans (overI_len _ _) hxl
        skip
        go_wp2_with fail
        refine wp_region_xH (by kernel_rfl) (by kernel_rfl) (by kernel_rfl) (by kernel_rfl) (fun _ => False) (H) ?_
        clear H; intro w13 H hz0 hs0
        try clear C
        try simp only [World.size_alloc, List.nil_append, List.cons_append, List.append_assoc] at H hz0
        clear hz0
        try clear wr
        have C := H.cells
        try simp only [cellsOf, apartOf, and_true] at C
        have Z := H.zs
        try simp only [ltsOf, and_true] at Z
        have hz0 := Nat.le_refl w13.heap.size
        repeat (first | (refine wpX_skip rfl ?_; go_simp) | (refine wpX_free rfl rfl rfl (fun K hK => ?_); go_step; refine hK _ _ ?_; clear hK K) | (refine wpX_load rfl rfl rfl (by simp [Stay, OneD, NoD, *]) hs0 (by simp [*]) (fun K hK => ?_); go_step; refine hK _ _ ?_; clear hK K))
        refine wpX_eff rfl rfl (fun _ _ => ?_)
        go_step
        refine (over_I P L _ (by omega) _ (H.rowLies 1 gC_len rfl rfl)).mono ?_
        rintro _ w14 ⟨s3, c3, rfl, hr, hb⟩
        replace hs0 := hs0.belowS hz0 hb
        replace hz0 := Nat.le_trans hz0 hb.size
        replace H := H.getsRow hb hr
        clear hb hr
        try simp only [List.nil_append, List.cons_append, List.append_assoc] at H
        try clear C
        have C := H.cells
        try simp only [cellsOf, apartOf, and_true] at C
        try clear w13
        dsimp only
        go_step
        refine ⟨hs0, ?_⟩
        repeat (first | (refine wpX_skip rfl ?_; go_simp) | (refine wpX_free rfl rfl rfl (fun K hK => ?_); go_step; refine hK _ _ ?_; clear hK K) | (refine wpX_load rfl rfl rfl (by simp [Stay, OneD, NoD, *]) hs0 (by simp [*]) (fun K hK => ?_); go_step; refine hK _ _ ?_; clear hK K))
        refine wpX_eff rfl rfl (fun _ _ => ?_)
        go_step
        refine (rover_I P L _ (by omega) _ (H.rowLies 1 gC_len rfl rfl)).mono ?_
        rintro _ w15 ⟨s4, c4, rfl, hr, hb⟩
        replace hs0 := hs0.belowS hz0 hb
        replace hz0 := Nat.le_trans hz0 hb.size
        replace H := H.getsRow hb hr
        clear hb hr
        try simp only [List.nil_append, List.cons_append, List.append_assoc] at H
        try clear C
        have C := H.cells
        try simp only [cellsOf, apartOf, and_true] at C
        try clear w14
        dsimp only
        go_step
        refine ⟨hs0, ?_⟩
        repeat (first | (refine wpX_skip rfl ?_; go_simp) | (refine wpX_free rfl rfl rfl (fun K hK => ?_); go_step; refine hK _ _ ?_; clear hK K) | (refine wpX_load rfl rfl rfl (by simp [Stay, OneD, NoD, *]) hs0 (by simp [*]) (fun K hK => ?_); go_step; refine hK _ _ ?_; clear hK K))
        refine wpX_eff rfl rfl (fun _ _ => ?_)
        go_step
        refine (ints26 _ _ (by omega) _ (H.rowLies 4 iC_len rfl rfl) (H.rowLies 5 iC_len rfl rfl)).mono ?_
        rintro _ w16 ⟨rfl, hb⟩
        replace hs0 := hs0.belowS hz0 hb
        replace hz0 := Nat.le_trans hz0 hb.size
        replace H := H.below hb
        clear hb
        try clear C
        have C := H.cells
        try simp only [cellsOf, apartOf, and_true] at C
        try clear w15
        dsimp only
        go_step
        refine ⟨hs0, ?_⟩
        repeat (first | (refine wpX_skip rfl ?_; go_simp) | (refine wpX_free rfl rfl rfl (fun K hK => ?_); go_step; refine hK _ _ ?_; clear hK K) | (refine wpX_load rfl rfl rfl (by simp [Stay, OneD, NoD, *]) hs0 (by simp [*]) (fun K hK => ?_); go_step; refine hK _ _ ?_; clear hK K))
        refine wpX_eff rfl rfl (fun _ _ => ?_)
        go_step
        refine (K5.out _ _ _ (H.rowLies 1 gC_len rfl rfl)).mono ?_
        rintro _ w17 ⟨rfl, hb⟩
        replace hs0 := hs0.belowS hz0 hb
        replace hz0 := Nat.le_trans hz0 hb.size
        replace H := H.below hb
        clear hb
        try clear C
        have C := H.cells
        try simp only [cellsOf, apartOf, and_true] at C
        try clear w16
        dsimp only
        go_step
        refine ⟨hs0, ?_⟩
        repeat (first | (refine wpX_skip rfl ?_; go_simp) | (refine wpX_free rfl rfl rfl (fun K hK => ?_); go_step; refine hK _ _ ?_; clear hK K) | (refine wpX_load rfl rfl rfl (by simp [Stay, OneD, NoD, *]) hs0 (by simp [*]) (fun K hK => ?_); go_step; refine hK _ _ ?_; clear hK K))
        refine wpX_eff rfl rfl (fun _ _ => ?_)
        go_step
        refine (awake26 _).mono ?_
        rintro _ w18 ⟨rfl, hb⟩
        replace hs0 := hs0.belowS hz0 hb
        replace hz0 := Nat.le_trans hz0 hb.size
        replace H := H.below hb
        clear hb
        try clear C
        have C := H.cells
        try simp only [cellsOf, apartOf, and_true] at C
        try clear w17
        dsimp only
        go_step
        refine ⟨hs0, ?_⟩
        repeat (first | (refine wpX_skip rfl ?_; go_simp) | (refine wpX_free rfl rfl rfl (fun K hK => ?_); go_step; refine hK _ _ ?_; clear hK K) | (refine wpX_load rfl rfl rfl (by simp [Stay, OneD, NoD, *]) hs0 (by simp [*]) (fun K hK => ?_); go_step; refine hK _ _ ?_; clear hK K))
        (refine wpX_nil ?_; go_step)
        go_wp2_with fail
        go_ret
        exact ⟨rfl, H.done⟩
  · rw [decide_eq_false h400] at hli
    have HLI := Lib.hid hli
    clear hli
    go_enter Try.func9, Try.ntmps9
    have H := HS.start NoD w
    go_wp2_with fail
    refine (gives_of (HLI.out _)).mono ?_
    rintro _ w1 ⟨rfl, hb⟩
    replace H := H.below hb
    clear hb
    try clear C
    try simp only [World.size_alloc, List.nil_append, List.cons_append, List.append_assoc] at H
    have C := H.cells
    try simp only [cellsOf, apartOf, and_true] at C
    dsimp only
    go_wp2_with fail
    refine (awake26 _).mono ?_
    rintro _ w2 ⟨rfl, hb⟩
    replace H := H.below hb
    clear hb
    try clear C
    try simp only [World.size_alloc, List.nil_append, List.cons_append, List.append_assoc] at H
    try clear w1
    have C := H.cells
    try simp only [cellsOf, apartOf, and_true] at C
    dsimp only
    go_wp2_with fail
    go_ret
    exact ⟨rfl, H.done⟩
end Go.Proofs.Ytcacgmfihhpliaa
