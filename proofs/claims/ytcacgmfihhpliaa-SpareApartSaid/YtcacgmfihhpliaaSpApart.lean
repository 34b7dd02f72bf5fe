/- The statement SpareApart: its walk. -/
import Derived.Test.YtcacgmfihhpliaaApartM
import Derived.Test.YtcacgmfihhpliaaNone
namespace Go.Proofs.Ytcacgmfihhpliaa
set_option linter.unusedSimpArgs false
set_option linter.unusedVariables false
open Go.RowKit
set_option maxRecDepth 100000
attribute [local go_sem] lt_more ne_more ne_more'
attribute [local irreducible] wpX wpF Calls

set_option maxHeartbeats 8000000 in
theorem spApart_walk (sa : Option Addr) (len cap : Nat) (hl : len ≤ maxLen) (w : World) (hI : Ints w sa len) :
    Calls Try.prog 6 #[.slice sa len cap] w (Gives (.bool true) w) := by
  have HI := Lib.hid hI
  clear hI
  have hli := light_any sa len cap hl
  clear hl
  have HAW := Lib.hid awake36
  by_cases h400 : len ≤ 400
  · rw [decide_eq_true h400] at hli
    have HLI := Lib.hid hli
    clear hli
    go_enter Try.func6, Try.ntmps6
    have H := HS.start NoD w
    go_wp2_with fail
    refine (gives_of (HLI.out _)).mono ?_
    rintro _ w1 ⟨rfl, hb⟩
    replace H := H.below hb
    clear hb
    try clear C
    try simp only [World.size_alloc, List.nil_append, List.cons_append, List.append_assoc] at H
    have C := H.cells
    try simp only [cellsOf, apartOf, and_true] at C
    dsimp only
    go_wp2_with fail
    refine (roll_at w.heap.size _ _ _ h400 _ H.size (H.ints HI.out)).mono ?_
    rintro _ w2 ⟨bd, rfl, hd, hb, hbb⟩
    replace H := H.getsDice hb hd hbb (Nat.le_refl _)
    clear hb hd hbb
    try clear C
    try simp only [World.size_alloc, List.nil_append, List.cons_append, List.append_assoc] at H
    try clear w1
    have C := H.cells
    try simp only [cellsOf, apartOf, and_true] at C
    dsimp only
    go_wp2_with fail
    refine (mspares_any w.heap.size bd _ (H.at 0 rfl) H.size).mono ?_
    rintro _ wg ⟨s0, s1, s2, s4, n, sx, c, xs, rfl, hr, hms, hv, h7, h0, hd, hg⟩
    replace H := H.diceRow 0 rfl hg hd hr
    clear hr hd hg
    try simp only [List.nil_append, List.cons_append, List.append_assoc] at H
    skip
    try clear C
    try simp only [World.size_alloc, List.nil_append, List.cons_append, List.append_assoc] at H
    have C := H.cells
    try simp only [cellsOf, apartOf, and_true] at C
    have sv := hv.sv
    have hz := rwz_in sv
    go_wp2_with fail
    refine (place_any sv w.heap.size bd _ (H.alloc.at 0 rfl)).mono ?_
    rintro _ w3 ⟨p0, p1, p2, p3, p4, p5, rfl, hpv, hd, hg⟩
    replace H := (H.alloc).diceAt 0 rfl hg hd
    clear hg hd
    try clear C
    try simp only [World.size_alloc, List.nil_append, List.cons_append, List.append_assoc] at H
    generalize wg.heap.size = bX at H ⊢
    try clear wg
    have C := H.cells
    try simp only [cellsOf, apartOf, and_true] at C
    dsimp only
    rcases swap_two hv hpv h0 with ⟨er, her, hsw⟩ | ⟨f0, fs, hnr, hht, hfr, h16, hsw⟩
    · have HSW := Lib.hid hsw
      have heb : (er == 0) = false := beq_eq_false_iff_ne.2 her
      clear hsw
      skip
      go_wp2_with fail
      refine (HSW.out _ (H.alloc.rowLies 1 sC_len rfl rfl)).mono ?_
      rintro _ w4 ⟨rfl, hb⟩
      replace H := H.alloc.below hb
      clear hb
      try clear C
      try simp only [World.size_alloc, List.nil_append, List.cons_append, List.append_assoc] at H
      generalize w3.heap.size = bP at H ⊢
      try clear w3
      have C := H.cells
      try simp only [cellsOf, apartOf, and_true] at C
      dsimp only
      go_wp2_with fail
      refine (HAW.out _).mono ?_
      rintro _ w5 ⟨rfl, hb⟩
      replace H := H.alloc.below hb
      clear hb
      try clear C
      try simp only [World.size_alloc, List.nil_append, List.cons_append, List.append_assoc] at H
      generalize w4.heap.size = bY at H ⊢
      try clear w4
      have C := H.cells
      try simp only [cellsOf, apartOf, and_true] at C
      dsimp only
      go_wp2_with fail
      go_ret
      exact ⟨rfl, H.done⟩
    · have HSW := Lib.hid hsw
      clear hsw
      have hv2 : ∀ c', xs.length + 1 ≤ c' → SpV s0 s1 s2 1 s4 2 n (xs ++ [⟨p0, p1, p2, p3, 0, 0, p4, f0⟩]) c' := fun c' hc' => hv.more hpv hnr hht hfr h16 hc'
      obtain ⟨ys, hys⟩ : ∃ ys : List S8, ys = xs ++ [⟨p0, p1, p2, p3, 0, 0, p4, f0⟩] := ⟨_, rfl⟩
      rw [← hys] at HSW hv2
      have hyl : ys.length = xs.length + 1 := by rw [hys, List.length_append]; rfl
      have hy16 : ys.length ≤ 16 := by omega
      have hy0 : 0 < ys.length := by omega
      have HYL := Lib.hid hyl
      clear hyl
      have HV2 := Lib.hid hv2
      have HYS := Lib.hid hys
      have HFR := Lib.hid hfr
      clear hv2 hys hfr hnr hht
      skip
      go_wp2_with fail
      refine (HSW.out _ (H.alloc.rowLies 1 sC_len rfl rfl)).mono ?_
      rintro _ w6 ⟨sy, dy, rfl, hr, hb⟩
      replace H := (H.alloc).getsRow hb hr
      clear hb hr
      try clear C
      try simp only [World.size_alloc, List.nil_append, List.cons_append, List.append_assoc] at H
      generalize w3.heap.size = bP at H ⊢
      try clear w3
      have C := H.cells
      try simp only [cellsOf, apartOf, and_true] at C
      dsimp only
      obtain ⟨-, -, -, hdy⟩ := ownsRow_ptr (H.at 4 rfl) hy0
      have hvy := HV2.out dy (by rw [← HYL.out]; exact hdy)
      go_upto_region 9 with fail
      generalize hwb : w6.alloc _ = w7
      replace H := HS.eqW hwb H.alloc
      try simp only [World.size_alloc, List.nil_append, List.cons_append, List.append_assoc] at H
      clear hwb
      generalize w6.heap.size = bY at H ⊢
      try clear C
      try clear w6
      have C := H.cells
      try simp only [cellsOf, apartOf, and_true] at C
      go_upto_region 10 with fail
      generalize hwb : World.setCell (World.setCell w7 _ _) _ _ = wq
      replace H := HS.eqW hwb ((H.setTo (o := 4) (v := .int .i64 0) 3 rfl rfl).setTo (o := 5) (v := .int .i64 0) 3 rfl rfl)
      clear hwb C
      replace H : HS NoD w [.dice w.heap.size bd, .row (.slice sx xs.length c) 38 8 xs.length (xs.flatMap sC), .blk bX #[.int .i64 s0, .int .i64 s1, .int .i64 s2, .int .i64 1, .int .i64 s4, .int .i64 2, .int .i64 n, .slice sx xs.length c] 26, .blk bP #[.int .i64 p0, .int .i64 p1, .int .i64 p2, .int .i64 p3, .int .i64 0, .int .i64 0] 28, .row (.slice sy ys.length dy) 38 8 ys.length (ys.flatMap sC), .blk bY #[.int .i64 s0, .int .i64 s1, .int .i64 s2, .int .i64 1, .int .i64 s4, .int .i64 2, .int .i64 n, .slice sy ys.length dy] 26] wq := H
      skip
      try clear C
      try simp only [World.size_alloc, List.nil_append, List.cons_append, List.append_assoc] at H
      have C := H.cells
      try simp only [cellsOf, apartOf, and_true] at C
      have hNN := pw_12 (a := s0 + s1 + s2 + 1 + s4 + 2) sv.sum
      have hN1 := pw_pos (s0 + s1 + s2 + 1 + s4 + 2)
      have hsz : ∀ w, Calls Try.prog 30 #[v6 s0 s1 s2 1 s4 2] w (Gives (.int .i64 (2 ^ (s0 + s1 + s2 + 1 + s4 + 2).toNat)) w) := fun w => rsize_yes sv w
      obtain ⟨N, hN⟩ : ∃ N : Int, N = 2 ^ (s0 + s1 + s2 + 1 + s4 + 2).toNat := ⟨_, rfl⟩
      rw [← hN] at hsz hNN hN1
      have HN := Lib.hid hN
      have HSZ := Lib.hid hsz
      clear hN hsz hdy
      go_wp2_with fail
      refine (HSZ.out _).mono ?_
      rintro _ w8 ⟨rfl, hb⟩
      replace H := H.below hb
      clear hb
      try clear C
      try simp only [World.size_alloc, List.nil_append, List.cons_append, List.append_assoc] at H
      try clear wq
      have C := H.cells
      try simp only [cellsOf, apartOf, and_true] at C
      dsimp only
      go_wp2_with fail
      go_loopw [42] (fun cc wr => ∃ i : Int, 0 ≤ i ∧ i ≤ N ∧ cc = .int .i64 i ∧ HS NoD w [.dice w.heap.size bd, .row (.slice sx xs.length c) 38 8 xs.length (xs.flatMap sC), .blk bX #[.int .i64 s0, .int .i64 s1, .int .i64 s2, .int .i64 1, .int .i64 s4, .int .i64 2, .int .i64 n, .slice sx xs.length c] 26, .blk bP #[.int .i64 p0, .int .i64 p1, .int .i64 p2, .int .i64 p3, .int .i64 0, .int .i64 0] 28, .row (.slice sy ys.length dy) 38 8 ys.length (ys.flatMap sC), .blk bY #[.int .i64 s0, .int .i64 s1, .int .i64 s2, .int .i64 1, .int .i64 s4, .int .i64 2, .int .i64 n, .slice sy ys.length dy] 26] wr) (fun cc _ => (N - intOf cc).toNat)
      case atStart => exact ⟨0, Int.le_refl _, by omega, rfl, H⟩
      case round =>
        clear H C w8
        obtain ⟨i, hi0, hiN, rfl, H⟩ := hrel
        skip
        try clear C
        try simp only [World.size_alloc, List.nil_append, List.cons_append, List.append_assoc] at H
        have C := H.cells
        try simp only [cellsOf, apartOf, and_true] at C
        by_cases hi : i < N
        · have hiS : i < 2 ^ (s0 + s1 + s2 + 1 + s4 + 2).toNat := by rw [← HN.out]; exact hi
          have HAT := Lib.hid (fun w => rat_is sv hi0 hiS w)
          obtain ⟨hpq, -⟩ := at_pv sv hi0 hiS
          have HTX := Lib.hid (fun w hl => turn_of hv hi0 hiS rfl hpq (sa := sx) w hl)
          have HTY := Lib.hid (fun w hl => turn_of hvy hi0 hiS rfl hpq (sa := sy) w hl)
          have HLX := Lib.hid (fun w hl => sleft_of sv hv.n0 hpq (sa := sx) c hv.len hv.cap hv.all w hl)
          have HLY := Lib.hid (fun w hl => sleft_of sv hvy.n0 hpq (sa := sy) dy hvy.len hvy.cap hvy.all w hl)
          obtain ⟨q, hq⟩ : ∃ q, q = atF s0 s1 s2 1 s4 2 i := ⟨_, rfl⟩
          rw [← hq] at HAT HTX HTY HLX HLY
          clear hpq hq hiS
          obtain ⟨q0, q1, q2, q3, q4, q5⟩ := q
          dsimp only at HAT HTX HTY HLX HLY
          by_cases hbk : q0 = p0 ∧ q1 = p1 ∧ q2 = p2 ∧ q3 = p3
          · have hne : ∀ w, (binOp .neq 28 (v6 q0 q1 q2 q3 0 0) (v6 p0 p1 p2 p3 0 0)).run Try.prog w = .ok (.bool false) w := fun w => by rw [neq6, decide_eq_true ⟨hbk.1, hbk.2.1, hbk.2.2.1, hbk.2.2.2, rfl, rfl⟩]; rfl
            have heq : ∀ w, (binOp .eql 28 (v6 q0 q1 q2 q3 0 0) (v6 p0 p1 p2 p3 0 0)).run Try.prog w = .ok (.bool true) w := fun w => by rw [eql6, decide_eq_true ⟨hbk.1, hbk.2.1, hbk.2.2.1, hbk.2.2.2, rfl, rfl⟩]
            have hl1 : freeK (rwz s4 - n) q0 q1 q2 q3 ys n.toNat = fs := by rw [hbk.1, hbk.2.1, hbk.2.2.1, hbk.2.2.2, HYS.out]; exact free_more HFR.out
            have hl2 : freeK (rwz s4 - n) q0 q1 q2 q3 xs n.toNat = f0 :: fs := by rw [hbk.1, hbk.2.1, hbk.2.2.1, hbk.2.2.2]; exact HFR.out
            rw [hl1] at HLY
            rw [hl2] at HLX
            have hfl : fs.length ≤ 4096 := by
              have := freeK_len (rwz s4 - n) q0 q1 q2 q3 ys n.toNat
              rw [hl1] at this
              have := hv.n0
              omega
            have hcons : ((f0 :: fs).length : Int) = (fs.length : Int) + 1 := by simp
            rw [hcons] at HLX
            clear hl1 hl2 hcons hbk
            skip
            go_wp2_with fail
            refine (HAT.out _).mono ?_
            rintro _ w9 ⟨rfl, hb⟩
            replace H := H.below hb
            clear hb
            try clear C
            try simp only [World.size_alloc, List.nil_append, List.cons_append, List.append_assoc] at H
            try clear wr
            have C := H.cells
            try simp only [cellsOf, apartOf, and_true] at C
            dsimp only
            go_upto_region 15 with fail
            generalize hwb : (w9.alloc _).alloc _ = w10
            replace H := HS.eqW hwb H.alloc.alloc
            try simp only [World.size_alloc, List.nil_append, List.cons_append, List.append_assoc] at H
            clear hwb
            generalize w9.heap.size + 1 = bB at H ⊢
            generalize w9.heap.size = bQ at H ⊢
            try clear C
            try clear w9
            have C := H.cells
            try simp only [cellsOf, apartOf, and_true] at C
            go_upto_region 16 with fail
            generalize hwb : World.setCell (World.setCell w10 _ _) _ _ = wq
            replace H := HS.eqW hwb ((H.setTo (o := 4) (v := .int .i64 0) 7 rfl rfl).setTo (o := 5) (v := .int .i64 0) 7 rfl rfl)
            clear hwb C
            replace H : HS NoD w [.dice w.heap.size bd, .row (.slice sx xs.length c) 38 8 xs.length (xs.flatMap sC), .blk bX #[.int .i64 s0, .int .i64 s1, .int .i64 s2, .int .i64 1, .int .i64 s4, .int .i64 2, .int .i64 n, .slice sx xs.length c] 26, .blk bP #[.int .i64 p0, .int .i64 p1, .int .i64 p2, .int .i64 p3, .int .i64 0, .int .i64 0] 28, .row (.slice sy ys.length dy) 38 8 ys.length (ys.flatMap sC), .blk bY #[.int .i64 s0, .int .i64 s1, .int .i64 s2, .int .i64 1, .int .i64 s4, .int .i64 2, .int .i64 n, .slice sy ys.length dy] 26, .blk bQ #[.int .i64 q0, .int .i64 q1, .int .i64 q2, .int .i64 q3, .int .i64 q4, .int .i64 q5] 28, .blk bB #[.int .i64 q0, .int .i64 q1, .int .i64 q2, .int .i64 q3, .int .i64 0, .int .i64 0] 28] wq := H
            skip
            try clear C
            try simp only [World.size_alloc, List.nil_append, List.cons_append, List.append_assoc] at H
            have C := H.cells
            try simp only [cellsOf, apartOf, and_true] at C
            go_wp2_with fail
            refine (HTX.out _ (H.rowLies 1 sC_len rfl rfl)).mono ?_
            rintro _ w11 ⟨rfl, hb⟩
            replace H := H.below hb
            clear hb
            try clear C
            try simp only [World.size_alloc, List.nil_append, List.cons_append, List.append_assoc] at H
            try clear wq
            have C := H.cells
            try simp only [cellsOf, apartOf, and_true] at C
            dsimp only
            go_wp2_with fail
            refine (HTY.out _ (H.rowLies 4 sC_len rfl rfl)).mono ?_
            rintro _ w12 ⟨rfl, hb⟩
            replace H := H.below hb
            clear hb
            try clear C
            try simp only [World.size_alloc, List.nil_append, List.cons_append, List.append_assoc] at H
            try clear w11
            have C := H.cells
            try simp only [cellsOf, apartOf, and_true] at C
            dsimp only
            go_upto_region 18 with fail
            refine wp_region_xH (by kernel_rfl) (by kernel_rfl) (by kernel_rfl) (by kernel_rfl) (fun _ => False) (H) ?_
            clear H; intro w13 H hz0 hs0
            try clear C
            try simp only [World.size_alloc, List.nil_append, List.cons_append, List.append_assoc] at H hz0
            clear hz0
            try clear w12
            have C := H.cells
            try simp only [cellsOf, apartOf, and_true] at C
            have Z := H.zs
            try simp only [ltsOf, and_true] at Z
            have hz0 := Nat.le_refl w13.heap.size
            repeat (first | (refine wpX_skip rfl ?_; go_simp) | (refine wpX_free rfl rfl rfl (fun K hK => ?_); go_step; refine hK _ _ ?_; clear hK K) | (refine wpX_load rfl rfl rfl (by simp [Stay, OneD, NoD, *]) hs0 (by simp [*]) (fun K hK => ?_); go_step; refine hK _ _ ?_; clear hK K))
            (refine wpX_yield rfl rfl ((.bool false)) (fun w hw => by go_simp) ?_; go_simp)
            repeat (first | (refine wpX_skip rfl ?_; go_simp) | (refine wpX_free rfl rfl rfl (fun K hK => ?_); go_step; refine hK _ _ ?_; clear hK K) | (refine wpX_load rfl rfl rfl (by simp [Stay, OneD, NoD, *]) hs0 (by simp [*]) (fun K hK => ?_); go_step; refine hK _ _ ?_; clear hK K))
            (refine wpX_yield rfl rfl ((.bool true)) (fun w hw => by go_simp) ?_; go_simp)
            repeat (first | (refine wpX_skip rfl ?_; go_simp) | (refine wpX_free rfl rfl rfl (fun K hK => ?_); go_step; refine hK _ _ ?_; clear hK K) | (refine wpX_load rfl rfl rfl (by simp [Stay, OneD, NoD, *]) hs0 (by simp [*]) (fun K hK => ?_); go_step; refine hK _ _ ?_; clear hK K))
            refine wpX_eff rfl rfl (fun _ _ => ?_)
            go_step
            refine (HLX.out _ (H.rowLies 1 sC_len rfl rfl)).mono ?_
            rintro _ w14 ⟨rfl, hb⟩
            replace hs0 := hs0.belowS hz0 hb
            replace hz0 := Nat.le_trans hz0 hb.size
            replace H := H.below hb
            clear hb
            try clear C
            have C := H.cells
            try simp only [cellsOf, apartOf, and_true] at C
            try clear w13
            dsimp only
            go_step
            refine ⟨hs0, ?_⟩
            repeat (first | (refine wpX_skip rfl ?_; go_simp) | (refine wpX_free rfl rfl rfl (fun K hK => ?_); go_step; refine hK _ _ ?_; clear hK K) | (refine wpX_load rfl rfl rfl (by simp [Stay, OneD, NoD, *]) hs0 (by simp [*]) (fun K hK => ?_); go_step; refine hK _ _ ?_; clear hK K))
            refine wpX_eff rfl rfl (fun _ _ => ?_)
            go_step
            refine (HLY.out _ (H.rowLies 4 sC_len rfl rfl)).mono ?_
            rintro _ w15 ⟨rfl, hb⟩
            replace hs0 := hs0.belowS hz0 hb
            replace hz0 := Nat.le_trans hz0 hb.size
            replace H := H.below hb
            clear hb
            try clear C
            have C := H.cells
            try simp only [cellsOf, apartOf, and_true] at C
            try clear w14
            dsimp only
            go_step
            refine ⟨hs0, ?_⟩
            repeat (first | (refine wpX_skip rfl ?_; go_simp) | (refine wpX_free rfl rfl rfl (fun K hK => ?_); go_step; refine hK _ _ ?_; clear hK K) | (refine wpX_load rfl rfl rfl (by simp [Stay, OneD, NoD, *]) hs0 (by simp [*]) (fun K hK => ?_); go_step; refine hK _ _ ?_; clear hK K))
            (refine wpX_nil ?_; go_step)
            go_wp2_with fail
            clear hne heq
            try clear hs0
            try clear hz0
            try clear Z
            go_roundw
            case rel => exact ⟨i + 1, by omega, by omega, by go_num, H.less (by repeat (first | exact .slnil | refine .cons_cons _ ?_ | refine .cons _ ?_))⟩
            case measure => simp [intOf]; omega
          · have hne : ∀ w, (binOp .neq 28 (v6 q0 q1 q2 q3 0 0) (v6 p0 p1 p2 p3 0 0)).run Try.prog w = .ok (.bool true) w := fun w => by rw [neq6, decide_eq_false (fun e => hbk ⟨e.1, e.2.1, e.2.2.1, e.2.2.2.1⟩)]; rfl
            have heq : ∀ w, (binOp .eql 28 (v6 q0 q1 q2 q3 0 0) (v6 p0 p1 p2 p3 0 0)).run Try.prog w = .ok (.bool false) w := fun w => by rw [eql6, decide_eq_false (fun e => hbk ⟨e.1, e.2.1, e.2.2.1, e.2.2.2.1⟩)]
            have hnb : ¬ (p0 = q0 ∧ p1 = q1 ∧ p2 = q2 ∧ p3 = q3) := fun e => hbk ⟨e.1.symm, e.2.1.symm, e.2.2.1.symm, e.2.2.2.symm⟩
            have hl1 : freeK (rwz s4 - n) q0 q1 q2 q3 ys n.toNat = freeK (rwz s4 - n) q0 q1 q2 q3 xs n.toNat := by rw [HYS.out]; exact free_apart _ hnb
            have ht1 : turnR ys ⟨q0, q1, q2, q3, q4, q5⟩ = turnR xs ⟨q0, q1, q2, q3, q4, q5⟩ := by rw [HYS.out]; exact turn_apart hnb
            rw [hl1] at HLY
            rw [ht1] at HTY
            generalize (freeK (rwz s4 - n) q0 q1 q2 q3 xs n.toNat).length = lf at *
            generalize idx s1 s2 1 s4 2 q0 q1 q2 q3 (turnR xs ⟨q0, q1, q2, q3, q4, q5⟩) q5 = tk at *
            clear hl1 ht1 hnb hbk
            skip
            go_wp2_with fail
            refine (HAT.out _).mono ?_
            rintro _ w16 ⟨rfl, hb⟩
            replace H := H.below hb
            clear hb
            try clear C
            try simp only [World.size_alloc, List.nil_append, List.cons_append, List.append_assoc] at H
            try clear wr
            have C := H.cells
            try simp only [cellsOf, apartOf, and_true] at C
            dsimp only
            go_upto_region 15 with fail
            generalize hwb : (w16.alloc _).alloc _ = w17
            replace H := HS.eqW hwb H.alloc.alloc
            try simp only [World.size_alloc, List.nil_append, List.cons_append, List.append_assoc] at H
            clear hwb
            generalize w16.heap.size + 1 = bB at H ⊢
            generalize w16.heap.size = bQ at H ⊢
            try clear C
            try clear w16
            have C := H.cells
            try simp only [cellsOf, apartOf, and_true] at C
            go_upto_region 16 with fail
            generalize hwb : World.setCell (World.setCell w17 _ _) _ _ = wq
            replace H := HS.eqW hwb ((H.setTo (o := 4) (v := .int .i64 0) 7 rfl rfl).setTo (o := 5) (v := .int .i64 0) 7 rfl rfl)
            clear hwb C
            replace H : HS NoD w [.dice w.heap.size bd, .row (.slice sx xs.length c) 38 8 xs.length (xs.flatMap sC), .blk bX #[.int .i64 s0, .int .i64 s1, .int .i64 s2, .int .i64 1, .int .i64 s4, .int .i64 2, .int .i64 n, .slice sx xs.length c] 26, .blk bP #[.int .i64 p0, .int .i64 p1, .int .i64 p2, .int .i64 p3, .int .i64 0, .int .i64 0] 28, .row (.slice sy ys.length dy) 38 8 ys.length (ys.flatMap sC), .blk bY #[.int .i64 s0, .int .i64 s1, .int .i64 s2, .int .i64 1, .int .i64 s4, .int .i64 2, .int .i64 n, .slice sy ys.length dy] 26, .blk bQ #[.int .i64 q0, .int .i64 q1, .int .i64 q2, .int .i64 q3, .int .i64 q4, .int .i64 q5] 28, .blk bB #[.int .i64 q0, .int .i64 q1, .int .i64 q2, .int .i64 q3, .int .i64 0, .int .i64 0] 28] wq := H
            skip
            try clear C
            try simp only [World.size_alloc, List.nil_append, List.cons_append, List.append_assoc] at H
            have C := H.cells
            try simp only [cellsOf, apartOf, and_true] at C
            go_wp2_with fail
            refine (HTX.out _ (H.rowLies 1 sC_len rfl rfl)).mono ?_
            rintro _ w18 ⟨rfl, hb⟩
            replace H := H.below hb
            clear hb
            try clear C
            try simp only [World.size_alloc, List.nil_append, List.cons_append, List.append_assoc] at H
            try clear wq
            have C := H.cells
            try simp only [cellsOf, apartOf, and_true] at C
            dsimp only
            go_wp2_with fail
            refine (HTY.out _ (H.rowLies 4 sC_len rfl rfl)).mono ?_
            rintro _ w19 ⟨rfl, hb⟩
            replace H := H.below hb
            clear hb
            try clear C
            try simp only [World.size_alloc, List.nil_append, List.cons_append, List.append_assoc] at H
            try clear w18
            have C := H.cells
            try simp only [cellsOf, apartOf, and_true] at C
            dsimp only
            go_upto_region 18 with fail
            refine wp_region_xH (by kernel_rfl) (by kernel_rfl) (by kernel_rfl) (by kernel_rfl) (fun _ => False) (H) ?_
            clear H; intro w20 H hz0 hs0
            try clear C
            try simp only [World.size_alloc, List.nil_append, List.cons_append, List.append_assoc] at H hz0
            clear hz0
            try clear w19
            have C := H.cells
            try simp only [cellsOf, apartOf, and_true] at C
            have Z := H.zs
            try simp only [ltsOf, and_true] at Z
            have hz0 := Nat.le_refl w20.heap.size
            repeat (first | (refine wpX_skip rfl ?_; go_simp) | (refine wpX_free rfl rfl rfl (fun K hK => ?_); go_step; refine hK _ _ ?_; clear hK K) | (refine wpX_load rfl rfl rfl (by simp [Stay, OneD, NoD, *]) hs0 (by simp [*]) (fun K hK => ?_); go_step; refine hK _ _ ?_; clear hK K))
            (refine wpX_yield rfl rfl ((.bool true)) (fun w hw => by go_simp) ?_; go_simp)
            repeat (first | (refine wpX_skip rfl ?_; go_simp) | (refine wpX_free rfl rfl rfl (fun K hK => ?_); go_step; refine hK _ _ ?_; clear hK K) | (refine wpX_load rfl rfl rfl (by simp [Stay, OneD, NoD, *]) hs0 (by simp [*]) (fun K hK => ?_); go_step; refine hK _ _ ?_; clear hK K))
            refine wpX_eff rfl rfl (fun _ _ => ?_)
            go_step
            refine (HLX.out _ (H.rowLies 1 sC_len rfl rfl)).mono ?_
            rintro _ w21 ⟨rfl, hb⟩
            replace hs0 := hs0.belowS hz0 hb
            replace hz0 := Nat.le_trans hz0 hb.size
            replace H := H.below hb
            clear hb
            try clear C
            have C := H.cells
            try simp only [cellsOf, apartOf, and_true] at C
            try clear w20
            dsimp only
            go_step
            refine ⟨hs0, ?_⟩
            repeat (first | (refine wpX_skip rfl ?_; go_simp) | (refine wpX_free rfl rfl rfl (fun K hK => ?_); go_step; refine hK _ _ ?_; clear hK K) | (refine wpX_load rfl rfl rfl (by simp [Stay, OneD, NoD, *]) hs0 (by simp [*]) (fun K hK => ?_); go_step; refine hK _ _ ?_; clear hK K))
            refine wpX_eff rfl rfl (fun _ _ => ?_)
            go_step
            refine (HLY.out _ (H.rowLies 4 sC_len rfl rfl)).mono ?_
            rintro _ w22 ⟨rfl, hb⟩
            replace hs0 := hs0.belowS hz0 hb
            replace hz0 := Nat.le_trans hz0 hb.size
            replace H := H.below hb
            clear hb
            try clear C
            have C := H.cells
            try simp only [cellsOf, apartOf, and_true] at C
            try clear w21
            dsimp only
            go_step
            refine ⟨hs0, ?_⟩
            repeat (first | (refine wpX_skip rfl ?_; go_simp) | (refine wpX_free rfl rfl rfl (fun K hK => ?_); go_step; refine hK _ _ ?_; clear hK K) | (refine wpX_load rfl rfl rfl (by simp [Stay, OneD, NoD, *]) hs0 (by simp [*]) (fun K hK => ?_); go_step; refine hK _ _ ?_; clear hK K))
            (refine wpX_yield rfl rfl ((.bool false)) (fun w hw => by go_simp) ?_; go_simp)
            repeat (first | (refine wpX_skip rfl ?_; go_simp) | (refine wpX_free rfl rfl rfl (fun K hK => ?_); go_step; refine hK _ _ ?_; clear hK K) | (refine wpX_load rfl rfl rfl (by simp [Stay, OneD, NoD, *]) hs0 (by simp [*]) (fun K hK => ?_); go_step; refine hK _ _ ?_; clear hK K))
            (refine wpX_nil ?_; go_step)
            go_wp2_with fail
            clear hne heq
            try clear hs0
            try clear hz0
            try clear Z
            go_roundw
            case rel => exact ⟨i + 1, by omega, by omega, by go_num, H.less (by repeat (first | exact .slnil | refine .cons_cons _ ?_ | refine .cons _ ?_))⟩
            case measure => simp [intOf]; omega
        · have HVY := Lib.hid (fun w hl => hvy.valid (sa := sy) w hl)
          skip
          go_wp2_with fail
          refine (HVY.out _ (H.rowLies 4 sC_len rfl rfl)).mono ?_
          rintro _ w23 ⟨rfl, hb⟩
          replace H := H.below hb
          clear hb
          try clear C
          try simp only [World.size_alloc, List.nil_append, List.cons_append, List.append_assoc] at H
          try clear wr
          have C := H.cells
          try simp only [cellsOf, apartOf, and_true] at C
          dsimp only
          go_wp2_with fail
          refine (HAW.out _).mono ?_
          rintro _ w24 ⟨rfl, hb⟩
          replace H := H.below hb
          clear hb
          try clear C
          try simp only [World.size_alloc, List.nil_append, List.cons_append, List.append_assoc] at H
          try clear w23
          have C := H.cells
          try simp only [cellsOf, apartOf, and_true] at C
          dsimp only
          go_wp2_with fail
          go_ret
          exact ⟨rfl, H.done⟩
  · rw [decide_eq_false h400] at hli
    have HLI := Lib.hid hli
    clear hli
    go_enter Try.func6, Try.ntmps6
    have H := HS.start NoD w
    go_wp2_with fail
    refine (gives_of (HLI.out _)).mono ?_
    rintro _ w1 ⟨rfl, hb⟩
    replace H := H.below hb
    clear hb
    try clear C
    try simp only [World.size_alloc, List.nil_append, List.cons_append, List.append_assoc] at H
    have C := H.cells
    try simp only [cellsOf, apartOf, and_true] at C
    dsimp only
    go_wp2_with fail
    refine (HAW.out _).mono ?_
    rintro _ w2 ⟨rfl, hb⟩
    replace H := H.below hb
    clear hb
    try clear C
    try simp only [World.size_alloc, List.nil_append, List.cons_append, List.append_assoc] at H
    try clear w1
    have C := H.cells
    try simp only [cellsOf, apartOf, and_true] at C
    dsimp only
    go_wp2_with fail
    go_ret
    exact ⟨rfl, H.done⟩
end Go.Proofs.Ytcacgmfihhpliaa
