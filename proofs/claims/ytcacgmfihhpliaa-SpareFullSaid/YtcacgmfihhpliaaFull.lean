/- The statement SpareFull: its walk. -/
import Derived.Test.YtcacgmfihhpliaaFullM
import Derived.Test.YtcacgmfihhpliaaNone
namespace Go.Proofs.Ytcacgmfihhpliaa
set_option linter.unusedSimpArgs false
set_option linter.unusedVariables false
open Go.RowKit
set_option maxRecDepth 100000
attribute [local go_sem] lt_more ne_more ne_more'
attribute [local irreducible] wpX wpF Calls

set_option maxHeartbeats 4000000 in
theorem full_walk (sa : Option Addr) (len cap : Nat) (hl : len ≤ maxLen) (perBank : Int) (w : World) (hI : Ints w sa len) :
    Calls Try.prog 4 #[.slice sa len cap, .int .i64 perBank] w (Gives (.bool true) w) := by
  have HI := Lib.hid hI
  clear hI
  have hli := light_any sa len cap hl
  clear hl
  have HAW := Lib.hid awake36
  by_cases h400 : len ≤ 400
  · rw [decide_eq_true h400] at hli
    have HLI := Lib.hid hli
    clear hli
    go_enter Try.func4, Try.ntmps4
    have H := HS.start NoD w
    go_wp2_with fail
    refine (gives_of (HLI.out _)).mono ?_
    rintro _ w1 ⟨rfl, hb⟩
    replace H := H.below hb
    clear hb
    try clear C
    try simp only [World.size_alloc, List.nil_append, List.cons_append, List.append_assoc] at H
    have C := H.cells
    try simp only [cellsOf, apartOf, and_true] at C
    dsimp only
    go_wp2_with fail
    refine (roll_at w.heap.size _ _ _ h400 _ H.size (H.ints HI.out)).mono ?_
    rintro _ w2 ⟨bd, rfl, hd, hb, hbb⟩
    replace H := H.getsDice hb hd hbb (Nat.le_refl _)
    clear hb hd hbb
    try clear C
    try simp only [World.size_alloc, List.nil_append, List.cons_append, List.append_assoc] at H
    try clear w1
    have C := H.cells
    try simp only [cellsOf, apartOf, and_true] at C
    dsimp only
    go_wp2_with fail
    refine (mshape_any w.heap.size bd _ (H.at 0 rfl) H.size).mono ?_
    rintro _ w3 ⟨s0, s1, s2, s4, rfl, hms, hd, hg⟩
    replace H := (H).diceAt 0 rfl hg hd
    clear hg hd
    try clear C
    try simp only [World.size_alloc, List.nil_append, List.cons_append, List.append_assoc] at H
    try clear w2
    have C := H.cells
    try simp only [cellsOf, apartOf, and_true] at C
    dsimp only
    have sv := hms.sv
    have hz := rwz_in sv
    have hz8 : rwz s4 ≤ 8 := by
      have h4 := hms.h4
      rcases (show s4 = 1 ∨ s4 = 2 ∨ s4 = 3 by omega) with rfl | rfl | rfl <;> decide +kernel
    have hm := modF_in (n := perBank) (m := rwz s4) (by omega) (by omega)
    have M1 := Lib.hid (fun w => gives_of (mod_any perBank (rwz s4) w))
    have h4 := hms.h4
    have q1 := wrap_pw (a := s4) (by omega)
    have q2 : wrap64 (2 ^ s4.toNat) = rwz s4 := q1
    have q4 : (2 : Int) ^ s4.toNat = rwz s4 := rfl
    generalize modF perBank (rwz s4) = n at *
    have HNEW := Lib.hid (fun w => snew_yes (n := n) sv hm w)
    go_wp2_with fail
    try rw [q4]
    refine (M1.out _).mono ?_
    rintro _ w4 ⟨rfl, hb⟩
    replace H := H.alloc.below hb
    clear hb
    try clear C
    try simp only [World.size_alloc, List.nil_append, List.cons_append, List.append_assoc] at H
    generalize w3.heap.size = bS at H ⊢
    try clear w3
    have C := H.cells
    try simp only [cellsOf, apartOf, and_true] at C
    dsimp only
    go_wp2_with fail
    refine (HNEW.out _).mono ?_
    rintro _ w5 ⟨rfl, hb⟩
    replace H := H.below hb
    clear hb
    try clear C
    try simp only [World.size_alloc, List.nil_append, List.cons_append, List.append_assoc] at H
    try clear w4
    have C := H.cells
    try simp only [cellsOf, apartOf, and_true] at C
    dsimp only
    go_wp2_with fail
    refine (place_any sv w.heap.size bd _ (H.alloc.at 0 rfl)).mono ?_
    rintro _ w6 ⟨p0, p1, p2, p3, p4, p5, rfl, hpv, hd, hg⟩
    replace H := (H.alloc).diceAt 0 rfl hg hd
    clear hg hd
    try clear C
    try simp only [World.size_alloc, List.nil_append, List.cons_append, List.append_assoc] at H
    generalize w5.heap.size = bX at H ⊢
    try clear w5
    have C := H.cells
    try simp only [cellsOf, apartOf, and_true] at C
    dsimp only
    obtain ⟨N, hN⟩ : ∃ N : Nat, (N : Int) = n := ⟨n.toNat, by omega⟩
    have hNt : n.toNat = N := by omega
    obtain ⟨R, hR⟩ : ∃ R, R = rwz s4 := ⟨_, rfl⟩
    have HRR := Lib.hid hR
    rw [← hR] at hm hz hz8 q2 q4 ⊢
    clear hR q1 q2 q4
    go_wp2_with fail
    generalize hwb : w6.alloc _ = w7
    replace H := HS.eqW hwb H.alloc
    try simp only [World.size_alloc, List.nil_append, List.cons_append, List.append_assoc] at H
    clear hwb
    generalize w6.heap.size = bP at H ⊢
    try clear C
    try clear w6
    have C := H.cells
    try simp only [cellsOf, apartOf, and_true] at C
    have hnr := H.nilRow 38 8
    clear H
    have H := hnr
    clear hnr
    try simp only [List.nil_append, List.cons_append] at H
    go_loopw [53] (fun cc wr => ∃ (r k : Nat) (p4 : Int) (sb : Option Addr) (c : Nat), cc = .int .i64 r ∧ (r : Int) ≤ R - n ∧ k = min r N ∧ k ≤ c ∧ (k = 0 → sb = none) ∧ HS NoD w [.dice w.heap.size bd, .blk bS #[.int .i64 s0, .int .i64 s1, .int .i64 s2, .int .i64 1, .int .i64 s4, .int .i64 2] 23, .blk bX #[.int .i64 s0, .int .i64 s1, .int .i64 s2, .int .i64 1, .int .i64 s4, .int .i64 2, .int .i64 n, .slice sb k c] 26, .blk bP #[.int .i64 p0, .int .i64 p1, .int .i64 p2, .int .i64 p3, .int .i64 p4, .int .i64 p5] 28, .row (.slice sb k c) 38 8 k ((fullL p0 p1 p2 p3 (R - n) k).flatMap sC)] wr) (fun cc _ => (R - n - intOf cc).toNat)
    case atStart => exact ⟨0, 0, p4, none, 0, rfl, by omega, by omega, by omega, fun _ => rfl, H⟩
    case round =>
      clear H C w7
      obtain ⟨r, k, p4, sb, c, rfl, hr, hk, hkc, hk0, H⟩ := hrel
      skip
      try clear C
      try simp only [World.size_alloc, List.nil_append, List.cons_append, List.append_assoc] at H
      have C := H.cells
      try simp only [cellsOf, apartOf, and_true] at C
      have hfl := fullL_len p0 p1 p2 p3 (R - n) k
      by_cases hlt : (r : Int) < R - n
      · have hv : SpV s0 s1 s2 1 s4 2 n (fullL p0 p1 p2 p3 (R - n) k) c := by
          have := fullL_ok (n := n) (k := k) (c := c) sv (by rw [← HRR.out]; exact hm) hpv (by omega) (by rw [← HRR.out]; omega) (by omega) hkc
          rwa [← HRR.out] at this
        have hpr : PV s0 s1 s2 1 s4 2 p0 p1 p2 p3 (r : Int) p5 := ⟨hpv.h0, hpv.h1, hpv.h2, hpv.h3, ⟨by omega, by show _ < rwz s4; rw [← HRR.out]; omega⟩, hpv.h5⟩
        have hfr := fullL_free p0 p1 p2 p3 (R - n) k N
        have HLF := Lib.hid (fun w (hl : Lies w w.heap.size sb 8 k (fun j => sC (fullL p0 p1 p2 p3 (R - n) k)[j]!)) => (by have := sleft_of (n := n) sv hv.n0 hpr (sa := sb) c (xs := fullL p0 p1 p2 p3 (R - n) k) hv.len hv.cap hv.all w (by rw [hfl]; exact hl); rw [← HRR.out, hNt, hfr, List.length_map, List.length_range', hfl] at this; exact this : Calls Try.prog 28 #[vSp s0 s1 s2 1 s4 2 n (.slice sb k c), v6 p0 p1 p2 p3 r p5] w (Gives (.int .i64 ((N - k : Nat) : Int)) w)))
        have HV := Lib.hid hv
        have HPR := Lib.hid hpr
        clear hv hpr
        by_cases hrn : r < N
        · obtain rfl : k = r := by omega
          clear hk
          have hnr : ¬ rwz s4 - n ≤ (k : Int) := by rw [← HRR.out]; omega
          have hfl1 := fullL_len p0 p1 p2 p3 (R - n) (k + 1)
          have HSW := Lib.hid (fun w (hl : Lies w w.heap.size sb 8 k (fun j => sC (fullL p0 p1 p2 p3 (R - n) k)[j]!)) => (by
            have := swap_ok HV.out HPR.out hnr (by rw [fullL_R]; simp) (f0 := R - n + (k : Int)) (fs := (List.range' (k + 1) (N - (k + 1))).map fun (j : Nat) => R - n + (j : Int)) (by rw [← HRR.out, hNt, hfr, show N - k = (N - (k + 1)) + 1 by omega, List.range'_succ]; rfl) (by rw [hfl]; omega) (fun e => hk0 (by rw [← hfl, e]; rfl)) w (by rw [hfl]; exact hl)
            rw [← fullL_succ, hfl1, hfl] at this
            exact this : Calls Try.prog 26 #[vSp s0 s1 s2 1 s4 2 n (.slice sb k c), v6 p0 p1 p2 p3 k p5] w (GivesS (fun v => .tuple #[vSp s0 s1 s2 1 s4 2 n v, .int .i64 0]) 38 8 (k + 1) ((fullL p0 p1 p2 p3 (R - n) (k + 1)).flatMap sC) w)))
          have HV1 := Lib.hid (fun (c : Nat) (hc : k + 1 ≤ c) => (by
            have := fullL_ok (n := n) (k := k + 1) (c := c) sv (by rw [← HRR.out]; exact hm) hpv (by omega) (by rw [← HRR.out]; omega) (by omega) hc
            rwa [← HRR.out] at this : SpV s0 s1 s2 1 s4 2 n (fullL p0 p1 p2 p3 (R - n) (k + 1)) c))
          have HTW := Lib.hid (fun (sc : Option Addr) (c : Nat) (hc : k + 1 ≤ c) w (hl : Lies w w.heap.size sc 8 (k + 1) (fun j => sC (fullL p0 p1 p2 p3 (R - n) (k + 1))[j]!)) => (by
            have := swap_twice (HV1.out c hc) HPR.out hnr (by rw [fullL_R]; simp) w (by rw [hfl1]; exact hl)
            rw [hfl1] at this
            exact this : Calls Try.prog 26 #[vSp s0 s1 s2 1 s4 2 n (.slice sc (k + 1) c), v6 p0 p1 p2 p3 k p5] w (Gives (.tuple #[vSp 0 0 0 0 0 0 0 (.slice none 0 0), .int .i64 8]) w)))
          have HIX := Lib.hid (fun w => rindex_yes sv HPR.out w)
          have hin := idx_in sv HPR.out
          have hat := at_of_idx sv HPR.out
          have HT := Lib.hid (fun (sc : Option Addr) (c : Nat) (hc : k + 1 ≤ c) w (hl : Lies w w.heap.size sc 8 (k + 1) (fun j => sC (fullL p0 p1 p2 p3 (R - n) (k + 1))[j]!)) => (by
            have := turn_of (HV1.out c hc) hin.1 hin.2 hat.symm HPR.out w (by rw [hfl1]; exact hl)
            rw [hfl1] at this
            dsimp only at this
            rw [fullL_turn hlt] at this
            exact this : Calls Try.prog 32 #[vSp s0 s1 s2 1 s4 2 n (.slice sc (k + 1) c), .int .i64 (idx s1 s2 1 s4 2 p0 p1 p2 p3 k p5)] w (Gives (.tuple #[.int .i64 (idx s1 s2 1 s4 2 p0 p1 p2 p3 (R - n + (k : Int)) p5), .int .i64 0]) w)))
          have hpr2 : PV s0 s1 s2 1 s4 2 p0 p1 p2 p3 (R - n + (k : Int)) p5 := ⟨hpv.h0, hpv.h1, hpv.h2, hpv.h3, ⟨by omega, by show _ < rwz s4; rw [← HRR.out]; omega⟩, hpv.h5⟩
          have hin2 := idx_in sv hpr2
          have hat2 := at_of_idx sv hpr2
          have HAT := Lib.hid (fun w => (by
            have := rat_is sv hin2.1 hin2.2 w
            rw [hat2] at this
            exact this : Calls Try.prog 38 #[v6 s0 s1 s2 1 s4 2, .int .i64 (idx s1 s2 1 s4 2 p0 p1 p2 p3 (R - n + (k : Int)) p5)] w (Gives (.tuple #[v6 p0 p1 p2 p3 (R - n + (k : Int)) p5, .int .i64 0]) w)))
          have HFL := Lib.hid hfl
          have HFL1 := Lib.hid hfl1
          clear hat hat2 hpr2 hfr hfl1 hfl hnr hNt
          have HNn := Lib.hid hN
          clear hN
          generalize idx s1 s2 1 s4 2 p0 p1 p2 p3 (R - n + (k : Int)) p5 = i2 at *
          generalize idx s1 s2 1 s4 2 p0 p1 p2 p3 k p5 = i1 at *
          clear hin hin2
          have hkn : (k : Int) < n := by have := HNn.out; omega
          have HL2 := Lib.hid (fun w hl => (by have := HLF.out w hl; rwa [show ((N - k : Nat) : Int) = n - (k : Int) by have := HNn.out; omega] at this : Calls Try.prog 28 #[vSp s0 s1 s2 1 s4 2 n (.slice sb k c), v6 p0 p1 p2 p3 k p5] w (Gives (.int .i64 (n - (k : Int))) w)))
          go_upto_region 15 with fail
          generalize hwb : World.setCell wr _ _ = wq
          replace H := HS.eqW hwb (H.setTo (o := 4) (v := .int .i64 k) 3 rfl rfl)
          clear hwb C
          replace H : HS NoD w [.dice w.heap.size bd, .blk bS #[.int .i64 s0, .int .i64 s1, .int .i64 s2, .int .i64 1, .int .i64 s4, .int .i64 2] 23, .blk bX #[.int .i64 s0, .int .i64 s1, .int .i64 s2, .int .i64 1, .int .i64 s4, .int .i64 2, .int .i64 n, .slice sb k c] 26, .blk bP #[.int .i64 p0, .int .i64 p1, .int .i64 p2, .int .i64 p3, .int .i64 k, .int .i64 p5] 28, .row (.slice sb k c) 38 8 k ((fullL p0 p1 p2 p3 (R - n) k).flatMap sC)] wq := H
          skip
          try clear C
          try simp only [World.size_alloc, List.nil_append, List.cons_append, List.append_assoc] at H
          have C := H.cells
          try simp only [cellsOf, apartOf, and_true] at C
          go_wp2_with fail
          refine (HL2.out _ (H.rowLies 4 sC_len rfl HFL.out.symm)).mono ?_
          rintro _ w8 ⟨rfl, hb⟩
          replace H := H.below hb
          clear hb
          try clear C
          try simp only [World.size_alloc, List.nil_append, List.cons_append, List.append_assoc] at H
          try clear wq
          have C := H.cells
          try simp only [cellsOf, apartOf, and_true] at C
          dsimp only
          go_wp2_with fail
          refine (HSW.out _ (H.rowLies 4 sC_len rfl HFL.out.symm)).mono ?_
          rintro _ w9 ⟨sy, dy, rfl, hr, hb⟩
          replace H := (H).getsRow hb hr
          clear hb hr
          try clear C
          try simp only [World.size_alloc, List.nil_append, List.cons_append, List.append_assoc] at H
          try clear w8
          have C := H.cells
          try simp only [cellsOf, apartOf, and_true] at C
          dsimp only
          have hcy : k + 1 ≤ dy := by
            obtain ⟨-, -, -, h⟩ := ownsRow_ptr (H.at 5 rfl) (Nat.succ_pos k)
            exact h
          go_upto_region 17 with fail
          generalize hwb : w9.alloc _ = w10
          replace H := HS.eqW hwb H.alloc
          try simp only [World.size_alloc, List.nil_append, List.cons_append, List.append_assoc] at H
          clear hwb
          generalize w9.heap.size = bY at H ⊢
          try clear C
          try clear w9
          have C := H.cells
          try simp only [cellsOf, apartOf, and_true] at C
          go_wp2_with fail
          refine (HTW.out _ _ hcy _ (H.rowLies 5 sC_len rfl HFL1.out.symm)).mono ?_
          rintro _ w11 ⟨rfl, hb⟩
          replace H := H.below hb
          clear hb
          try clear C
          try simp only [World.size_alloc, List.nil_append, List.cons_append, List.append_assoc] at H
          try clear w10
          have C := H.cells
          try simp only [cellsOf, apartOf, and_true] at C
          dsimp only
          go_wp2_with fail
          refine (HIX.out _).mono ?_
          rintro _ w12 ⟨rfl, hb⟩
          replace H := H.alloc.below hb
          clear hb
          try clear C
          try simp only [World.size_alloc, List.nil_append, List.cons_append, List.append_assoc] at H
          generalize w11.heap.size = bT at H ⊢
          try clear w11
          have C := H.cells
          try simp only [cellsOf, apartOf, and_true] at C
          dsimp only
          go_wp2_with fail
          refine (HT.out _ _ hcy _ (H.rowLies 5 sC_len rfl HFL1.out.symm)).mono ?_
          rintro _ w13 ⟨rfl, hb⟩
          replace H := H.below hb
          clear hb
          try clear C
          try simp only [World.size_alloc, List.nil_append, List.cons_append, List.append_assoc] at H
          try clear w12
          have C := H.cells
          try simp only [cellsOf, apartOf, and_true] at C
          dsimp only
          go_wp2_with fail
          refine (HAT.out _).mono ?_
          rintro _ w14 ⟨rfl, hb⟩
          replace H := H.below hb
          clear hb
          try clear C
          try simp only [World.size_alloc, List.nil_append, List.cons_append, List.append_assoc] at H
          try clear w13
          have C := H.cells
          try simp only [cellsOf, apartOf, and_true] at C
          dsimp only
          go_wp2_with fail
          have H := H.putAll (i := 2) rfl (vs := [.int .i64 s0, .int .i64 s1, .int .i64 s2, .int .i64 1, .int .i64 s4, .int .i64 2, .int .i64 n, .slice sy (k + 1) dy]) rfl rfl
          go_roundw
          case rel =>
            refine ⟨k + 1, k + 1, (k : Int), sy, dy, by go_num, by omega, by have := HNn.out; omega, hcy, fun e => absurd e (Nat.succ_ne_zero k), ?_⟩
            exact H.skipAlloc.less (by repeat (first | exact .slnil | refine .cons_cons _ ?_ | refine .cons _ ?_))
          case measure => simp [intOf]; omega
        · obtain rfl : k = N := by omega
          have hnr : ¬ rwz s4 - n ≤ (r : Int) := by rw [← HRR.out]; omega
          have HSW := Lib.hid (fun w (hl : Lies w w.heap.size sb 8 k (fun j => sC (fullL p0 p1 p2 p3 (R - n) k)[j]!)) => (by
            have := swap_none HV.out HPR.out hnr (by rw [fullL_R, decide_eq_false (by omega)]) (by rw [← HRR.out, hNt, hfr, Nat.sub_self]; rfl) w (by rw [hfl]; exact hl)
            rw [hfl] at this
            exact this : Calls Try.prog 26 #[vSp s0 s1 s2 1 s4 2 n (.slice sb k c), v6 p0 p1 p2 p3 r p5] w (Gives (.tuple #[vSp 0 0 0 0 0 0 0 (.slice none 0 0), .int .i64 44]) w)))
          have HL2 := Lib.hid (fun w hl => (by have := HLF.out w hl; rwa [Nat.sub_self] at this : Calls Try.prog 28 #[vSp s0 s1 s2 1 s4 2 n (.slice sb k c), v6 p0 p1 p2 p3 r p5] w (Gives (.int .i64 0) w)))
          have hkn : n ≤ (r : Int) := by omega
          have HFL := Lib.hid hfl
          have HK := Lib.hid hk
          have HNT := Lib.hid hNt
          have HNN := Lib.hid hN
          clear hfr hfl hnr hk hNt hN
          skip
          go_upto_region 15 with fail
          generalize hwb : World.setCell wr _ _ = wq
          replace H := HS.eqW hwb (H.setTo (o := 4) (v := .int .i64 r) 3 rfl rfl)
          clear hwb C
          replace H : HS NoD w [.dice w.heap.size bd, .blk bS #[.int .i64 s0, .int .i64 s1, .int .i64 s2, .int .i64 1, .int .i64 s4, .int .i64 2] 23, .blk bX #[.int .i64 s0, .int .i64 s1, .int .i64 s2, .int .i64 1, .int .i64 s4, .int .i64 2, .int .i64 n, .slice sb k c] 26, .blk bP #[.int .i64 p0, .int .i64 p1, .int .i64 p2, .int .i64 p3, .int .i64 r, .int .i64 p5] 28, .row (.slice sb k c) 38 8 k ((fullL p0 p1 p2 p3 (R - n) k).flatMap sC)] wq := H
          skip
          try clear C
          try simp only [World.size_alloc, List.nil_append, List.cons_append, List.append_assoc] at H
          have C := H.cells
          try simp only [cellsOf, apartOf, and_true] at C
          go_wp2_with fail
          refine (HL2.out _ (H.rowLies 4 sC_len rfl HFL.out.symm)).mono ?_
          rintro _ w15 ⟨rfl, hb⟩
          replace H := H.below hb
          clear hb
          try clear C
          try simp only [World.size_alloc, List.nil_append, List.cons_append, List.append_assoc] at H
          try clear wq
          have C := H.cells
          try simp only [cellsOf, apartOf, and_true] at C
          dsimp only
          go_wp2_with fail
          refine (HSW.out _ (H.rowLies 4 sC_len rfl HFL.out.symm)).mono ?_
          rintro _ w16 ⟨rfl, hb⟩
          replace H := H.below hb
          clear hb
          try clear C
          try simp only [World.size_alloc, List.nil_append, List.cons_append, List.append_assoc] at H
          try clear w15
          have C := H.cells
          try simp only [cellsOf, apartOf, and_true] at C
          dsimp only
          go_upto_region 17 with fail
          generalize hwb : w16.alloc _ = w17
          replace H := HS.eqW hwb H.alloc
          try simp only [World.size_alloc, List.nil_append, List.cons_append, List.append_assoc] at H
          clear hwb
          generalize w16.heap.size = bY at H ⊢
          try clear C
          try clear w16
          have C := H.cells
          try simp only [cellsOf, apartOf, and_true] at C
          go_wp2_with fail
          go_roundw
          case rel =>
            refine ⟨r + 1, k, (r : Int), sb, c, by go_num, by omega, by have := HK.out; omega, hkc, hk0, ?_⟩
            exact H.less (by repeat (first | exact .slnil | refine .cons_cons _ ?_ | refine .cons _ ?_))
          case measure => simp [intOf]; omega
      · have hv : SpV s0 s1 s2 1 s4 2 n (fullL p0 p1 p2 p3 (R - n) k) c := by
          have := fullL_ok (n := n) (k := k) (c := c) sv (by rw [← HRR.out]; exact hm) hpv (by omega) (by rw [← HRR.out]; omega) (by omega) hkc
          rwa [← HRR.out] at this
        have HV := Lib.hid (fun w (hl : Lies w w.heap.size sb 8 k (fun j => sC (fullL p0 p1 p2 p3 (R - n) k)[j]!)) => (by have := hv.valid (sa := sb) w (by rw [hfl]; exact hl); rwa [hfl] at this : Calls Try.prog 24 #[vSp s0 s1 s2 1 s4 2 n (.slice sb k c)] w (Gives (.bool true) w)))
        have HFL := Lib.hid hfl
        clear hfl hk hv hNt hN
        skip
        go_wp2_with fail
        refine (HV.out _ (H.rowLies 4 sC_len rfl HFL.out.symm)).mono ?_
        rintro _ w18 ⟨rfl, hb⟩
        replace H := H.below hb
        clear hb
        try clear C
        try simp only [World.size_alloc, List.nil_append, List.cons_append, List.append_assoc] at H
        try clear wr
        have C := H.cells
        try simp only [cellsOf, apartOf, and_true] at C
        dsimp only
        go_wp2_with fail
        refine (HAW.out _).mono ?_
        rintro _ w19 ⟨rfl, hb⟩
        replace H := H.below hb
        clear hb
        try clear C
        try simp only [World.size_alloc, List.nil_append, List.cons_append, List.append_assoc] at H
        try clear w18
        have C := H.cells
        try simp only [cellsOf, apartOf, and_true] at C
        dsimp only
        go_wp2_with fail
        go_ret
        exact ⟨rfl, H.done⟩
  · rw [decide_eq_false h400] at hli
    have HLI := Lib.hid hli
    clear hli
    go_enter Try.func4, Try.ntmps4
    have H := HS.start NoD w
    go_wp2_with fail
    refine (gives_of (HLI.out _)).mono ?_
    rintro _ w1 ⟨rfl, hb⟩
    replace H := H.below hb
    clear hb
    try clear C
    try simp only [World.size_alloc, List.nil_append, List.cons_append, List.append_assoc] at H
    have C := H.cells
    try simp only [cellsOf, apartOf, and_true] at C
    dsimp only
    go_wp2_with fail
    refine (HAW.out _).mono ?_
    rintro _ w2 ⟨rfl, hb⟩
    replace H := H.below hb
    clear hb
    try clear C
    try simp only [World.size_alloc, List.nil_append, List.cons_append, List.append_assoc] at H
    try clear w1
    have C := H.cells
    try simp only [cellsOf, apartOf, and_true] at C
    dsimp only
    go_wp2_with fail
    go_ret
    exact ⟨rfl, H.done⟩
end Go.Proofs.Ytcacgmfihhpliaa
