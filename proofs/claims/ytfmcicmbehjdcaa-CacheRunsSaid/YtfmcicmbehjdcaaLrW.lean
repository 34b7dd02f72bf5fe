/- mill.Cache: a good cache drawn from a stream. -/
import Derived.Test.YtfmcicmbehjdcaaLrT
import Derived.Test.YtfmcicmbehjdcaaLrU
import Derived.Test.YtfmcicmbehjdcaaLrV
import Derived.Test.YtfmcicmbehjdcaaK2
namespace Go.Proofs.Ytfmcicmbehjdcaa
set_option linter.unusedSimpArgs false
set_option linter.unusedVariables false
open Go.RowKit
set_option maxRecDepth 100000
attribute [local irreducible] wpX wpF Calls

/-- A good cache drawn from a stream. -/
def GivesCacheD (B b : Nat) (w : World) (e : Ending) (w' : World) : Prop :=
  ∃ (S W z : Nat) (s : Option Addr) (c : Nat) (qs : List Sw) (F : Nat → Prop), S ≤ 3 ∧ 1 ≤ z ∧ z ≤ 3 ∧ GoodC S W z (qs.map Sw.s) ∧ e = .returned (caV S W z ⟨s, qs.length, c⟩) ∧ HS (OneD b) w [.dice B b, rowS s qs.length c qs, anyS F qs] w'
theorem HS.slotsAt {D : Nat → Prop} {W w : World} {L : List Item} (h : HS D W L w) (i j : Nat) {s : Option Addr} {n c : Nat} {qs : List Sw} {F : Nat → Prop} (hi : L[i]? = some (rowS s n c qs)) (hn : n = qs.length) (hj : L[j]? = some (anyS F qs)) : SlotsAt w ⟨s, n, c⟩ (qs.map Sw.s) := by
  have h1 : w.ownsRow 0 37 6 (.slice s n c) n (qs.flatMap swC) := ownsRow_zero (h.at i hi)
  exact slotsAt_of h1 hn (h.says j hj)
set_option maxHeartbeats 32000000 in
theorem mcache_any (B b : Nat) (w : World) (hd : Dice B w b) (hB : B ≤ w.heap.size) :
    Calls Try.prog 10 #[.pointer (some ⟨b, 0, none⟩)] w (GivesCacheD B b w) := by
  have HBB := Lib.hid hB
  have HNW := Lib.hid (fun S W z w => r31new_any S W z w)
  go_enter Try.func10, Try.ntmps10
  have H := HS.startDice hd hB
  have C := H.cells
  try simp only [cellsOf, cellsM, apartOf, apartM, and_true] at C
  clear hd
  go_upto_region 1 with fail
  generalize hwb : w.alloc _ = w1
  replace H := HS.eqW hwb H.alloc
  try simp only [World.size_alloc, List.nil_append, List.cons_append, List.append_assoc] at H
  clear hwb
  generalize w.heap.size = bR at H ⊢
  try clear C
  have C := H.cells
  try simp only [cellsOf, cellsM, apartOf, apartM, and_true] at C
  go_wp2_with fail
  refine (next_any 3 (by omega) B b _ (H.at 0 rfl)).mono ?_
  rintro _ w2 ⟨v0, rfl, hv0, hd, hg⟩
  replace H := (H).diceAt 0 rfl hg hd
  clear hg hd
  try clear C
  try simp only [World.size_alloc, List.nil_append, List.cons_append, List.append_assoc] at H
  try clear w1
  have C := H.cells
  try simp only [cellsOf, cellsM, apartOf, apartM, and_true] at C
  dsimp only
  have hv01 : v0 < 3 := hv0.lt (by omega)
  have hv02 : 0 ≤ v0 := hv0.1
  obtain ⟨S, hS⟩ : ∃ S : Nat, (S : Int) = 1 + v0 := ⟨(1 + v0).toNat, by omega⟩
  have hS3 : 1 ≤ S ∧ S ≤ 3 := by omega
  have hSw : IntKind.i64.wrap (1 + v0) = S := by rw [hS]; exact IntWalk.i64_in _ (by omega)
  have hSe : 1 + v0 = (S : Int) := hS.symm
  clear hv0 hS hv01 hv02
  go_wp2_with fail
  refine (next_any 4 (by omega) B b _ (H.at 0 rfl)).mono ?_
  rintro _ w3 ⟨v1, rfl, hv1, hd, hg⟩
  replace H := (H).diceAt 0 rfl hg hd
  clear hg hd
  try clear C
  try simp only [World.size_alloc, List.nil_append, List.cons_append, List.append_assoc] at H
  try clear w2
  have C := H.cells
  try simp only [cellsOf, cellsM, apartOf, apartM, and_true] at C
  dsimp only
  have hv11 : v1 < 4 := hv1.lt (by omega)
  have hv12 : 0 ≤ v1 := hv1.1
  obtain ⟨W, hW⟩ : ∃ W : Nat, (W : Int) = 1 + v1 := ⟨(1 + v1).toNat, by omega⟩
  have hW4 : 1 ≤ W ∧ W ≤ 4 := by omega
  have hWw : IntKind.i64.wrap (1 + v1) = W := by rw [hW]; exact IntWalk.i64_in _ (by omega)
  have hWe : 1 + v1 = (W : Int) := hW.symm
  clear hv1 hW hv11 hv12
  go_wp2_with fail
  refine (next_any 3 (by omega) B b _ (H.at 0 rfl)).mono ?_
  rintro _ w4 ⟨v2, rfl, hv2, hd, hg⟩
  replace H := (H).diceAt 0 rfl hg hd
  clear hg hd
  try clear C
  try simp only [World.size_alloc, List.nil_append, List.cons_append, List.append_assoc] at H
  try clear w3
  have C := H.cells
  try simp only [cellsOf, cellsM, apartOf, apartM, and_true] at C
  dsimp only
  have hv21 : v2 < 3 := hv2.lt (by omega)
  have hv22 : 0 ≤ v2 := hv2.1
  obtain ⟨z, hz⟩ : ∃ z : Nat, (z : Int) = 1 + v2 := ⟨(1 + v2).toNat, by omega⟩
  have hz3 : 1 ≤ z ∧ z ≤ 3 := by omega
  have hzw : IntKind.i64.wrap (1 + v2) = z := by rw [hz]; exact IntWalk.i64_in _ (by omega)
  have hze : 1 + v2 = (z : Int) := hz.symm
  clear hv2 hz hv21 hv22
  have hsz : sizedB (S : Int) W z = true := decide_eq_true (by omega)
  have HG0 := Lib.hid (GoodC.new hsz)
  have HSZ := Lib.hid hsz
  have HS3 := Lib.hid hS3
  have HZ3 := Lib.hid hz3
  clear hsz hS3 hW4
  go_wp2_with fail
  refine (HNW.out S W z _).mono ?_
  rintro _ w50 hnew
  clear hSe hSw hWw hWe hzw hze HNW
  rcases hnew with ⟨h1, -⟩ | ⟨-, s0, n0, hn0, rfl, K⟩
  · rw [HSZ.out] at h1; cases h1
  have hn1 : n0 = S * W := by have : ((S * W : Nat) : Int) = S * W := by push_cast; rfl
                              omega
  subst hn1
  have H1 := (H.join K (one_low rfl)).anyNil
  clear K H C hn0
  try simp only [List.nil_append, List.cons_append] at H1
  have H := HS.weak (L := [_, _, _]) H1 (K' := fun w => SlotsOk w (List.replicate (S * W) zSw)) (fun w' _ => slotsOk_rep w' _)
  clear H1
  obtain ⟨q0, hq0⟩ : ∃ q, q = List.replicate (S * W) zSw := ⟨_, rfl⟩
  have hl0 : S * W = q0.length := by rw [hq0, List.length_replicate]
  rw [← hq0, hl0] at H
  rw [hl0]
  have HG := Lib.hid (show GoodC S W z (q0.map Sw.s) by rw [hq0, List.map_replicate]; exact HG0.out)
  clear hq0 hl0 HG0
  skip
  try clear C
  try simp only [World.size_alloc, List.nil_append, List.cons_append, List.append_assoc] at H
  have C := H.cells
  try simp only [cellsOf, cellsM, apartOf, apartM, and_true] at C
  dsimp only
  go_upto_region 2 with fail
  generalize hwb : w50.alloc _ = w5
  replace H := HS.eqW hwb H.alloc
  try simp only [World.size_alloc, List.nil_append, List.cons_append, List.append_assoc] at H
  clear hwb
  generalize w50.heap.size = bC at H ⊢
  try clear C
  try clear w50
  have C := H.cells
  try simp only [cellsOf, cellsM, apartOf, apartM, and_true] at C
  have H2 := H.permu (L' := [.dice B b, .blk bR #[.int .i64 0, .int .i64 0, .int .i64 0, .slice none 0 0] 24, .blk bC #[.int .i64 S, .int .i64 W, .int .i64 z, .slice s0 q0.length q0.length] 24, rowS s0 q0.length q0.length q0, anyS _ q0]) (by
    refine List.Perm.cons _ (List.Perm.cons _ ?_)
    exact (List.perm_append_comm (l₁ := [_, _]) (l₂ := [_])))
  clear H C
  have H := H2
  clear H2
  try clear C
  try simp only [World.size_alloc, List.nil_append, List.cons_append, List.append_assoc] at H
  have C := H.cells
  try simp only [cellsOf, cellsM, apartOf, apartM, and_true] at C
  go_wp2_with fail
  refine (next_any 14 (by omega) B b _ (H.at 0 rfl)).mono ?_
  rintro _ w6 ⟨v3, rfl, hv3, hd, hg⟩
  replace H := (H).diceAt 0 rfl hg hd
  clear hg hd
  try clear C
  try simp only [World.size_alloc, List.nil_append, List.cons_append, List.append_assoc] at H
  try clear w5
  have C := H.cells
  try simp only [cellsOf, cellsM, apartOf, apartM, and_true] at C
  dsimp only
  have hv31 : v3 < 14 := hv3.lt (by omega)
  have hv32 : 0 ≤ v3 := hv3.1
  obtain ⟨n3, rfl⟩ : ∃ n : Nat, v3 = n := ⟨v3.toNat, by omega⟩
  clear hv3 hv32
  go_wp2_with fail
  go_loopw [5] (fun kk wr => ∃ (k : Nat) (s : Option Addr) (c : Nat) (qs : List Sw) (F : Nat → Prop), kk = .int .i64 k ∧ k ≤ 14 ∧ Hid (GoodC S W z (qs.map Sw.s)) ∧ HS (OneD b) w [.dice B b, .blk bR #[.int .i64 0, .int .i64 0, .int .i64 0, .slice none 0 0] 24, .blk bC #[.int .i64 S, .int .i64 W, .int .i64 z, .slice s qs.length c] 24, rowS s qs.length c qs, anyS F qs] wr) (fun kk _ => (intOf kk).toNat)
  case atStart => exact ⟨n3, s0, _, q0, _, rfl, by omega, HG, H⟩
  case round =>
    clear H C
    obtain ⟨k, s, c, qs, F, rfl, hk, HG, H⟩ := hrel
    skip
    try clear C
    try simp only [World.size_alloc, List.nil_append, List.cons_append, List.append_assoc] at H
    have C := H.cells
    try simp only [cellsOf, cellsM, apartOf, apartM, and_true] at C
    by_cases hk0 : 0 < k
    · have HK0 := Lib.hid hk0
      have hki : (0 : Int) < k := by omega
      have hkb : (k : Int) ≤ 14 := by omega
      have hkw : IntKind.i64.wrap ((k : Int) - 1) = ((k - 1 : Nat) : Int) := by rw [IntWalk.i64_in _ (by omega)]; omega
      have HKW := Lib.hid (show ((k : Int) - 1) = ((k - 1 : Nat) : Int) by omega)
      go_wp2_with fail
      refine (next_any 6 (by omega) B b _ (H.at 0 rfl)).mono ?_
      rintro _ w7 ⟨v4, rfl, hv4, hd, hg⟩
      replace H := (H).diceAt 0 rfl hg hd
      clear hg hd
      try clear C
      try simp only [World.size_alloc, List.nil_append, List.cons_append, List.append_assoc] at H
      try clear wr
      have C := H.cells
      try simp only [cellsOf, cellsM, apartOf, apartM, and_true] at C
      dsimp only
      clear hv4
      skip
      by_cases h0 : v4 = 0
      · subst h0
        go_upto_region 8 with fail
        go_region_law (first
          | (go_simp; go_at_call 19
             refine (next_any 12 (by omega) B b _ (H.drew.at 0 rfl)).mono ?_
             rintro _ wa ⟨v5, rfl, hv5, hd, hg⟩
             have H1 := H.drew.diceAt 0 rfl hg hd
             have C1 := H1.cells
             simp only [cellsOf, apartOf, and_true, List.cons_append, List.nil_append] at C1
             clear hg hd hv5)
          | (go_simp; go_at_call 27
             refine (r31get_any HG.out ⟨s, qs.length, c⟩ v5 _ (H1.slotsAt 3 4 rfl rfl rfl)).mono ?_
             rintro _ wb ⟨o, s9, c9, q9, y9, F9, ho, hqo, rfl, K⟩
             have H3 := H1.join K (two_low rfl rfl)
             have HO := Lib.hid (show GoodC S W z (q9.map Sw.s) by rw [hqo]; exact HG.out.get ho)
             dsimp only [caV]
             have C3 := H3.cells
             simp only [cellsOf, apartOf, and_true, List.cons_append, List.nil_append] at C3
             clear K ho hqo))
        all_goals go_wp2_with fail
        all_goals (generalize hwb : World.setCell _ _ _ = w9; have H4 := HS.eqW hwb (H3.putAll (i := 2) rfl (vs := [.int .i64 S, .int .i64 W, .int .i64 z, .slice s9 q9.length c9]) rfl rfl); clear hwb)
        all_goals (have H5 := HS.less (L' := [.dice B b, .blk bR #[.int .i64 0, .int .i64 0, .int .i64 0, .slice none 0 0] 24, .blk bC #[.int .i64 S, .int .i64 W, .int .i64 z, .slice s9 q9.length c9] 24, rowS s9 q9.length c9 q9, .any F9 _]) H4 (by repeat (first | exact .slnil | refine .cons_cons _ ?_ | refine .cons _ ?_)))
        all_goals (have H6 := HS.weak (L := [_, _, _, _]) H5 (K' := fun w => SlotsOk w q9) (fun w' h => h.1))
        all_goals go_roundw
        all_goals first
          | exact ⟨k - 1, s9, c9, q9, F9, by first | rfl | (rw [← HKW.out]; go_num), by omega, HO, H6⟩
          | (simp [intOf]; have := HK0.out; omega)
      · by_cases h1 : v4 = 1
        · subst h1
          skip
          go_upto_region 10 with fail
          go_region_law (first
            | (go_simp; go_at_call 19
               refine (next_any 12 (by omega) B b _ (H.drew.at 0 rfl)).mono ?_
               rintro _ wa ⟨v5, rfl, hv5, hd, hg⟩
               have H1 := H.drew.diceAt 0 rfl hg hd
               have C1 := H1.cells
               simp only [cellsOf, apartOf, and_true, List.cons_append, List.nil_append] at C1
               clear hg hd hv5)
            | (go_simp; go_at_call 28
               refine (r31drop_any HG.out ⟨s, qs.length, c⟩ v5 _ (H1.slotsAt 3 4 rfl rfl rfl)).mono ?_
               rintro _ wb ⟨o, s9, c9, q9, y9, F9, ho, hqo, rfl, K⟩
               have H3 := H1.join K (two_low rfl rfl)
               have HO := Lib.hid (show GoodC S W z (q9.map Sw.s) by rw [hqo]; exact HG.out.drop ho)
               dsimp only [caV]
               have C3 := H3.cells
               simp only [cellsOf, apartOf, and_true, List.cons_append, List.nil_append] at C3
               clear K ho hqo))
          all_goals go_wp2_with fail
          all_goals (generalize hwb : World.setCell _ _ _ = w9; have H4 := HS.eqW hwb (H3.putAll (i := 2) rfl (vs := [.int .i64 S, .int .i64 W, .int .i64 z, .slice s9 q9.length c9]) rfl rfl); clear hwb)
          all_goals (have H5 := HS.less (L' := [.dice B b, .blk bR #[.int .i64 0, .int .i64 0, .int .i64 0, .slice none 0 0] 24, .blk bC #[.int .i64 S, .int .i64 W, .int .i64 z, .slice s9 q9.length c9] 24, rowS s9 q9.length c9 q9, .any F9 _]) H4 (by repeat (first | exact .slnil | refine .cons_cons _ ?_ | refine .cons _ ?_)))
          all_goals (have H6 := HS.weak (L := [_, _, _, _]) H5 (K' := fun w => SlotsOk w q9) (fun w' h => h.1))
          all_goals go_roundw
          all_goals first
            | exact ⟨k - 1, s9, c9, q9, F9, by first | rfl | (rw [← HKW.out]; go_num), by omega, HO, H6⟩
            | (simp [intOf]; have := HK0.out; omega)
        · skip
          have h0b : (v4 == 0) = false := beq_eq_false_iff_ne.2 h0
          have h1b : (v4 == 1) = false := beq_eq_false_iff_ne.2 h1
          go_upto_region 6 with fail
          have HML := Lib.hid (fun (a : Int) w hd hB => mline_any z (by have := HZ3.out; omega) a B b w hd hB)
          go_region_law (first
            | (go_simp; go_at_call 19
               refine (next_any 12 (by omega) B b _ (H.drew.at 0 rfl)).mono ?_
               rintro _ wa ⟨v5, rfl, hv5, hd, hg⟩
               have H1 := H.drew.diceAt 0 rfl hg hd
               have C1 := H1.cells
               simp only [cellsOf, apartOf, and_true, List.cons_append, List.nil_append] at C1
               clear hg hd hv5)
            | (go_simp; go_at_call 23
               refine (HML.out v5 _ (H1.at 0 rfl) (Nat.le_trans HBB.out H1.size)).mono ?_
               rintro _ wl ⟨m8, x8, F8, rfl, hma, hmb, K⟩
               have H2 := H1.joinDice 0 rfl K (one_low rfl)
               have HMB := Lib.hid hmb
               have C2 := H2.cells
               simp only [cellsOf, apartOf, and_true, List.cons_append, List.nil_append] at C2
               clear K hma hmb)
            | (go_simp; go_at_call 29
               refine (r31put_any HG.out ⟨s, qs.length, c⟩ m8 x8 (by have := HMB.out; have := HZ3.out; omega) _ (H2.slotsAt 3 4 rfl rfl rfl) (H2.says 5 rfl)).mono ?_
               rintro _ wb ⟨o, s9, c9, q9, y9, F9, ho, hqo, rfl, K⟩
               have H3 := H2.join K (two_low rfl rfl)
               have HO := Lib.hid (show GoodC S W z (q9.map Sw.s) by rw [hqo]; exact HG.out.put ho)
               dsimp only [caV]
               have C3 := H3.cells
               simp only [cellsOf, apartOf, and_true, List.cons_append, List.nil_append] at C3
               clear K ho hqo))
          all_goals go_wp2_with fail
          all_goals (generalize hwb : World.setCell _ _ _ = w9; have H4 := HS.eqW hwb (H3.putAll (i := 2) rfl (vs := [.int .i64 S, .int .i64 W, .int .i64 z, .slice s9 q9.length c9]) rfl rfl); clear hwb)
          all_goals (have H5 := HS.less (L' := [.dice B b, .blk bR #[.int .i64 0, .int .i64 0, .int .i64 0, .slice none 0 0] 24, .blk bC #[.int .i64 S, .int .i64 W, .int .i64 z, .slice s9 q9.length c9] 24, rowS s9 q9.length c9 q9, .any F9 _]) H4 (by repeat (first | exact .slnil | refine .cons_cons _ ?_ | refine .cons _ ?_)))
          all_goals (have H6 := HS.weak (L := [_, _, _, _]) H5 (K' := fun w => SlotsOk w q9) (fun w' h => h.1))
          all_goals go_roundw
          all_goals first
            | exact ⟨k - 1, s9, c9, q9, F9, by first | rfl | (rw [← HKW.out]; go_num), by omega, HO, H6⟩
            | (simp [intOf]; have := HK0.out; omega)
    · obtain rfl : k = 0 := by omega
      skip
      have zR : w.heap.size ≤ bR := (H.own _ (List.mem_of_getElem? (i := 1) rfl) bR rfl).resolve_right (fun e => by simp [OneD, *] at e)
      repeat go_step
      generalize hwb : (((wr.setCell _ _).setCell _ _).setCell _ _).setCell _ _ = w8
      replace H := HS.eqW hwb (H.putAll (i := 1) rfl (vs := [.int .i64 S, .int .i64 W, .int .i64 z, .slice s qs.length c]) rfl rfl)
      simp only [List.nil_append, List.cons_append, List.append_assoc, List.set_cons_succ, List.set_cons_zero] at H
      clear hwb
      try clear C
      try clear wr
      have C := H.cells
      try simp only [cellsOf, cellsM, apartOf, apartM, and_true] at C
      refine bodyPost_ret (v := .agg #[.int .i64 S, .int .i64 W, .int .i64 z, .slice s qs.length c]) (by simp [results, Try.results10, go_sem, C]) rfl ?_
      exact ⟨S, W, z, s, c, qs, F, HS3.out.2, HZ3.out.1, HZ3.out.2, HG.out, rfl, HS.less H (by repeat (first | exact .slnil | refine .cons_cons _ ?_ | refine .cons _ ?_))⟩
end Go.Proofs.Ytfmcicmbehjdcaa
