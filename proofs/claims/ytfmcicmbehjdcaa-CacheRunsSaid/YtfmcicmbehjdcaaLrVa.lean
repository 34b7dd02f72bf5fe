/- The statement CacheValid: its walk. -/
import Derived.Test.YtfmcicmbehjdcaaLrZ
import Derived.Test.YtfmcicmbehjdcaaLrF
namespace Go.Proofs.Ytfmcicmbehjdcaa
set_option linter.unusedSimpArgs false
set_option linter.unusedVariables false
open Go.RowKit
set_option maxRecDepth 100000
attribute [local irreducible] wpX wpF Calls

theorem sw_ad : ∀ (qs : List Sw) (j : Nat) (a : Int), j < qs.length → (qs.flatMap swC).set (j * 6 + 2) (.int .i64 a) = (qs.set j ⟨⟨(qs[j]!).s.u, (qs[j]!).s.age, ⟨a, (qs[j]!).s.ln.bs, (qs[j]!).s.ln.d, (qs[j]!).s.ln.p⟩⟩, (qs[j]!).x⟩).flatMap swC
  | [], j, a, h => absurd h (Nat.not_lt_zero _)
  | x :: qs, 0, a, h => by simp [swC]
  | x :: qs, j + 1, a, h => by
    have := sw_ad qs j a (by simpa using h)
    rw [List.set_cons_succ, List.flatMap_cons, List.flatMap_cons, show (x :: qs)[j + 1]! = qs[j]! from rfl, ← this]
    rw [show (j + 1) * 6 + 2 = j * 6 + 2 + 6 by omega]
    simp [swC]
theorem sw_data : ∀ (qs : List Sw) (j : Nat) (y : Sv) (bs : List Int), j < qs.length → (qs.flatMap swC).set (j * 6 + 3) (.slice y.sa y.n y.c) = (qs.set j ⟨⟨(qs[j]!).s.u, (qs[j]!).s.age, ⟨(qs[j]!).s.ln.ad, bs, (qs[j]!).s.ln.d, (qs[j]!).s.ln.p⟩⟩, y⟩).flatMap swC
  | [], j, y, bs, h => absurd h (Nat.not_lt_zero _)
  | x :: qs, 0, y, bs, h => by simp [swC]
  | x :: qs, j + 1, y, bs, h => by
    have := sw_data qs j y bs (by simpa using h)
    rw [List.set_cons_succ, List.flatMap_cons, List.flatMap_cons, show (x :: qs)[j + 1]! = qs[j]! from rfl, ← this]
    rw [show (j + 1) * 6 + 3 = j * 6 + 3 + 6 by omega]
    simp [swC]
theorem lens_set {qs : List Sw} (h : ∀ j, j < qs.length → (qs[j]!).x.n = (qs[j]!).s.ln.bs.length) (i : Nat) (q : Sw) (hq : q.x.n = q.s.ln.bs.length) : ∀ j, j < (qs.set i q).length → ((qs.set i q)[j]!).x.n = ((qs.set i q)[j]!).s.ln.bs.length := fun j hj => by
  rw [List.length_set] at hj
  rw [set_getG _ _ _ _ hj]
  split
  · exact hq
  · exact h j hj
/-- Both packages answer the same about what lies in a row of one's own. -/
theorem both_valid (X1 X2 X3 : Int) {g n N c : Nat} {q2 : List Sw} (hn : n ≤ q2.length) (hN : q2.length = N) (hN1 : N ≤ 1000) (hln : ∀ j, j < q2.length → (q2[j]!).x.n = (q2[j]!).s.ln.bs.length) (hc : N ≤ c) : ∃ v : Bool, ∀ w : World, w.ownsRow 0 37 6 (.slice (some ⟨g, 0, none⟩) N c) N (q2.flatMap swC) →
    Calls Try.prog 17 #[.agg #[.int .i64 X1, .int .i64 X2, .int .i64 X3, .slice (some ⟨g, 0, none⟩) n c]] w (Gives (.bool v) w) ∧ Calls Try.prog 18 #[.agg #[.int .i64 X1, .int .i64 X2, .int .i64 X3, .slice (some ⟨g, 0, none⟩) n c]] w (Gives (.bool v) w) := by
  have hl3 : (q2.take n).length = n := by rw [List.length_take]; omega
  have hln3 : ∀ j, j < (q2.take n).length → ((q2.take n)[j]!).x.n = ((q2.take n)[j]!).s.ln.bs.length := fun j hj => by
    have hj2 : j < q2.length := by omega
    rw [getElem!_pos _ j hj, List.getElem_take, ← getElem!_pos q2 j hj2]
    exact hln j hj2
  refine ⟨validB X1 X2 X3 ((q2.take n).map Sw.s), fun w hr => ?_⟩
  have hL : Lies w w.heap.size (some ⟨g, 0, none⟩) 6 (q2.take n).length (fun j => swC (q2.take n)[j]!) := Lies.take (by
    have := ownsRow_lies swC_len hN.symm hr
    rw [hN]; exact this) hn
  exact ⟨cvalid_any X1 X2 X3 ⟨some ⟨g, 0, none⟩, n, c⟩ (q2.take n) hl3.symm ⟨by dsimp only; omega, fun e => nomatch e⟩ (by omega) hln3 w hL, r31valid_any X1 X2 X3 ⟨some ⟨g, 0, none⟩, n, c⟩ (q2.take n) hl3.symm ⟨by dsimp only; omega, fun e => nomatch e⟩ (by omega) hln3 w hL⟩
theorem slots_nil (w : World) : SlotsAt w ⟨none, 0, 0⟩ [] := ⟨[], rfl, rfl, ⟨Nat.le_refl _, fun _ => rfl⟩, Lies.nil0, fun j hj => absurd hj (Nat.not_lt_zero _)⟩
theorem new_at {w : World} {B n c : Nat} {s : Option Addr} (h : w.ownsRow B 37 6 (.slice s n c) n ((List.replicate n zSw).flatMap swC)) : SlotsAt w ⟨s, n, c⟩ (List.replicate n zSm) := by
  have := slotsAt_of (ownsRow_zero h) List.length_replicate.symm (slotsOk_rep w n)
  rw [List.map_replicate] at this
  exact this
theorem new_len {sets ways size : Int} {n : Nat} (h : sizedB sets ways size = true) (hn : (n : Int) = sets * ways) : n ≤ 32 := by
  have h1 := of_decide_eq_true h
  obtain ⟨S, rfl⟩ : ∃ S : Nat, sets = S := ⟨sets.toNat, by omega⟩
  obtain ⟨W, rfl⟩ : ∃ W : Nat, ways = W := ⟨ways.toNat, by omega⟩
  have h2 : n = S * W := by have : ((S * W : Nat) : Int) = S * W := by push_cast; rfl
                            omega
  rw [h2]
  exact Nat.le_trans (Nat.mul_le_mul (show S ≤ 8 by omega) (show W ≤ 4 by omega)) (by omega)
set_option maxHeartbeats 64000000 in
theorem cvalid_walk (rs rw' rz : Int) (sr : Option Addr) (cr : Nat) (q0 : List Sw) (hcr : q0.length ≤ cr ∧ (sr = none → cr = 0)) (hrm : q0.length ≤ maxLen) (hrl : ∀ j, j < q0.length → (q0[j]!).x.n = (q0[j]!).s.ln.bs.length) (sa : Option Addr) (len cap : Nat) (hl : len ≤ maxLen) (what atv byv a1 a2 a3 : Int) (w : World) (hR : Lies w w.heap.size sr 6 q0.length (fun j => swC q0[j]!)) (hI : Ints w sa len) :
    Calls Try.prog 3 #[.agg #[.int .i64 rs, .int .i64 rw', .int .i64 rz, .slice sr q0.length cr], .slice sa len cap, .int .i64 what, .int .i64 atv, .int .i64 byv, .int .i64 a1, .int .i64 a2, .int .i64 a3] w (Gives (.bool true) w) := by
  have HI := Lib.hid hI
  have HR := Lib.hid hR
  have HRL := Lib.hid hrl
  have HCR := Lib.hid hcr
  clear hI hR hrl hcr
  have hli := light_any sa len cap hl
  clear hl
  have HAW := Lib.hid awake31_any
  by_cases h40 : q0.length ≤ 40
  · have h40i : ¬ ((40 : Int) < q0.length) := by omega
    by_cases h400 : len ≤ 400
    · rw [decide_eq_true h400] at hli
      have HLI := Lib.hid hli
      have H40 := Lib.hid h40
      clear hli h40 hrm
      go_enter Try.func3, Try.ntmps3
      have H := HS.start NoD w
      go_upto_region 1 with fail
      generalize hwb : w.alloc _ = w1
      replace H := HS.eqW hwb H.alloc
      try simp only [World.size_alloc, List.nil_append, List.cons_append, List.append_assoc] at H
      clear hwb
      generalize w.heap.size = b8 at H ⊢
      try clear C
      have C := H.cells
      try simp only [cellsOf, cellsM, apartOf, apartM, and_true] at C
      go_wp2_with fail
      refine (gives_of31 (HLI.out _)).mono ?_
      rintro _ w2 ⟨rfl, hb⟩
      replace H := H.below hb
      clear hb
      try clear C
      try simp only [World.size_alloc, List.nil_append, List.cons_append, List.append_assoc] at H
      try clear w1
      have C := H.cells
      try simp only [cellsOf, cellsM, apartOf, apartM, and_true] at C
      dsimp only
      clear h40i
      go_wp2_with fail
      refine (roll_at w.heap.size _ _ _ h400 _ H.size (H.ints HI.out)).mono ?_
      rintro _ w3 ⟨bd, rfl, hd, hb, hbb⟩
      replace H := H.getsDice hb hd hbb (Nat.le_refl _)
      clear hb hd hbb
      try clear C
      try simp only [World.size_alloc, List.nil_append, List.cons_append, List.append_assoc] at H
      try clear w2
      have C := H.cells
      try simp only [cellsOf, cellsM, apartOf, apartM, and_true] at C
      dsimp only
      go_wp2_with fail
      refine (mcache_f w.heap.size bd _ (H.at 1 rfl) H.size).mono ?_
      rintro _ w31 ⟨S, W, z, l, ⟨sc, nc, cc⟩, Fc, hS3, hz1, hz3, hg, rfl, K⟩
      replace H := H.joinDice 1 rfl K (one_low rfl)
      clear K
      try simp only [List.nil_append, List.cons_append] at H
      have HG := Lib.hid hg
      clear hS3 hz1 hz3 hg
      skip
      try clear C
      try simp only [World.size_alloc, List.nil_append, List.cons_append, List.append_assoc] at H
      have C := H.cells
      try simp only [cellsOf, cellsM, apartOf, apartM, and_true] at C
      dsimp only [caV]
      go_upto_region 4 with fail
      generalize hwb : w31.alloc _ = w4
      replace H := HS.eqW hwb H.alloc
      try simp only [World.size_alloc, List.nil_append, List.cons_append, List.append_assoc] at H
      clear hwb
      generalize w31.heap.size = b17 at H ⊢
      try clear C
      try clear w31
      have C := H.cells
      try simp only [cellsOf, cellsM, apartOf, apartM, and_true] at C
      go_wp2_with fail
      refine (r31copy_any S W z ⟨sc, nc, cc⟩ l HG.out.small _ (H.says 2 rfl)).mono ?_
      rintro _ w32 ⟨s2, c2, qs, F2, hqs, rfl, K⟩
      replace H := H.join K (two_low rfl rfl)
      clear K
      try simp only [List.nil_append, List.cons_append] at H
      skip
      try clear C
      try simp only [World.size_alloc, List.nil_append, List.cons_append, List.append_assoc] at H
      have C := H.cells
      try simp only [cellsOf, cellsM, apartOf, apartM, and_true] at C
      dsimp only [caV]
      have hql : qs.length = l.length := by rw [← hqs, List.length_map]
      have hpos : 0 < qs.length := by rw [hql, HG.out.len]; exact Nat.mul_pos HG.out.S1 HG.out.W1
      have h32 : qs.length ≤ 32 := by rw [hql]; exact HG.out.len32
      have HLN := Lib.hid (show ∀ j, j < qs.length → (qs[j]!).x.n = (qs[j]!).s.ln.bs.length from fun j hj => (H.says 5 rfl j hj).len)
      have hcap : qs.length ≤ c2 := (row_capOk (H.at 4 rfl)).1
      obtain ⟨g, capg, hv, -, -⟩ := World.ownsRow.form (H.at 4 rfl) (by omega)
      obtain ⟨rfl, -, rfl⟩ := Value.slice.inj hv
      have H32 := Lib.hid h32
      have HPOS := Lib.hid hpos
      have HC2 := Lib.hid hcap
      clear hv hqs hql hcap
      go_upto_region 5 with fail
      generalize hwb : w32.alloc _ = w5
      replace H := HS.eqW hwb H.alloc
      try simp only [World.size_alloc, List.nil_append, List.cons_append, List.append_assoc] at H
      clear hwb
      generalize w32.heap.size = b18 at H ⊢
      try clear C
      try clear w32
      have C := H.cells
      try simp only [cellsOf, cellsM, apartOf, apartM, and_true] at C
      have H9 := HS.less (L' := [.blk b8 #[.int .i64 rs, .int .i64 rw', .int .i64 rz, .slice sr q0.length cr] 24, .any Fc (fun w => SlotsAt w ⟨sc, nc, cc⟩ l), .blk b17 #[.int .i64 S, .int .i64 W, .int .i64 z, .slice sc nc cc] 24, rowS (some ⟨g, 0, none⟩) qs.length c2 qs, .blk b18 #[.int .i64 S, .int .i64 W, .int .i64 z, .slice (some ⟨g, 0, none⟩) qs.length c2] 24]) H (by repeat (first | exact .slnil | refine .cons_cons _ ?_ | refine .cons _ ?_))
      clear H C
      have H := H9
      clear H9
      try clear C
      try simp only [World.size_alloc, List.nil_append, List.cons_append, List.append_assoc] at H
      have C := H.cells
      try simp only [cellsOf, cellsM, apartOf, apartM, and_true] at C
      have HMA := Lib.hid (fun w => gives_of31 (mod_any atv (qs.length : Int) w))
      have hma := modF_in (n := atv) (m := (qs.length : Int)) (by omega) (by omega)
      generalize modF atv (qs.length : Int) = mi at HMA hma
      obtain ⟨i, rfl⟩ : ∃ i : Nat, mi = i := ⟨mi.toNat, by omega⟩
      have hiq : i < qs.length := by omega
      have hiqI : (i : Int) < qs.length := hma.2
      clear hma h32 hpos
      refine wp_region_xH (by kernel_rfl) (by kernel_rfl) (by kernel_rfl) (by kernel_rfl) (fun _ => False) (H) ?_
      clear H; intro w6 H hz0 hs0
      try clear C
      try simp only [World.size_alloc, List.nil_append, List.cons_append, List.append_assoc] at H hz0
      clear hz0
      try clear w5
      have C := H.cells
      try simp only [cellsOf, cellsM, apartOf, apartM, and_true] at C
      have Z := H.zs
      try simp only [ltsOf, ltsM, and_true] at Z
      have hz0 := Nat.le_refl w6.heap.size
      repeat (first | (refine wpX_skip rfl ?_; go_simp) | (refine wpX_free rfl rfl rfl (fun K hK => ?_); go_step; refine hK _ _ ?_; clear hK K) | (refine wpX_load rfl rfl rfl (by simp [Stay, OneD, NoD, *]) hs0 (by simp [*]) (fun K hK => ?_); go_step; refine hK _ _ ?_; clear hK K))
      refine wpX_eff rfl rfl (fun _ _ => ?_)
      go_step
      refine (HMA.out _).mono ?_
      rintro _ w7 ⟨rfl, hb⟩
      replace hs0 := hs0.belowS hz0 hb
      replace hz0 := Nat.le_trans hz0 hb.size
      replace H := H.below hb
      clear hb
      try clear C
      have C := H.cells
      try simp only [cellsOf, cellsM, apartOf, apartM, and_true] at C
      try clear w6
      dsimp only
      go_step
      refine ⟨hs0, ?_⟩
      repeat (first | (refine wpX_skip rfl ?_; go_simp) | (refine wpX_free rfl rfl rfl (fun K hK => ?_); go_step; refine hK _ _ ?_; clear hK K) | (refine wpX_load rfl rfl rfl (by simp [Stay, OneD, NoD, *]) hs0 (by simp [*]) (fun K hK => ?_); go_step; refine hK _ _ ?_; clear hK K))
      (refine wpX_nil ?_; go_step)
      clear HMA
      have HIQ := Lib.hid hiq
      have HM8 := Lib.hid (fun w => gives_of31 (mod_any what 8 w))
      have hHM8 := modF_in (n := what) (m := 8) (by decide) (by decide)
      generalize modF what 8 = mHM8 at HM8 hHM8
      have HRC := Lib.hid (fun (wx : World) (hr : wx.ownsRow 0 37 6 (.slice (some ⟨g, 0, none⟩) qs.length c2) qs.length (qs.flatMap swC)) => show ∀ m, m < 6 → g < wx.heap.size ∧ ∃ v, (swC qs[i]!)[m]? = some v ∧ wx.cell? ⟨g, i * 6 + m, none⟩ = some v ∧ wx.frozen? ⟨g, i * 6 + m, none⟩ = false from fun m hm => by
        have Hr := HS.startOwn hr
        have hq := HIQ.out
        have h1 := Hr.rowCells 0 rfl (i * 6 + m) (by omega)
        obtain ⟨v, hv⟩ : ∃ v, (swC qs[i]!)[m]? = some v := ⟨_, List.getElem?_eq_getElem (by rw [swC_len]; exact hm)⟩
        exact ⟨Item.lt (Hr.at 0 rfl) (k := g) rfl, v, hv, h1.1.trans (flat_get swC_len qs i m v HIQ.out hv), h1.2⟩)
      have hm8 : mHM8 = 0 ∨ mHM8 = 1 ∨ mHM8 = 2 ∨ mHM8 = 3 ∨ mHM8 = 4 ∨ mHM8 = 5 ∨ mHM8 = 6 ∨ mHM8 = 7 := by omega
      clear hHM8
      go_step
      go_step
      go_cut [] from 49 to 111 (fun wx => ∃ (X1 X2 X3 : Int) (n2 : Nat) (q2 : List Sw), n2 ≤ q2.length ∧ q2.length = qs.length ∧ Hid (∀ j, j < q2.length → (q2[j]!).x.n = (q2[j]!).s.ln.bs.length) ∧ HS NoD w [.blk b8 #[.int .i64 rs, .int .i64 rw', .int .i64 rz, .slice sr q0.length cr] 24, .any Fc (fun w => SlotsAt w ⟨sc, nc, cc⟩ l), .blk b17 #[.int .i64 S, .int .i64 W, .int .i64 z, .slice sc nc cc] 24, rowS (some ⟨g, 0, none⟩) qs.length c2 q2, .blk b18 #[.int .i64 X1, .int .i64 X2, .int .i64 X3, .slice (some ⟨g, 0, none⟩) n2 c2] 24] wx)
      case first =>
        go_wp2_with fail
        refine (HM8.out _).mono ?_
        rintro _ w8 ⟨rfl, hb⟩
        replace H := H.below hb
        clear hb
        try clear C
        try simp only [World.size_alloc, List.nil_append, List.cons_append, List.append_assoc] at H
        try clear w7
        have C := H.cells
        try simp only [cellsOf, cellsM, apartOf, apartM, and_true] at C
        dsimp only
        clear HM8
        rcases hm8 with rfl | rfl | rfl | rfl | rfl | rfl | rfl | rfl
        skip
        · have HM5 := Lib.hid (fun w => gives_of31 (mod_any byv 5 w))
          have hHM5 := modF_in (n := byv) (m := 5) (by decide) (by decide)
          generalize modF byv 5 = mHM5 at HM5 hHM5
          go_upto_region 8 with fail
          go_wp2_with fail
          refine (HM5.out _).mono ?_
          rintro _ w9 ⟨rfl, hb⟩
          replace H := H.below hb
          clear hb
          try clear C
          try simp only [World.size_alloc, List.nil_append, List.cons_append, List.append_assoc] at H
          try clear w8
          have C := H.cells
          try simp only [cellsOf, cellsM, apartOf, apartM, and_true] at C
          dsimp only
          obtain ⟨hgl, vv, hvv, kk, kkf⟩ := HRC.out _ (H.at 3 rfl) 1 (by omega)
          obtain rfl : .int .i64 (qs[i]!).s.age = vv := by simpa [swC] using hvv
          clear hvv
          go_wp2_with fail
          go_meet
          case rel =>
            have H9 := H.rowSet 3 rfl (i * 6 + 1) (.int .i64 (mHM5 - 1))
            simp only [List.set_cons_succ, List.set_cons_zero] at H9
            rw [sw_age qs i (mHM5 - 1) HIQ.out] at H9
            refine ⟨S, W, z, qs.length, _, ?_, ?_, ?_, HS.less H9 (by repeat (first | exact .slnil | refine .cons_cons _ ?_ | refine .cons _ ?_))⟩
            · rw [List.length_set]; exact Nat.le_refl _
            · exact List.length_set
            · exact lens_set HLN.out _ _ (HLN.out i HIQ.out)
        · skip
          obtain ⟨hgl, vv, hvv, kk, kkf⟩ := HRC.out _ (H.at 3 rfl) 0 (by omega)
          obtain rfl : .bool (qs[i]!).s.u = vv := by simpa [swC] using hvv
          clear hvv
          replace kk : w8.cell? ⟨g, i * 6, none⟩ = some (.bool (qs[i]!).s.u) := kk
          replace kkf : w8.frozen? ⟨g, i * 6, none⟩ = false := kkf
          obtain ⟨u, hu⟩ : ∃ u, u = (qs[i]!).s.u := ⟨_, rfl⟩
          rw [← hu] at kk
          have HUU := Lib.hid hu
          clear hu
          cases u
          case false =>
            go_wp2_with fail
            go_meet
            case rel =>
              have H9 := H.rowSet 3 rfl (i * 6) (.bool true)
              simp only [List.set_cons_succ, List.set_cons_zero] at H9
              rw [sw_used qs i true HIQ.out] at H9
              refine ⟨S, W, z, qs.length, _, ?_, ?_, ?_, HS.less H9 (by repeat (first | exact .slnil | refine .cons_cons _ ?_ | refine .cons _ ?_))⟩
              · rw [List.length_set]; exact Nat.le_refl _
              · exact List.length_set
              · exact lens_set HLN.out _ _ (HLN.out i HIQ.out)
          case true =>
            go_wp2_with fail
            go_meet
            case rel =>
              have H9 := H.rowSet 3 rfl (i * 6) (.bool false)
              simp only [List.set_cons_succ, List.set_cons_zero] at H9
              rw [sw_used qs i false HIQ.out] at H9
              refine ⟨S, W, z, qs.length, _, ?_, ?_, ?_, HS.less H9 (by repeat (first | exact .slnil | refine .cons_cons _ ?_ | refine .cons _ ?_))⟩
              · rw [List.length_set]; exact Nat.le_refl _
              · exact List.length_set
              · exact lens_set HLN.out _ _ (HLN.out i HIQ.out)
        · skip
          have HM14 := Lib.hid (fun w => gives_of31 (mod_any byv 14 w))
          have hHM14 := modF_in (n := byv) (m := 14) (by decide) (by decide)
          generalize modF byv 14 = mHM14 at HM14 hHM14
          go_upto_region 12 with fail
          go_wp2_with fail
          refine (HM14.out _).mono ?_
          rintro _ w10 ⟨rfl, hb⟩
          replace H := H.below hb
          clear hb
          try clear C
          try simp only [World.size_alloc, List.nil_append, List.cons_append, List.append_assoc] at H
          try clear w8
          have C := H.cells
          try simp only [cellsOf, cellsM, apartOf, apartM, and_true] at C
          dsimp only
          obtain ⟨hgl, vv, hvv, kk, kkf⟩ := HRC.out _ (H.at 3 rfl) 2 (by omega)
          obtain rfl : .int .i64 (qs[i]!).s.ln.ad = vv := by simpa [swC] using hvv
          clear hvv
          go_wp2_with fail
          go_meet
          case rel =>
            have H9 := H.rowSet 3 rfl (i * 6 + 2) (.int .i64 (mHM14 - 1))
            simp only [List.set_cons_succ, List.set_cons_zero] at H9
            rw [sw_ad qs i (mHM14 - 1) HIQ.out] at H9
            refine ⟨S, W, z, qs.length, _, ?_, ?_, ?_, HS.less H9 (by repeat (first | exact .slnil | refine .cons_cons _ ?_ | refine .cons _ ?_))⟩
            · rw [List.length_set]; exact Nat.le_refl _
            · exact List.length_set
            · exact lens_set HLN.out _ _ (HLN.out i HIQ.out)
        · skip
          have HM4 := Lib.hid (fun w => gives_of31 (mod_any byv 4 w))
          have hHM4 := modF_in (n := byv) (m := 4) (by decide) (by decide)
          generalize modF byv 4 = mHM4 at HM4 hHM4
          obtain ⟨k4, rfl⟩ : ∃ k : Nat, mHM4 = k := ⟨mHM4.toNat, by omega⟩
          have hk4 : k4 < 4 := by omega
          clear hHM4
          obtain ⟨ti, i1, i2, i3, i4⟩ := elemBy.hi
          go_upto_region 14 with fail
          go_wp2_with fail
          refine (HM4.out _).mono ?_
          rintro _ w11 ⟨rfl, hb⟩
          replace H := H.below hb
          clear hb
          try clear C
          try simp only [World.size_alloc, List.nil_append, List.cons_append, List.append_assoc] at H
          try clear w8
          have C := H.cells
          try simp only [cellsOf, cellsM, apartOf, apartM, and_true] at C
          dsimp only
          go_wp2_with (at_make; go_loud (refine wpList_make_full _ rfl (.tmp 82) (.tmp 82) 33 rfl w11.heap.size 5 ti _ 1 elemBy.ht i1 i2 i3 .i64 .i64 _ _ k4 rfl rfl rfl rfl (by rw [i4]; omega) (by unfold maxLen; omega) (Nat.le_refl _) (fun wm hm1 hm2 => ?_)); replace H := H.getsRow ((Below.refl _ _).grown hm2 (Nat.le_refl _) (fun k h => by cases h)) hm1; clear hm1 hm2; simp only [List.nil_append, List.cons_append] at H; clear C; have C := H.cells; simp only [cellsOf, cellsM, apartOf, apartM, and_true] at C; obtain ⟨hgl, vv, hvv, kk, kkf⟩ := HRC.out _ (H.at 3 rfl) 3 (by omega))
          go_meet
          case rel =>
            have H9 := H.rowSet 3 rfl (i * 6 + 3) (.slice (some ⟨w11.heap.size, 0, none⟩) k4 k4)
            simp only [List.set_cons_succ, List.set_cons_zero] at H9
            rw [show (qs.flatMap swC).set (i * 6 + 3) (.slice (some ⟨w11.heap.size, 0, none⟩) k4 k4) = _ from sw_data qs i ⟨some ⟨w11.heap.size, 0, none⟩, k4, k4⟩ (List.replicate k4 0) HIQ.out] at H9
            refine ⟨S, W, z, qs.length, _, ?_, ?_, ?_, HS.less H9 (by repeat (first | exact .slnil | refine .cons_cons _ ?_ | refine .cons _ ?_))⟩
            · rw [List.length_set]; exact Nat.le_refl _
            · exact List.length_set
            · exact lens_set HLN.out _ _ (by dsimp only; rw [List.length_replicate])
        · skip
          have HM := Lib.hid (fun w => gives_of31 (mod_any byv 10 w))
          have hHM := modF_in (n := byv) (m := 10) (by decide) (by decide)
          generalize modF byv 10 = mHM at HM hHM
          clear hHM
          go_upto_region 16 with fail
          go_wp2_with fail
          refine (HM.out _).mono ?_
          rintro _ w12 ⟨rfl, hb⟩
          replace H := H.below hb
          clear hb
          try clear C
          try simp only [World.size_alloc, List.nil_append, List.cons_append, List.append_assoc] at H
          try clear w8
          have C := H.cells
          try simp only [cellsOf, cellsM, apartOf, apartM, and_true] at C
          dsimp only
          go_wp2_with fail
          go_meet
          case rel => exact ⟨mHM, W, z, qs.length, qs, Nat.le_refl _, rfl, HLN, H.setTo (o := 0) (v := .int .i64 mHM) 4 rfl rfl⟩
        · skip
          have HM := Lib.hid (fun w => gives_of31 (mod_any byv 6 w))
          have hHM := modF_in (n := byv) (m := 6) (by decide) (by decide)
          generalize modF byv 6 = mHM at HM hHM
          clear hHM
          go_upto_region 18 with fail
          go_wp2_with fail
          refine (HM.out _).mono ?_
          rintro _ w13 ⟨rfl, hb⟩
          replace H := H.below hb
          clear hb
          try clear C
          try simp only [World.size_alloc, List.nil_append, List.cons_append, List.append_assoc] at H
          try clear w8
          have C := H.cells
          try simp only [cellsOf, cellsM, apartOf, apartM, and_true] at C
          dsimp only
          go_wp2_with fail
          go_meet
          case rel => exact ⟨S, mHM, z, qs.length, qs, Nat.le_refl _, rfl, HLN, H.setTo (o := 1) (v := .int .i64 mHM) 4 rfl rfl⟩
        · skip
          have HM := Lib.hid (fun w => gives_of31 (mod_any byv 34 w))
          have hHM := modF_in (n := byv) (m := 34) (by decide) (by decide)
          generalize modF byv 34 = mHM at HM hHM
          clear hHM
          go_upto_region 20 with fail
          go_wp2_with fail
          refine (HM.out _).mono ?_
          rintro _ w14 ⟨rfl, hb⟩
          replace H := H.below hb
          clear hb
          try clear C
          try simp only [World.size_alloc, List.nil_append, List.cons_append, List.append_assoc] at H
          try clear w8
          have C := H.cells
          try simp only [cellsOf, cellsM, apartOf, apartM, and_true] at C
          dsimp only
          go_wp2_with fail
          go_meet
          case rel => exact ⟨S, W, mHM, qs.length, qs, Nat.le_refl _, rfl, HLN, H.setTo (o := 2) (v := .int .i64 mHM) 4 rfl rfl⟩
        · skip
          have hn0 : (0 : Int) ≤ (qs.length : Int) - 1 := by have := HPOS.out; omega
          have hn1' : ((qs.length : Int) - 1).toNat = qs.length - 1 := by omega
          have hn2' : (qs.length : Int) - 1 ≤ c2 := by have := HC2.out; omega
          have hn3' : (qs.length : Int) ≤ 32 := by have := H32.out; omega
          go_wp2_with fail
          go_meet
          case rel => exact ⟨S, W, z, qs.length - 1, qs, Nat.sub_le _ _, rfl, HLN, H.setTo (o := 3) (v := .slice (some ⟨g, 0, none⟩) (qs.length - 1) c2) 4 rfl rfl⟩
      case rest =>
        clear H C HM8 hm8 HRC
        obtain ⟨X1, X2, X3, n2, q2, hn2, hN2, HLN2, H⟩ := hcut
        skip
        try clear C
        try simp only [World.size_alloc, List.nil_append, List.cons_append, List.append_assoc] at H
        have C := H.cells
        try simp only [cellsOf, cellsM, apartOf, apartM, and_true] at C
        have HBV := Lib.hid (both_valid X1 X2 X3 (g := g) (c := c2) hn2 hN2 (by have := H32.out; omega) HLN2.out HC2.out)
        obtain ⟨bv, HBV2⟩ := HBV.out
        have HBX := Lib.hid HBV2
        clear HBV HBV2 hn2 hN2 HLN2
        have HA := Lib.hid (fun w => gives_of31 (mod_any a1 11 w))
        have hHA := modF_in (n := a1) (m := 11) (by decide) (by decide)
        generalize modF a1 11 = mHA at HA hHA
        have HB := Lib.hid (fun w => gives_of31 (mod_any a2 7 w))
        have hHB := modF_in (n := a2) (m := 7) (by decide) (by decide)
        generalize modF a2 7 = mHB at HB hHB
        have HC := Lib.hid (fun w => gives_of31 (mod_any a3 35 w))
        have hHC := modF_in (n := a3) (m := 35) (by decide) (by decide)
        generalize modF a3 35 = mHC at HC hHC
        go_wp2_with fail
        refine (HA.out _).mono ?_
        rintro _ w15 ⟨rfl, hb⟩
        replace H := H.below hb
        clear hb
        try clear C
        try simp only [World.size_alloc, List.nil_append, List.cons_append, List.append_assoc] at H
        try clear wc
        have C := H.cells
        try simp only [cellsOf, cellsM, apartOf, apartM, and_true] at C
        dsimp only
        go_wp2_with fail
        refine (HB.out _).mono ?_
        rintro _ w16 ⟨rfl, hb⟩
        replace H := H.below hb
        clear hb
        try clear C
        try simp only [World.size_alloc, List.nil_append, List.cons_append, List.append_assoc] at H
        try clear w15
        have C := H.cells
        try simp only [cellsOf, cellsM, apartOf, apartM, and_true] at C
        dsimp only
        go_wp2_with fail
        refine (HC.out _).mono ?_
        rintro _ w17 ⟨rfl, hb⟩
        replace H := H.below hb
        clear hb
        try clear C
        try simp only [World.size_alloc, List.nil_append, List.cons_append, List.append_assoc] at H
        try clear w16
        have C := H.cells
        try simp only [cellsOf, cellsM, apartOf, apartM, and_true] at C
        dsimp only
        clear HA HB HC
        go_upto_region 24 with fail
        generalize hwb : w17.alloc _ = w18
        replace H := HS.eqW hwb H.alloc
        try simp only [World.size_alloc, List.nil_append, List.cons_append, List.append_assoc] at H
        clear hwb
        generalize w17.heap.size = bK at H ⊢
        try clear C
        try clear w17
        have C := H.cells
        try simp only [cellsOf, cellsM, apartOf, apartM, and_true] at C
        clear hHA hHB hHC
        go_loopw [128] (fun jj wr => ∃ (j : Nat), jj = .int .i64 j ∧ j ≤ 2 ∧ HS NoD w [.blk b8 #[.int .i64 rs, .int .i64 rw', .int .i64 rz, .slice sr q0.length cr] 24, .any Fc (fun w => SlotsAt w ⟨sc, nc, cc⟩ l), .blk b17 #[.int .i64 S, .int .i64 W, .int .i64 z, .slice sc nc cc] 24, rowS (some ⟨g, 0, none⟩) qs.length c2 q2, .blk b18 #[.int .i64 X1, .int .i64 X2, .int .i64 X3, .slice (some ⟨g, 0, none⟩) n2 c2] 24, .blk bK #[.int .i64 a1, .int .i64 a2, .int .i64 a3, .int .i64 (mHA - 1), .int .i64 (mHB - 1), .int .i64 (mHC - 1)] 39] wr) (fun jj _ => 2 - (intOf jj).toNat)
        case atStart => exact ⟨0, rfl, by omega, H⟩
        case round =>
          clear H C
          obtain ⟨j, rfl, hj, H⟩ := hrel
          skip
          try clear C
          try simp only [World.size_alloc, List.nil_append, List.cons_append, List.append_assoc] at H
          have C := H.cells
          try simp only [cellsOf, cellsM, apartOf, apartM, and_true] at C
          by_cases hlt2 : j < 2
          · have hj01 : j = 0 ∨ j = 1 := by omega
            rcases hj01 with rfl | rfl
            · skip
              go_upto_region 26 with fail
              generalize hwb : wr.alloc _ = w19
              replace H := HS.eqW hwb H.alloc
              try simp only [World.size_alloc, List.nil_append, List.cons_append, List.append_assoc] at H
              clear hwb
              generalize wr.heap.size = b21 at H ⊢
              try clear C
              try clear wr
              have C := H.cells
              try simp only [cellsOf, cellsM, apartOf, apartM, and_true] at C
              have HN1 := Lib.hid (fun w => cnew_any a1 a2 a3 w)
              have HN2' := Lib.hid (fun w => r31new_any a1 a2 a3 w)
              go_wp2_with fail
              refine (HN1.out _).mono ?_
              rintro _ w51 hnew
              clear HN1
              skip
              rcases hnew with ⟨hz0, rfl, K⟩ | ⟨hz0, s0, n0, hn0, rfl, K⟩
              · replace H := H.join K (fun X hX => nomatch hX)
                clear K
                try simp only [List.append_nil, List.nil_append, List.cons_append] at H
                try clear C
                try simp only [World.size_alloc, List.nil_append, List.cons_append, List.append_assoc] at H
                have C := H.cells
                try simp only [cellsOf, cellsM, apartOf, apartM, and_true] at C
                dsimp only
                go_upto_region 27 with fail
                generalize hwb : w51.alloc _ = w20
                replace H := HS.eqW hwb H.alloc
                try simp only [World.size_alloc, List.nil_append, List.cons_append, List.append_assoc] at H
                clear hwb
                generalize w51.heap.size = b22 at H ⊢
                try clear C
                try clear w51
                have C := H.cells
                try simp only [cellsOf, cellsM, apartOf, apartM, and_true] at C
                go_wp2_with fail
                refine (HN2'.out _).mono ?_
                rintro _ w52 hnew
                clear HN2'
                skip
                rcases hnew with ⟨hz1, rfl, K⟩ | ⟨hz1, -⟩
                case inr => rw [hz0] at hz1; cases hz1
                replace H := H.join K (fun X hX => nomatch hX)
                clear K hz0 hz1
                try simp only [List.append_nil, List.nil_append, List.cons_append] at H
                try clear C
                try simp only [World.size_alloc, List.nil_append, List.cons_append, List.append_assoc] at H
                have C := H.cells
                try simp only [cellsOf, cellsM, apartOf, apartM, and_true] at C
                dsimp only
                go_upto_region 28 with fail
                generalize hwb : w52.alloc _ = w21
                replace H := HS.eqW hwb H.alloc
                try simp only [World.size_alloc, List.nil_append, List.cons_append, List.append_assoc] at H
                clear hwb
                generalize w52.heap.size = b24 at H ⊢
                try clear C
                try clear w52
                have C := H.cells
                try simp only [cellsOf, cellsM, apartOf, apartM, and_true] at C
                have HSA := Lib.hid (fun wx => r31same_any 0 0 0 ⟨none, 0, 0⟩ ⟨none, 0, 0⟩ [] (Nat.zero_le _) wx (slots_nil wx) (slots_nil wx))
                go_wp2_with fail
                refine (HSA.out _).mono ?_
                rintro _ w22 ⟨rfl, hb⟩
                replace H := H.below hb
                clear hb
                try clear C
                try simp only [World.size_alloc, List.nil_append, List.cons_append, List.append_assoc] at H
                try clear w21
                have C := H.cells
                try simp only [cellsOf, cellsM, apartOf, apartM, and_true] at C
                dsimp only
                clear HSA
                go_wp2_with fail
                go_roundw
                case rel => exact ⟨0 + 1, by go_num, by omega, HS.less H (by repeat (first | exact .slnil | refine .cons_cons _ ?_ | refine .cons _ ?_))⟩
                case measure => simp [intOf]
              · skip
                have HB1 := H.done.size
                replace H := H.join K (one_low rfl)
                clear K
                try simp only [List.append_nil, List.nil_append, List.cons_append] at H
                try clear C
                try simp only [World.size_alloc, List.nil_append, List.cons_append, List.append_assoc] at H
                have C := H.cells
                try simp only [cellsOf, cellsM, apartOf, apartM, and_true] at C
                dsimp only
                go_upto_region 27 with fail
                generalize hwb : w51.alloc _ = w23
                replace H := HS.eqW hwb H.alloc
                try simp only [World.size_alloc, List.nil_append, List.cons_append, List.append_assoc] at H
                clear hwb
                generalize w51.heap.size = b22 at H ⊢
                try clear C
                try clear w51
                have C := H.cells
                try simp only [cellsOf, cellsM, apartOf, apartM, and_true] at C
                go_wp2_with fail
                refine (HN2'.out _).mono ?_
                rintro _ w52 hnew
                clear HN2'
                skip
                rcases hnew with ⟨hz1, -⟩ | ⟨hz1, s1, n1, hn1, rfl, K⟩
                · rw [hz0] at hz1; cases hz1
                obtain rfl : n1 = n0 := by omega
                replace H := H.join K (one_low rfl)
                clear K
                try simp only [List.append_nil, List.nil_append, List.cons_append] at H
                have hn32 := new_len hz0 hn0
                have HN32 := Lib.hid hn32
                clear hz0 hz1 hn0 hn1 hn32
                try clear C
                try simp only [World.size_alloc, List.nil_append, List.cons_append, List.append_assoc] at H
                have C := H.cells
                try simp only [cellsOf, cellsM, apartOf, apartM, and_true] at C
                dsimp only
                go_upto_region 28 with fail
                generalize hwb : w52.alloc _ = w24
                replace H := HS.eqW hwb H.alloc
                try simp only [World.size_alloc, List.nil_append, List.cons_append, List.append_assoc] at H
                clear hwb
                generalize w52.heap.size = b24 at H ⊢
                try clear C
                try clear w52
                have C := H.cells
                try simp only [cellsOf, cellsM, apartOf, apartM, and_true] at C
                have HSA := Lib.hid (fun (x y : Sv) wx hx hy => r31same_any a1 a2 a3 x y (List.replicate n1 zSm) (by rw [List.length_replicate]; have := HN32.out; omega) wx hx hy)
                go_wp2_with fail
                refine (HSA.out ⟨s0, n1, n1⟩ ⟨s1, n1, n1⟩ _ (new_at (H.at 7 rfl)) (new_at (H.at 9 rfl))).mono ?_
                rintro _ w25 ⟨rfl, hb⟩
                replace H := H.below hb
                clear hb
                try clear C
                try simp only [World.size_alloc, List.nil_append, List.cons_append, List.append_assoc] at H
                try clear w24
                have C := H.cells
                try simp only [cellsOf, cellsM, apartOf, apartM, and_true] at C
                dsimp only
                clear HSA
                go_wp2_with fail
                go_roundw
                case rel => exact ⟨0 + 1, by go_num, by omega, HS.less H (by repeat (first | exact .slnil | refine .cons_cons _ ?_ | refine .cons _ ?_))⟩
                case measure => simp [intOf]
            · skip
              skip
              go_upto_region 26 with fail
              generalize hwb : wr.alloc _ = w26
              replace H := HS.eqW hwb H.alloc
              try simp only [World.size_alloc, List.nil_append, List.cons_append, List.append_assoc] at H
              clear hwb
              generalize wr.heap.size = b21 at H ⊢
              try clear C
              try clear wr
              have C := H.cells
              try simp only [cellsOf, cellsM, apartOf, apartM, and_true] at C
              have HN1 := Lib.hid (fun w => cnew_any (mHA - 1) (mHB - 1) (mHC - 1) w)
              have HN2' := Lib.hid (fun w => r31new_any (mHA - 1) (mHB - 1) (mHC - 1) w)
              go_wp2_with fail
              refine (HN1.out _).mono ?_
              rintro _ w51 hnew
              clear HN1
              skip
              rcases hnew with ⟨hz0, rfl, K⟩ | ⟨hz0, s0, n0, hn0, rfl, K⟩
              · replace H := H.join K (fun X hX => nomatch hX)
                clear K
                try simp only [List.append_nil, List.nil_append, List.cons_append] at H
                try clear C
                try simp only [World.size_alloc, List.nil_append, List.cons_append, List.append_assoc] at H
                have C := H.cells
                try simp only [cellsOf, cellsM, apartOf, apartM, and_true] at C
                dsimp only
                go_upto_region 27 with fail
                generalize hwb : w51.alloc _ = w27
                replace H := HS.eqW hwb H.alloc
                try simp only [World.size_alloc, List.nil_append, List.cons_append, List.append_assoc] at H
                clear hwb
                generalize w51.heap.size = b22 at H ⊢
                try clear C
                try clear w51
                have C := H.cells
                try simp only [cellsOf, cellsM, apartOf, apartM, and_true] at C
                go_wp2_with fail
                refine (HN2'.out _).mono ?_
                rintro _ w52 hnew
                clear HN2'
                skip
                rcases hnew with ⟨hz1, rfl, K⟩ | ⟨hz1, -⟩
                case inr => rw [hz0] at hz1; cases hz1
                replace H := H.join K (fun X hX => nomatch hX)
                clear K hz0 hz1
                try simp only [List.append_nil, List.nil_append, List.cons_append] at H
                try clear C
                try simp only [World.size_alloc, List.nil_append, List.cons_append, List.append_assoc] at H
                have C := H.cells
                try simp only [cellsOf, cellsM, apartOf, apartM, and_true] at C
                dsimp only
                go_upto_region 28 with fail
                generalize hwb : w52.alloc _ = w28
                replace H := HS.eqW hwb H.alloc
                try simp only [World.size_alloc, List.nil_append, List.cons_append, List.append_assoc] at H
                clear hwb
                generalize w52.heap.size = b24 at H ⊢
                try clear C
                try clear w52
                have C := H.cells
                try simp only [cellsOf, cellsM, apartOf, apartM, and_true] at C
                have HSA := Lib.hid (fun wx => r31same_any 0 0 0 ⟨none, 0, 0⟩ ⟨none, 0, 0⟩ [] (Nat.zero_le _) wx (slots_nil wx) (slots_nil wx))
                go_wp2_with fail
                refine (HSA.out _).mono ?_
                rintro _ w29 ⟨rfl, hb⟩
                replace H := H.below hb
                clear hb
                try clear C
                try simp only [World.size_alloc, List.nil_append, List.cons_append, List.append_assoc] at H
                try clear w28
                have C := H.cells
                try simp only [cellsOf, cellsM, apartOf, apartM, and_true] at C
                dsimp only
                clear HSA
                go_wp2_with fail
                go_roundw
                case rel => exact ⟨1 + 1, by go_num, by omega, HS.less H (by repeat (first | exact .slnil | refine .cons_cons _ ?_ | refine .cons _ ?_))⟩
                case measure => simp [intOf]
              · skip
                have HB1 := H.done.size
                replace H := H.join K (one_low rfl)
                clear K
                try simp only [List.append_nil, List.nil_append, List.cons_append] at H
                try clear C
                try simp only [World.size_alloc, List.nil_append, List.cons_append, List.append_assoc] at H
                have C := H.cells
                try simp only [cellsOf, cellsM, apartOf, apartM, and_true] at C
                dsimp only
                go_upto_region 27 with fail
                generalize hwb : w51.alloc _ = w30
                replace H := HS.eqW hwb H.alloc
                try simp only [World.size_alloc, List.nil_append, List.cons_append, List.append_assoc] at H
                clear hwb
                generalize w51.heap.size = b22 at H ⊢
                try clear C
                try clear w51
                have C := H.cells
                try simp only [cellsOf, cellsM, apartOf, apartM, and_true] at C
                go_wp2_with fail
                refine (HN2'.out _).mono ?_
                rintro _ w52 hnew
                clear HN2'
                skip
                rcases hnew with ⟨hz1, -⟩ | ⟨hz1, s1, n1, hn1, rfl, K⟩
                · rw [hz0] at hz1; cases hz1
                obtain rfl : n1 = n0 := by omega
                replace H := H.join K (one_low rfl)
                clear K
                try simp only [List.append_nil, List.nil_append, List.cons_append] at H
                have hn32 := new_len hz0 hn0
                have HN32 := Lib.hid hn32
                clear hz0 hz1 hn0 hn1 hn32
                try clear C
                try simp only [World.size_alloc, List.nil_append, List.cons_append, List.append_assoc] at H
                have C := H.cells
                try simp only [cellsOf, cellsM, apartOf, apartM, and_true] at C
                dsimp only
                go_upto_region 28 with fail
                generalize hwb : w52.alloc _ = w31
                replace H := HS.eqW hwb H.alloc
                try simp only [World.size_alloc, List.nil_append, List.cons_append, List.append_assoc] at H
                clear hwb
                generalize w52.heap.size = b24 at H ⊢
                try clear C
                try clear w52
                have C := H.cells
                try simp only [cellsOf, cellsM, apartOf, apartM, and_true] at C
                have HSA := Lib.hid (fun (x y : Sv) wx hx hy => r31same_any (mHA - 1) (mHB - 1) (mHC - 1) x y (List.replicate n1 zSm) (by rw [List.length_replicate]; have := HN32.out; omega) wx hx hy)
                go_wp2_with fail
                refine (HSA.out ⟨s0, n1, n1⟩ ⟨s1, n1, n1⟩ _ (new_at (H.at 7 rfl)) (new_at (H.at 9 rfl))).mono ?_
                rintro _ w32 ⟨rfl, hb⟩
                replace H := H.below hb
                clear hb
                try clear C
                try simp only [World.size_alloc, List.nil_append, List.cons_append, List.append_assoc] at H
                try clear w31
                have C := H.cells
                try simp only [cellsOf, cellsM, apartOf, apartM, and_true] at C
                dsimp only
                clear HSA
                go_wp2_with fail
                go_roundw
                case rel => exact ⟨1 + 1, by go_num, by omega, HS.less H (by repeat (first | exact .slnil | refine .cons_cons _ ?_ | refine .cons _ ?_))⟩
                case measure => simp [intOf]
          · obtain rfl : j = 2 := by omega
            skip
            have HRA := Lib.hid (fun wx hl => (show Calls Try.prog 17 #[.agg #[.int .i64 rs, .int .i64 rw', .int .i64 rz, .slice sr q0.length cr]] wx (Gives (.bool (validB rs rw' rz (q0.map Sw.s))) wx) from cvalid_any rs rw' rz ⟨sr, q0.length, cr⟩ q0 rfl HCR.out (by have := H40.out; omega) HRL.out wx hl))
            have HRB := Lib.hid (fun wx hl => (show Calls Try.prog 18 #[.agg #[.int .i64 rs, .int .i64 rw', .int .i64 rz, .slice sr q0.length cr]] wx (Gives (.bool (validB rs rw' rz (q0.map Sw.s))) wx) from r31valid_any rs rw' rz ⟨sr, q0.length, cr⟩ q0 rfl HCR.out (by have := H40.out; omega) HRL.out wx hl))
            generalize validB rs rw' rz (q0.map Sw.s) = vr at HRA HRB
            have hbb : (bv == bv) = true := by cases bv <;> rfl
            have hrr : (vr == vr) = true := by cases vr <;> rfl
            go_upto_region 31 with fail
            refine wp_region_xH (by kernel_rfl) (by kernel_rfl) (by kernel_rfl) (by kernel_rfl) (fun _ => False) (H) ?_
            clear H; intro w33 H hz0 hs0
            try clear C
            try simp only [World.size_alloc, List.nil_append, List.cons_append, List.append_assoc] at H hz0
            clear hz0
            try clear wr
            have C := H.cells
            try simp only [cellsOf, cellsM, apartOf, apartM, and_true] at C
            have Z := H.zs
            try simp only [ltsOf, ltsM, and_true] at Z
            have hz0 := Nat.le_refl w33.heap.size
            repeat (first | (refine wpX_skip rfl ?_; go_simp) | (refine wpX_free rfl rfl rfl (fun K hK => ?_); go_step; refine hK _ _ ?_; clear hK K) | (refine wpX_load rfl rfl rfl (by simp [Stay, OneD, NoD, *]) hs0 (by simp [*]) (fun K hK => ?_); go_step; refine hK _ _ ?_; clear hK K))
            refine wpX_eff rfl rfl (fun _ _ => ?_)
            go_step
            refine (cvalid_f HG.out ⟨sc, nc, cc⟩ _ (H.says 1 rfl)).mono ?_
            rintro _ w34 ⟨rfl, hb⟩
            replace hs0 := hs0.belowS hz0 hb
            replace hz0 := Nat.le_trans hz0 hb.size
            replace H := H.below hb
            clear hb
            try clear C
            have C := H.cells
            try simp only [cellsOf, cellsM, apartOf, apartM, and_true] at C
            try clear w33
            dsimp only
            go_step
            refine ⟨hs0, ?_⟩
            repeat (first | (refine wpX_skip rfl ?_; go_simp) | (refine wpX_free rfl rfl rfl (fun K hK => ?_); go_step; refine hK _ _ ?_; clear hK K) | (refine wpX_load rfl rfl rfl (by simp [Stay, OneD, NoD, *]) hs0 (by simp [*]) (fun K hK => ?_); go_step; refine hK _ _ ?_; clear hK K))
            refine wpX_eff rfl rfl (fun _ _ => ?_)
            go_step
            refine ((HBX.out _ (H.at 3 rfl)).1).mono ?_
            rintro _ w35 ⟨rfl, hb⟩
            replace hs0 := hs0.belowS hz0 hb
            replace hz0 := Nat.le_trans hz0 hb.size
            replace H := H.below hb
            clear hb
            try clear C
            have C := H.cells
            try simp only [cellsOf, cellsM, apartOf, apartM, and_true] at C
            try clear w34
            dsimp only
            go_step
            refine ⟨hs0, ?_⟩
            repeat (first | (refine wpX_skip rfl ?_; go_simp) | (refine wpX_free rfl rfl rfl (fun K hK => ?_); go_step; refine hK _ _ ?_; clear hK K) | (refine wpX_load rfl rfl rfl (by simp [Stay, OneD, NoD, *]) hs0 (by simp [*]) (fun K hK => ?_); go_step; refine hK _ _ ?_; clear hK K))
            refine wpX_eff rfl rfl (fun _ _ => ?_)
            go_step
            refine ((HBX.out _ (H.at 3 rfl)).2).mono ?_
            rintro _ w36 ⟨rfl, hb⟩
            replace hs0 := hs0.belowS hz0 hb
            replace hz0 := Nat.le_trans hz0 hb.size
            replace H := H.below hb
            clear hb
            try clear C
            have C := H.cells
            try simp only [cellsOf, cellsM, apartOf, apartM, and_true] at C
            try clear w35
            dsimp only
            go_step
            refine ⟨hs0, ?_⟩
            repeat (first | (refine wpX_skip rfl ?_; go_simp) | (refine wpX_free rfl rfl rfl (fun K hK => ?_); go_step; refine hK _ _ ?_; clear hK K) | (refine wpX_load rfl rfl rfl (by simp [Stay, OneD, NoD, *]) hs0 (by simp [*]) (fun K hK => ?_); go_step; refine hK _ _ ?_; clear hK K))
            refine wpX_eff rfl rfl (fun _ _ => ?_)
            go_step
            refine (HRA.out _ (H.liesUp HR.out)).mono ?_
            rintro _ w37 ⟨rfl, hb⟩
            replace hs0 := hs0.belowS hz0 hb
            replace hz0 := Nat.le_trans hz0 hb.size
            replace H := H.below hb
            clear hb
            try clear C
            have C := H.cells
            try simp only [cellsOf, cellsM, apartOf, apartM, and_true] at C
            try clear w36
            dsimp only
            go_step
            refine ⟨hs0, ?_⟩
            repeat (first | (refine wpX_skip rfl ?_; go_simp) | (refine wpX_free rfl rfl rfl (fun K hK => ?_); go_step; refine hK _ _ ?_; clear hK K) | (refine wpX_load rfl rfl rfl (by simp [Stay, OneD, NoD, *]) hs0 (by simp [*]) (fun K hK => ?_); go_step; refine hK _ _ ?_; clear hK K))
            refine wpX_eff rfl rfl (fun _ _ => ?_)
            go_step
            refine (HRB.out _ (H.liesUp HR.out)).mono ?_
            rintro _ w38 ⟨rfl, hb⟩
            replace hs0 := hs0.belowS hz0 hb
            replace hz0 := Nat.le_trans hz0 hb.size
            replace H := H.below hb
            clear hb
            try clear C
            have C := H.cells
            try simp only [cellsOf, cellsM, apartOf, apartM, and_true] at C
            try clear w37
            dsimp only
            go_step
            refine ⟨hs0, ?_⟩
            repeat (first | (refine wpX_skip rfl ?_; go_simp) | (refine wpX_free rfl rfl rfl (fun K hK => ?_); go_step; refine hK _ _ ?_; clear hK K) | (refine wpX_load rfl rfl rfl (by simp [Stay, OneD, NoD, *]) hs0 (by simp [*]) (fun K hK => ?_); go_step; refine hK _ _ ?_; clear hK K))
            refine wpX_eff rfl rfl (fun _ _ => ?_)
            go_step
            refine (HAW.out _).mono ?_
            rintro _ w39 ⟨rfl, hb⟩
            replace hs0 := hs0.belowS hz0 hb
            replace hz0 := Nat.le_trans hz0 hb.size
            replace H := H.below hb
            clear hb
            try clear C
            have C := H.cells
            try simp only [cellsOf, cellsM, apartOf, apartM, and_true] at C
            try clear w38
            dsimp only
            go_step
            refine ⟨hs0, ?_⟩
            repeat (first | (refine wpX_skip rfl ?_; go_simp) | (refine wpX_free rfl rfl rfl (fun K hK => ?_); go_step; refine hK _ _ ?_; clear hK K) | (refine wpX_load rfl rfl rfl (by simp [Stay, OneD, NoD, *]) hs0 (by simp [*]) (fun K hK => ?_); go_step; refine hK _ _ ?_; clear hK K))
            (refine wpX_nil ?_; go_step)
            go_wp2_with fail
            go_ret
            exact ⟨rfl, H.done⟩
    · rw [decide_eq_false h400] at hli
      have HLI := Lib.hid hli
      clear hli
      go_enter Try.func3, Try.ntmps3
      have H := HS.start NoD w
      go_upto_region 1 with fail
      generalize hwb : w.alloc _ = w1
      replace H := HS.eqW hwb H.alloc
      try simp only [World.size_alloc, List.nil_append, List.cons_append, List.append_assoc] at H
      clear hwb
      generalize w.heap.size = b8 at H ⊢
      try clear C
      have C := H.cells
      try simp only [cellsOf, cellsM, apartOf, apartM, and_true] at C
      go_wp2_with fail
      refine (gives_of31 (HLI.out _)).mono ?_
      rintro _ w2 ⟨rfl, hb⟩
      replace H := H.below hb
      clear hb
      try clear C
      try simp only [World.size_alloc, List.nil_append, List.cons_append, List.append_assoc] at H
      try clear w1
      have C := H.cells
      try simp only [cellsOf, cellsM, apartOf, apartM, and_true] at C
      dsimp only
      go_wp2_with fail
      refine (HAW.out _).mono ?_
      rintro _ w3 ⟨rfl, hb⟩
      replace H := H.below hb
      clear hb
      try clear C
      try simp only [World.size_alloc, List.nil_append, List.cons_append, List.append_assoc] at H
      try clear w2
      have C := H.cells
      try simp only [cellsOf, cellsM, apartOf, apartM, and_true] at C
      dsimp only
      go_wp2_with fail
      go_ret
      exact ⟨rfl, H.done⟩
  · have h40i : (40 : Int) < q0.length := by omega
    go_enter Try.func3, Try.ntmps3
    have H := HS.start NoD w
    go_upto_region 1 with fail
    generalize hwb : w.alloc _ = w1
    replace H := HS.eqW hwb H.alloc
    try simp only [World.size_alloc, List.nil_append, List.cons_append, List.append_assoc] at H
    clear hwb
    generalize w.heap.size = b8 at H ⊢
    try clear C
    have C := H.cells
    try simp only [cellsOf, cellsM, apartOf, apartM, and_true] at C
    go_wp2_with fail
    refine (HAW.out _).mono ?_
    rintro _ w2 ⟨rfl, hb⟩
    replace H := H.below hb
    clear hb
    try clear C
    try simp only [World.size_alloc, List.nil_append, List.cons_append, List.append_assoc] at H
    try clear w1
    have C := H.cells
    try simp only [cellsOf, cellsM, apartOf, apartM, and_true] at C
    dsimp only
    go_wp2_with fail
    go_ret
    exact ⟨rfl, H.done⟩
end Go.Proofs.Ytfmcicmbehjdcaa
