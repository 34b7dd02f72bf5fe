/- The statement PlanScaled: its walk. -/
import Derived.Test.YtdhnpjgnnfgklaaPlY
namespace Go.Proofs.Ytdhnpjgnnfgklaa
set_option linter.unusedSimpArgs false
set_option linter.unusedVariables false
open Go.RowKit
set_option maxRecDepth 100000
attribute [local irreducible] wpX wpF Calls
attribute [local go_sem] run_mkMapG

set_option maxHeartbeats 64000000 in
theorem pscaled_walk (sa : Option Addr) (len cap : Nat) (hl : len ≤ maxLen) (n1 n2 : Int) (w : World) (hI : Ints w sa len) :
    Calls Try.prog 4 #[.slice sa len cap, .int .i64 n1, .int .i64 n2] w (Gives (.bool true) w) := by
  have HI := Lib.hid hI
  clear hI
  have hli := light_any sa len cap hl
  clear hl
  have HAW := Lib.hid awake39_any
  by_cases h400 : len ≤ 400
  · rw [decide_eq_true h400] at hli
    have HLI := Lib.hid hli
    clear hli
    go_enter Try.func4, Try.ntmps4
    have H := HS.start NoD w
    go_wp2_with fail
    refine (gives_of39 (HLI.out _)).mono ?_
    rintro _ w1 ⟨rfl, hb⟩
    replace H := H.below hb
    clear hb
    try clear C
    try simp only [World.size_alloc, List.nil_append, List.cons_append, List.append_assoc] at H
    have C := H.cells
    try simp only [cellsOf, cellsM, apartOf, apartM, and_true] at C
    dsimp only
    go_wp2_with fail
    refine (roll_at w.heap.size _ _ _ h400 _ H.size (H.ints HI.out)).mono ?_
    rintro _ w2 ⟨bd, rfl, hd, hb, hbb⟩
    replace H := H.getsDice hb hd hbb (Nat.le_refl _)
    clear hb hd hbb
    try clear C
    try simp only [World.size_alloc, List.nil_append, List.cons_append, List.append_assoc] at H
    try clear w1
    have C := H.cells
    try simp only [cellsOf, cellsM, apartOf, apartM, and_true] at C
    dsimp only
    go_wp2_with fail
    refine (mshape_any w.heap.size bd _ (H.at 0 rfl) H.size).mono ?_
    rintro _ w3 ⟨s0, s1, s2, s4, rfl, hms, hd, hg⟩
    replace H := (H).diceAt 0 rfl hg hd
    clear hg hd
    try clear C
    try simp only [World.size_alloc, List.nil_append, List.cons_append, List.append_assoc] at H
    try clear w2
    have C := H.cells
    try simp only [cellsOf, cellsM, apartOf, apartM, and_true] at C
    dsimp only
    have HSV := Lib.hid hms.sv
    clear hms
    go_upto_region 5 with fail
    generalize hwb : w3.alloc _ = w4
    replace H := HS.eqW hwb H.alloc
    try simp only [World.size_alloc, List.nil_append, List.cons_append, List.append_assoc] at H
    clear hwb
    generalize w3.heap.size = bS at H ⊢
    try clear C
    try clear w3
    have C := H.cells
    try simp only [cellsOf, cellsM, apartOf, apartM, and_true] at C
    go_wp2_with fail
    refine (mneeds_any HSV.out w.heap.size bd _ (H.at 0 rfl) H.size).mono ?_
    rintro _ w42 ⟨l, s7, c7, rfl, hok, hl8, K⟩
    replace H := H.joinDice 0 rfl K (one_low rfl)
    clear K
    try simp only [List.nil_append, List.cons_append] at H
    skip
    try clear C
    try simp only [World.size_alloc, List.nil_append, List.cons_append, List.append_assoc] at H
    have C := H.cells
    try simp only [cellsOf, cellsM, apartOf, apartM, and_true] at C
    dsimp only
    have HOK := Lib.hid hok
    have HVL := Lib.hid (hok.valid HSV.out hl8)
    have hc7 : l.length ≤ c7 := row_capN (H.at 2 rfl)
    clear hok
    have hnr := H.nilRow 41 7
    clear H
    have H := hnr
    clear hnr
    try simp only [List.nil_append, List.cons_append] at H
    try clear C
    try simp only [World.size_alloc, List.nil_append, List.cons_append, List.append_assoc] at H
    have C := H.cells
    try simp only [cellsOf, cellsM, apartOf, apartM, and_true] at C
    have HND := Lib.hid (ndC_one l)
    go_upto_region 7 with (at_builtin; refine wpList_apX rfl (.const (.slice none 0 0)) (.tmp 29) 30 rfl elemNd H 3 rfl rfl rfl (src_rowN (H.at 2 rfl)) (flat_len ndC_len l) HND.out (by unfold maxLen; omega) (by omega) (N := l.length) (by omega) (fun s10 c10 w22 HZ hg => ?_); clear H C hg; replace HZ := HZ; simp only [List.nil_append, List.cons_append, List.append_assoc, List.set_cons_succ, List.set_cons_zero] at HZ; have H := HZ; clear HZ; have C := H.cells; simp only [cellsOf, cellsM, apartOf, apartM, and_true] at C)
    have H9 := HS.less (L' := [.blk bS #[.int .i64 s0, .int .i64 s1, .int .i64 s2, .int .i64 1, .int .i64 s4, .int .i64 2] 28, .row (.slice s7 l.length c7) 41 7 l.length (l.flatMap ndC), .row (.slice s10 l.length c10) 41 7 l.length (l.flatMap ndC)]) H (by repeat (first | exact .slnil | refine .cons_cons _ ?_ | refine .cons _ ?_))
    clear H C HND
    have H := H9
    clear H9
    skip
    try clear C
    try simp only [World.size_alloc, List.nil_append, List.cons_append, List.append_assoc] at H
    have C := H.cells
    try simp only [cellsOf, cellsM, apartOf, apartM, and_true] at C
    go_wp2_with fail
    go_loopw [33] (fun jj wr => ∃ (k : Nat) (ys : List Nd), jj = .int .i64 k ∧ k ≤ l.length ∧ Hid (ys = (l.take k).map dbl ++ l.drop k) ∧ HS NoD w [.blk bS #[.int .i64 s0, .int .i64 s1, .int .i64 s2, .int .i64 1, .int .i64 s4, .int .i64 2] 28, .row (.slice s7 l.length c7) 41 7 l.length (l.flatMap ndC), .row (.slice s10 l.length c10) 41 7 l.length (ys.flatMap ndC)] wr) (fun jj _ => l.length - (intOf jj).toNat)
    case atStart => exact ⟨0, l, rfl, Nat.zero_le _, (show Hid _ from by simp; trivial), H⟩
    case round =>
      clear H C
      obtain ⟨k, ys, rfl, hk, HY, H⟩ := hrel
      skip
      try clear C
      try simp only [World.size_alloc, List.nil_append, List.cons_append, List.append_assoc] at H
      have C := H.cells
      try simp only [cellsOf, cellsM, apartOf, apartM, and_true] at C
      by_cases hlt : k < l.length
      · have hki : (k : Int) < l.length := by omega
        obtain ⟨g, c9, hv, -, -⟩ := World.ownsRow.form (H.at 2 rfl) (by omega)
        obtain ⟨rfl, -, rfl⟩ := Value.slice.inj hv
        clear hv
        have hyl : ys.length = l.length := by rw [HY.out]; simp; omega
        have hyk : ys[k]! = l[k]! := by rw [HY.out]; exact dblK_at hlt
        have hys : ys.set k (dbl l[k]!) = (l.take (k + 1)).map dbl ++ l.drop (k + 1) := by rw [HY.out]; exact dblK_set hlt
        have hk9 := H.rowCells 2 rfl (k * 7 + 6) (by omega)
        have hkc : wr.cell? ⟨g, k * 7 + 6, none⟩ = some (.int .i64 l[k]!.loss) := hk9.1.trans (by rw [flat_get ndC_len ys k 6 (.int .i64 ys[k]!.loss) (by omega) rfl, hyk])
        have hkf : wr.frozen? ⟨g, k * 7 + 6, none⟩ = false := hk9.2
        have hg9 : g < wr.heap.size := Item.lt (H.at 2 rfl) (k := g) rfl
        have hlo : 0 ≤ l[k]!.loss ∧ l[k]!.loss ≤ 999 := by have h := HOK.out k hlt; unfold goodN at h; exact ⟨h.1.2.2.1, h.2⟩
        have HNX := Lib.hid (show (ys.flatMap ndC).set (k * 7 + 6) (.int .i64 (l[k]!.loss * 2)) = (ys.set k (dbl l[k]!)).flatMap ndC from by rw [set_loss ys k _ (by omega), hyk]; rfl)
        have HYS := Lib.hid hys
        generalize l[k]!.loss = q at hkc hlo HNX
        clear hk9 hyl hyk hys
        go_upto_region 11 with fail
        generalize hwb : World.setCell _ _ _ = w71
        have H9 := HS.eqW hwb (H.rowSet 2 rfl (k * 7 + 6) (.int .i64 (q * 2)))
        clear H C hwb hkc hkf hg9
        simp only [List.set_cons_succ, List.set_cons_zero] at H9
        rw [HNX.out] at H9
        have H := H9
        clear H9
        skip
        try clear C
        try simp only [World.size_alloc, List.nil_append, List.cons_append, List.append_assoc] at H
        have C := H.cells
        try simp only [cellsOf, cellsM, apartOf, apartM, and_true] at C
        go_wp2_with fail
        go_roundw
        case rel => exact ⟨k + 1, _, by go_num, by omega, (show Hid _ from HYS.out), H⟩
        case measure => simp [intOf]; omega
      · skip
        have hkl : k = l.length := by omega
        subst hkl
        have hyy : ys = l.map dbl := by rw [HY.out]; simp
        subst hyy
        clear HY hlt hk
        have hc10 : (l.map dbl).length ≤ c10 := by rw [List.length_map]; exact row_capN (H.at 2 rfl)
        obtain ⟨x1, hx1⟩ : ∃ x, x = modF n1 4 := ⟨_, rfl⟩
        obtain ⟨x2, hx2⟩ : ∃ x, x = modF n2 3 := ⟨_, rfl⟩
        have hb1 : 0 ≤ x1 ∧ x1 ≤ 12 := by have := modF_in (n := n1) (m := 4) (by omega) (by omega); omega
        have hb2 : 0 ≤ x2 ∧ x2 ≤ 12 := by have := modF_in (n := n2) (m := 3) (by omega) (by omega); omega
        have HM1 := Lib.hid (fun w => gives_of39 (mod_any n1 4 w))
        have HM2 := Lib.hid (fun w => gives_of39 (mod_any n2 3 w))
        rw [← hx1] at HM1
        rw [← hx2] at HM2
        clear hx1 hx2
        go_wp2_with fail
        refine (HM1.out _).mono ?_
        rintro _ w5 ⟨rfl, hb⟩
        replace H := H.below hb
        clear hb
        try clear C
        try simp only [World.size_alloc, List.nil_append, List.cons_append, List.append_assoc] at H
        try clear wr
        have C := H.cells
        try simp only [cellsOf, cellsM, apartOf, apartM, and_true] at C
        dsimp only
        go_wp2_with fail
        refine (HM2.out _).mono ?_
        rintro _ w6 ⟨rfl, hb⟩
        replace H := H.below hb
        clear hb
        try clear C
        try simp only [World.size_alloc, List.nil_append, List.cons_append, List.append_assoc] at H
        try clear w5
        have C := H.cells
        try simp only [cellsOf, cellsM, apartOf, apartM, and_true] at C
        dsimp only
        go_wp2_with fail
        obtain ⟨R, hR⟩ : ∃ R, R = bestP l x1 x2 := ⟨_, rfl⟩
        have HRF := Lib.hid (best_facts HVL.out.loss x1 x2)
        rw [← hR] at HRF
        have HB1 := Lib.hid (fun wx (h : Lies wx wx.heap.size s7 7 l.length (fun j => ndC l[j]!)) => (show Calls Try.prog 13 #[v6 s0 s1 s2 1 s4 2, .slice s7 l.length c7, .int .i64 x1, .int .i64 x2] wx (GivesPl R 0 wx) from by
          have h9 := pBest_any s0 s1 s2 1 s4 2 (sa := s7) c7 (l := l) (by omega) hc7 x1 x2 wx h
          rw [show bestV ⟨s0, s1, s2, 1, s4, 2⟩ l x1 x2 = (R, 0) from by unfold bestV; rw [if_pos HVL.out, if_pos ⟨hb1, hb2⟩, hR]] at h9
          exact h9))
        have HB2 := Lib.hid (fun wx (h : Lies wx wx.heap.size s10 7 l.length (fun j => ndC (l.map dbl)[j]!)) => (show Calls Try.prog 13 #[v6 s0 s1 s2 1 s4 2, .slice s10 l.length c10, .int .i64 x1, .int .i64 x2] wx (GivesPl ⟨R.rows, R.ranks, R.saved * 2⟩ 0 wx) from by
          have h9 := pBest_any s0 s1 s2 1 s4 2 (sa := s10) c10 (l := l.map dbl) (by rw [List.length_map]; omega) hc10 x1 x2 wx (by rw [List.length_map]; exact h)
          rw [show bestV ⟨s0, s1, s2, 1, s4, 2⟩ (l.map dbl) x1 x2 = (dblR R, 0) from by unfold bestV; rw [if_pos (HOK.out.dbl HSV.out hl8), if_pos ⟨hb1, hb2⟩, hR, best_dbl HVL.out.loss.nn]] at h9
          rw [List.length_map] at h9
          exact h9))
        have hsv : 0 ≤ R.saved ∧ R.saved ≤ 13194139533312 := by have h1 := HRF.out.1; omega
        clear hR hb1 hb2 HVL hc7 hc10
        refine (HB1.out _ (H.rowLies 1 ndC_len rfl rfl)).mono ?_
        rintro _ w43 ⟨sk, ck, sr, cr, rfl, K⟩
        replace H := H.join K (two_low rfl rfl)
        clear K
        try simp only [List.nil_append, List.cons_append] at H
        skip
        try clear C
        try simp only [World.size_alloc, List.nil_append, List.cons_append, List.append_assoc] at H
        have C := H.cells
        try simp only [cellsOf, cellsM, apartOf, apartM, and_true] at C
        dsimp only
        go_upto_region 14 with fail
        generalize hwb : w43.alloc _ = w7
        replace H := HS.eqW hwb H.alloc
        try simp only [World.size_alloc, List.nil_append, List.cons_append, List.append_assoc] at H
        clear hwb
        generalize w43.heap.size = bP at H ⊢
        try clear C
        try clear w43
        have C := H.cells
        try simp only [cellsOf, cellsM, apartOf, apartM, and_true] at C
        go_wp2_with fail
        refine (HB2.out _ (H.rowLies 2 ndC_len rfl (by rw [List.length_map]))).mono ?_
        rintro _ w44 ⟨sk2, ck2, sr2, cr2, rfl, K⟩
        replace H := H.join K (two_low rfl rfl)
        clear K
        try simp only [List.nil_append, List.cons_append] at H
        skip
        try clear C
        try simp only [World.size_alloc, List.nil_append, List.cons_append, List.append_assoc] at H
        have C := H.cells
        try simp only [cellsOf, cellsM, apartOf, apartM, and_true] at C
        dsimp only
        go_upto_region 15 with fail
        generalize hwb : w44.alloc _ = w8
        replace H := HS.eqW hwb H.alloc
        try simp only [World.size_alloc, List.nil_append, List.cons_append, List.append_assoc] at H
        clear hwb
        generalize w44.heap.size = bQ at H ⊢
        try clear C
        try clear w44
        have C := H.cells
        try simp only [cellsOf, cellsM, apartOf, apartM, and_true] at C
        go_upto_region 16 with fail
        generalize hwb : World.setCell _ _ _ = w73
        have H9 := HS.eqW hwb (H.setAt 5 rfl (o := 2) (v := .int .i64 (R.saved * 2)))
        clear H C hwb
        simp only [List.set_cons_succ, List.set_cons_zero] at H9
        have H := H9
        clear H9
        skip
        try clear C
        try simp only [World.size_alloc, List.nil_append, List.cons_append, List.append_assoc] at H
        have C := H.cells
        try simp only [cellsOf, cellsM, apartOf, apartM, and_true] at C
        have HSM := Lib.hid (fun wx l1 l2 l3 l4 => (show Calls Try.prog 15 #[.agg #[.slice sr R.rows.length cr, .slice sk R.ranks.length ck, .int .i64 (R.saved * 2)], .agg #[.slice sr2 R.rows.length cr2, .slice sk2 R.ranks.length ck2, .int .i64 (R.saved * 2)]] wx (Gives (.bool true) wx) from by
          have h := rsame_any (ra := R.rows) (rb := R.rows) (ka := R.ranks) (kb := R.ranks) (R.saved * 2) (R.saved * 2) (sra := sr) (ska := sk) (srb := sr2) (skb := sk2) cr ck cr2 ck2 (by have := HRF.out.2.1; omega) (by have := HRF.out.2.2; omega) (by have := HRF.out.2.1; omega) (by have := HRF.out.2.2; omega) wx l1 l2 l3 l4
          rw [decide_eq_true ⟨rfl, rfl, rfl⟩] at h
          exact h))
        go_wp2_with fail
        refine (HSM.out _ (H.rowLies 4 iC_len rfl rfl) (H.rowLies 3 pC_len rfl rfl) (H.rowLies 7 iC_len rfl rfl) (H.rowLies 6 pC_len rfl rfl)).mono ?_
        rintro _ w45 ⟨rfl, hb⟩
        replace H := H.below hb
        clear hb
        skip
        try clear C
        try simp only [World.size_alloc, List.nil_append, List.cons_append, List.append_assoc] at H
        have C := H.cells
        try simp only [cellsOf, cellsM, apartOf, apartM, and_true] at C
        go_wp2_with fail
        refine (HAW.out _).mono ?_
        rintro _ w9 ⟨rfl, hb⟩
        replace H := H.below hb
        clear hb
        try clear C
        try simp only [World.size_alloc, List.nil_append, List.cons_append, List.append_assoc] at H
        try clear w45
        have C := H.cells
        try simp only [cellsOf, cellsM, apartOf, apartM, and_true] at C
        dsimp only
        go_wp2_with fail
        go_ret
        exact ⟨rfl, H.done⟩
  · rw [decide_eq_false h400] at hli
    have HLI := Lib.hid hli
    clear hli
    go_enter Try.func4, Try.ntmps4
    have H := HS.start NoD w
    go_wp2_with fail
    refine (gives_of39 (HLI.out _)).mono ?_
    rintro _ w1 ⟨rfl, hb⟩
    replace H := H.below hb
    clear hb
    try clear C
    try simp only [World.size_alloc, List.nil_append, List.cons_append, List.append_assoc] at H
    have C := H.cells
    try simp only [cellsOf, cellsM, apartOf, apartM, and_true] at C
    dsimp only
    go_wp2_with fail
    refine (HAW.out _).mono ?_
    rintro _ w2 ⟨rfl, hb⟩
    replace H := H.below hb
    clear hb
    try clear C
    try simp only [World.size_alloc, List.nil_append, List.cons_append, List.append_assoc] at H
    try clear w1
    have C := H.cells
    try simp only [cellsOf, cellsM, apartOf, apartM, and_true] at C
    dsimp only
    go_wp2_with fail
    go_ret
    exact ⟨rfl, H.done⟩
end Go.Proofs.Ytdhnpjgnnfgklaa
