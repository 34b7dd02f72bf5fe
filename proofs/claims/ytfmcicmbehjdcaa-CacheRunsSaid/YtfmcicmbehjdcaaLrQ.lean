/- cache.Put. -/
import Derived.Test.YtfmcicmbehjdcaaLrO
import Derived.Test.YtfmcicmbehjdcaaLrP
namespace Go.Proofs.Ytfmcicmbehjdcaa
set_option linter.unusedSimpArgs false
set_option linter.unusedVariables false
open Go.RowKit
set_option maxRecDepth 100000
attribute [local irreducible] wpX wpF Calls

theorem touch_at {qs : List Sw} {N s W r g c c' : Nat} (hN : qs.length = N) (hin : s * W + W ≤ N) (hr : r < W) (hlen : N ≤ 1000) (hab : ∀ j, j < qs.length → (qs[j]!).s.u = true → 0 ≤ (qs[j]!).s.age ∧ (qs[j]!).s.age < 1000) (w : World) (hrow : w.ownsRow 0 37 6 (.slice (some ⟨g, 0, none⟩) N c) N (qs.flatMap swC)) :
    Calls Try.prog 41 #[.slice (some ⟨g, s * W * 6, none⟩) W c', .int .i64 (r : Int)] w (TurnsTo g N c (useQ W s r qs) w) := by
  subst hN
  exact touch_any hin hr hlen hab w hrow
set_option maxHeartbeats 16000000 in
theorem cput_any {S W : Nat} {size : Int} {l : List Sm} (hg : GoodC S W size l) (x : Sv) (m : Lm) (y : Sv) (hm : m.bs.length ≤ 1000) (w : World) (h : SlotsAt w x l) (hy : BytesAt w y m.bs) :
    Calls Try.prog 24 #[caV S W size x, lnV m y] w (GivesPt S W size (PutR S W size l m) w) := by
  obtain ⟨xa, xn, xc⟩ := x
  obtain ⟨ad, bs, d, p⟩ := m
  obtain ⟨ya, yn, yc⟩ := y
  have HSL := Lib.hid h
  have HG := Lib.hid hg
  have HM := Lib.hid (show bs.length ≤ 1000 from hm)
  have HBY := Lib.hid (show BytesAt w ⟨ya, yn, yc⟩ bs from hy)
  have HCP := Lib.hid (fun wx hx => ccopy_any S W size ⟨xa, xn, xc⟩ l hg.small wx hx)
  have HLV := Lib.hid (fun wx => (show Calls Try.prog 44 #[.int .i64 size, .agg #[.int .i64 ad, .slice ya yn yc, .bool d, .bool p]] wx (Gives (.bool (lineB size ⟨ad, bs, d, p⟩)) wx) from lvalid_any size ⟨ad, bs, d, p⟩ ⟨ya, yn, yc⟩ hy.len wx))
  clear h hg hm hy
  show Calls Try.prog 24 #[.agg #[.int .i64 S, .int .i64 W, .int .i64 size, .slice xa xn xc], .agg #[.int .i64 ad, .slice ya yn yc, .bool d, .bool p]] w _
  go_enter Try.func24, Try.ntmps24
  have H := HS.start NoD w
  go_upto_region 1 with fail
  generalize hwb : (((w.alloc _).alloc _).alloc _).alloc _ = w1
  replace H := HS.eqW hwb H.alloc.alloc.alloc.alloc
  try simp only [World.size_alloc, List.nil_append, List.cons_append, List.append_assoc] at H
  clear hwb
  generalize w.heap.size + 3 = bL at H ⊢
  generalize w.heap.size + 2 = bR at H ⊢
  generalize w.heap.size + 1 = bN at H ⊢
  generalize w.heap.size = bX at H ⊢
  try clear C
  have C := H.cells
  try simp only [cellsOf, cellsM, apartOf, apartM, and_true] at C
  go_wp2_with fail
  refine (HCP.out _ (HSL.out.up H.done)).mono ?_
  rintro _ w2 ⟨s2, c2, qs, F, hqs, rfl, K⟩
  replace H := H.join K (two_low rfl rfl)
  have HQS := Lib.hid hqs
  clear K HCP HSL
  try simp only [List.nil_append, List.cons_append] at H
  skip
  try clear C
  try simp only [World.size_alloc, List.nil_append, List.cons_append, List.append_assoc] at H
  have C := H.cells
  try simp only [cellsOf, cellsM, apartOf, apartM, and_true] at C
  dsimp only [caV]
  have hgq : GoodC S W size (qs.map Sw.s) := by rw [hqs]; exact HG.out
  have hql : qs.length = l.length := by rw [← hqs, List.length_map]
  have hpos : 0 < qs.length := by
    rw [hql, HG.out.len]; exact Nat.mul_pos HG.out.S1 HG.out.W1
  have hln : ∀ j, j < qs.length → (qs[j]!).x.n = (qs[j]!).s.ln.bs.length := fun j hj => (H.says 5 rfl j hj).len
  have hcap : qs.length ≤ c2 := (row_capOk (H.at 4 rfl)).1
  obtain ⟨g, cap, hv, -, -⟩ := World.ownsRow.form (H.at 4 rfl) (by omega)
  obtain ⟨rfl, -, rfl⟩ := Value.slice.inj hv
  have HLC := Lib.hid (show qs.length ≤ c2 from hcap)
  have HQL := Lib.hid hql
  have HGQ := Lib.hid hgq
  have HLN := Lib.hid hln
  have HN32 := Lib.hid (show qs.length ≤ 32 by rw [hql]; exact HG.out.len32)
  clear hqs hgq hql hpos hln hv hcap
  go_upto_region 2 with fail
  generalize hwb : w2.alloc _ = w2
  replace H := HS.eqW hwb H.alloc
  try simp only [World.size_alloc, List.nil_append, List.cons_append, List.append_assoc] at H
  clear hwb
  generalize w2.heap.size = bO at H ⊢
  try clear C
  try clear w2
  have C := H.cells
  try simp only [cellsOf, cellsM, apartOf, apartM, and_true] at C
  cases hlb : lineB size ⟨ad, bs, d, p⟩
  case false =>
    have HLB := Lib.hid hlb
    rw [hlb] at HLV
    clear hlb
    go_wp2_with fail
    refine (HLV.out _).mono ?_
    rintro _ w3 ⟨rfl, hb⟩
    replace H := H.below hb
    clear hb
    try clear C
    try simp only [World.size_alloc, List.nil_append, List.cons_append, List.append_assoc] at H
    try clear w2
    have C := H.cells
    try simp only [cellsOf, cellsM, apartOf, apartM, and_true] at C
    dsimp only
    repeat go_step
    generalize hwb : (((w3.setCell _ _).setCell _ _).setCell _ _).setCell _ _ = w4
    replace H := HS.eqW hwb (H.putAll (i := 2) rfl (vs := [.int .i64 S, .int .i64 W, .int .i64 size, .slice (some ⟨g, 0, none⟩) qs.length c2]) rfl rfl)
    simp only [List.nil_append, List.cons_append, List.append_assoc, List.set_cons_succ, List.set_cons_zero] at H
    clear hwb
    try clear C
    try clear w3
    have C := H.cells
    try simp only [cellsOf, cellsM, apartOf, apartM, and_true] at C
    generalize hwb : (((w4.setCell _ _).setCell _ _).setCell _ _).setCell _ _ = w5
    replace H := HS.eqW hwb (H.putAll (i := 3) rfl (vs := [.int .i64 0, .slice none 0 0, .bool false, .bool false]) rfl rfl)
    simp only [List.nil_append, List.cons_append, List.append_assoc, List.set_cons_succ, List.set_cons_zero] at H
    clear hwb
    try clear C
    try clear w4
    have C := H.cells
    try simp only [cellsOf, cellsM, apartOf, apartM, and_true] at C
    refine bodyPost_ret (v := .tuple #[.agg #[.int .i64 S, .int .i64 W, .int .i64 size, .slice (some ⟨g, 0, none⟩) qs.length c2], .agg #[.int .i64 0, .slice none 0 0, .bool false, .bool false], .bool false, .int .i64 1]) (by simp [results, Try.results24, go_sem, C]) rfl ?_
    have H9 := HS.less (L' := [rowS (some ⟨g, 0, none⟩) qs.length c2 qs, anyS F qs]) H (by repeat (first | exact .slnil | refine .cons_cons _ ?_ | refine .cons _ ?_))
    exact ⟨(l, zLm, false, 1), _, c2, qs, ⟨none, 0, 0⟩, F, .inl ⟨HLB.out, rfl⟩, HQS.out, rfl, HS.weak (L := [_]) H9 fun w' h => ⟨h, bytes_nil w'⟩⟩
  case true =>
    have HLB := Lib.hid hlb
    rw [hlb] at HLV
    have had := (of_decide_eq_true hlb).2.2.2.1
    clear hlb
    try dsimp only at had
    have hS1 := HG.out.S1
    have hW1 := HG.out.W1
    obtain ⟨s, hs⟩ : ∃ s : Nat, ad % S = s := ⟨(ad % S).toNat, by rw [Int.toNat_of_nonneg (Int.emod_nonneg _ (by omega))]⟩
    have hsS : s < S := by have := Int.emod_lt_of_pos ad (show (0 : Int) < S by omega); omega
    have hfit := HGQ.out.fits hsS
    rw [List.length_map] at hfit
    have HSP := Lib.hid (fun wx hl => cset_pos (o := 0) (b := g) qs HGQ.out rfl HLC.out HLN.out ad s had hs wx hl)
    have HAS := Lib.hid hs
    have HSS := Lib.hid hsS
    have HFIT := Lib.hid hfit
    have HW4 := Lib.hid HG.out.W4
    have HSL2 := Lib.hid (setOf_len hfit)
    have hW0 : ((W : Int) == 0) = false := beq_eq_false_iff_ne.2 (by omega)
    have HSLI := Lib.hid (fun wx hl => setOf_lies (w := wx) (B := wx.heap.size) (g := g) hfit hl)
    have hW0' : ¬ W = 0 := by omega
    have HW1 := Lib.hid hW1
    have HSO := Lib.hid (fun t (ht : t < W) => show ((setOf W qs s)[t]!).s = rowG W l s t from by rw [setOf_get hfit ht, rowG_map HQS.out (by omega)])
    clear had hs hsS hfit hS1 hW1
    go_wp2_with fail
    refine (HLV.out _).mono ?_
    rintro _ w6 ⟨rfl, hb⟩
    replace H := H.below hb
    clear hb
    try clear C
    try simp only [World.size_alloc, List.nil_append, List.cons_append, List.append_assoc] at H
    try clear w5
    have C := H.cells
    try simp only [cellsOf, cellsM, apartOf, apartM, and_true] at C
    dsimp only
    go_wp2_with fail
    refine (HSP.out _ (H.rowLies 4 swC_len rfl rfl)).mono ?_
    rintro _ w3 ⟨rfl, hb⟩
    replace H := H.below hb
    clear hb HSP
    skip
    try clear C
    try simp only [World.size_alloc, List.nil_append, List.cons_append, List.append_assoc] at H
    have C := H.cells
    try simp only [cellsOf, cellsM, apartOf, apartM, and_true] at C
    try simp only [Nat.zero_add]
    try dsimp only
    go_upto_region 5 with fail
    generalize hwb : w3.alloc _ = w7
    replace H := HS.eqW hwb H.alloc
    try simp only [World.size_alloc, List.nil_append, List.cons_append, List.append_assoc] at H
    clear hwb
    generalize w3.heap.size = bS at H ⊢
    try clear C
    try clear w3
    have C := H.cells
    try simp only [cellsOf, cellsM, apartOf, apartM, and_true] at C
    have HFS := Lib.hid (show ∀ wx, Lies wx wx.heap.size (some ⟨g, s * W * 6, none⟩) 6 (setOf W qs s).length (fun j => swC (setOf W qs s)[j]!) → Calls Try.prog 40 #[.slice (some ⟨g, s * W * 6, none⟩) W (c2 - s * W), .int .i64 ad] wx (FindPostSl (isAd ad) (setOf W qs s) wx) from fun wx hl => by
      have h1 := cfind_any (sa := some ⟨g, s * W * 6, none⟩) (c2 - s * W) (setOf W qs s) (by rw [HSL2.out]; have := HW4.out; omega) ad wx hl
      rw [HSL2.out] at h1
      exact h1)
    go_wp2_with fail
    refine (HFS.out _ (HSLI.out _ (H.rowLies 4 swC_len rfl rfl))).mono ?_
    rintro _ w4 ⟨r, rfl, hr, hb⟩
    replace H := H.below hb
    clear hb HFS
    skip
    try clear C
    try simp only [World.size_alloc, List.nil_append, List.cons_append, List.append_assoc] at H
    have C := H.cells
    try simp only [cellsOf, cellsM, apartOf, apartM, and_true] at C
    dsimp only
    skip
    rcases hr with ⟨rfl, hno⟩ | ⟨j, hj, rfl, hy, -⟩
    · have HNH := Lib.hid (find_whole HG.out HQS.out HSS.out HAS.out hno)
      clear hno
      have HI1 := Lib.hid (show ∀ wx, Lies wx wx.heap.size (some ⟨g, s * W * 6, none⟩) 6 (setOf W qs s).length (fun j => swC (setOf W qs s)[j]!) → Calls Try.prog 45 #[.slice (some ⟨g, s * W * 6, none⟩) W (c2 - s * W), .func (.func 46) #[] #[]] wx (FindPostSl (fun q => !q.s.u) (setOf W qs s) wx) from fun wx hl => by
        have h1 := findSl 46 (fun _ _ => rfl) #[] (fun q => !q.s.u) (sa := some ⟨g, s * W * 6, none⟩) (c2 - s * W) (xs := setOf W qs s) (by rw [HSL2.out]; have := HW4.out; omega) wx hl (fun W' x' _ => put1_any x' W')
        rw [HSL2.out] at h1
        exact h1)
      go_wp2_with fail
      refine (HI1.out _ (HSLI.out _ (H.rowLies 4 swC_len rfl rfl))).mono ?_
      rintro _ w5 ⟨r, rfl, hr, hb⟩
      replace H := H.below hb
      clear hb HI1
      skip
      try clear C
      try simp only [World.size_alloc, List.nil_append, List.cons_append, List.append_assoc] at H
      have C := H.cells
      try simp only [cellsOf, cellsM, apartOf, apartM, and_true] at C
      dsimp only
      skip
      rcases hr with ⟨rfl, hno⟩ | ⟨j, hj, rfl, hy, hlow⟩
      · have HAL := Lib.hid (show ∀ t, t < W → (rowG W l s t).u = true from fun t ht => by
          have h1 := hno t (by rw [HSL2.out]; exact ht)
          dsimp only at h1
          rw [HSO.out t ht] at h1
          simpa using h1)
        clear hno
        have HI2 := Lib.hid (show ∀ wx bI, (∀ o, wx.cell? ⟨bI, o, none⟩ = #[Value.slice (some ⟨g, s * W * 6, none⟩) W (c2 - s * W)][o]?) → bI < wx.heap.size → Lies wx wx.heap.size (some ⟨g, s * W * 6, none⟩) 6 (setOf W qs s).length (fun j => swC (setOf W qs s)[j]!) → Calls Try.prog 45 #[.slice (some ⟨g, s * W * 6, none⟩) W (c2 - s * W), .func (.func 47) #[] #[.pointer (some ⟨bI, 0, none⟩)]] wx (FindPostSl (fun q => decide (q.s.age = (W : Int) - 1)) (setOf W qs s) wx) from fun wx bI hc hlt hl => by
          have h1 := findSl 47 (fun _ _ => rfl) #[.pointer (some ⟨bI, 0, none⟩)] (fun q => decide (q.s.age = (W : Int) - 1)) (sa := some ⟨g, s * W * 6, none⟩) (c2 - s * W) (xs := setOf W qs s) (by rw [HSL2.out]; have := HW4.out; omega) wx hl (fun W' x' hb => put2_any x' (some ⟨g, s * W * 6, none⟩) W (c2 - s * W) (by have := HW4.out; have := HW1.out; omega) bI W' (fun o => (World.cell?_of_block (hb.block bI hlt)).trans (hc o)) (Nat.lt_of_lt_of_le hlt hb.size))
          rw [HSL2.out] at h1
          exact h1)
        go_wp2_with fail
        refine (HI2.out _ _ (Blk.cell (H.at 7 rfl)) (Item.lt (H.at 7 rfl) rfl) (HSLI.out _ (H.rowLies 4 swC_len rfl rfl))).mono ?_
        rintro _ w6 ⟨r, rfl, hr, hb⟩
        replace H := H.below hb
        clear hb HI2
        skip
        try clear C
        try simp only [World.size_alloc, List.nil_append, List.cons_append, List.append_assoc] at H
        have C := H.cells
        try simp only [cellsOf, cellsM, apartOf, apartM, and_true] at C
        dsimp only
        obtain ⟨j, hjW, rfl, hag⟩ : ∃ j : Nat, j < W ∧ r = j ∧ (rowG W l s j).age = (W : Int) - 1 := by
          rcases hr with ⟨-, hno⟩ | ⟨j, hj, hrj, hy, -⟩
          · obtain ⟨t, ht, h1⟩ := (HG.out.sets s HSS.out).oldest HW1.out HW4.out HAL.out
            have h2 := hno t (by rw [HSL2.out]; exact ht)
            dsimp only at h2
            rw [HSO.out t ht] at h2
            simp [h1] at h2
          · rw [HSL2.out] at hj
            dsimp only at hy
            rw [HSO.out j hj] at hy
            exact ⟨j, hj, hrj, by simpa using hy⟩
        have hpa : PutAt W (rowG W l s) j := ⟨hjW, .inr ⟨HAL.out, hag⟩⟩
        clear hr hag
        have HJ := Lib.hid hjW
        have hjw : (j : Int) < W := by omega
        have HKQ := Lib.hid (show s * W + j < qs.length by have := HFIT.out; omega)
        have HPA := Lib.hid hpa
        have HSJ := Lib.hid (rowG_map HQS.out HKQ.out)
        have HOF := Lib.hid (Nat.add_mul (s * W) j 6)
        have HBYO := Lib.hid (fun wx (h : SlotsOk wx qs) => h (s * W + j) HKQ.out)
        have HFG := Lib.hid (fun m v => flat_get swC_len qs (s * W + j) m v HKQ.out)
        obtain ⟨sk, hsk⟩ : ∃ q, q = qs[s * W + j]! := ⟨_, rfl⟩
        rw [← hsk] at HSJ HBYO HFG
        obtain ⟨⟨u0, ag0, ⟨ad0, bs0, d0, p0⟩⟩, ⟨y0, yn0, yc0⟩⟩ := sk
        clear hsk hjW hpa
        have hgl : g < w6.heap.size := Item.lt (H.at 4 rfl) (k := g) rfl
        have hcc : ∀ (m : Nat) (v : Value), m < 6 → (swC ⟨⟨u0, ag0, ⟨ad0, bs0, d0, p0⟩⟩, ⟨y0, yn0, yc0⟩⟩)[m]? = some v → w6.cell? ⟨g, s * W * 6 + j * 6 + m, none⟩ = some v := fun m v hm hv => by
          rw [← Nat.add_mul]
          have := HKQ.out
          exact (H.rowCells 4 rfl ((s * W + j) * 6 + m) (by omega)).1.trans (HFG.out m v hv)
        have k2 : w6.cell? ⟨g, s * W * 6 + j * 6 + 2, none⟩ = some (.int .i64 ad0) := hcc 2 _ (by omega) rfl
        have k3 : w6.cell? ⟨g, s * W * 6 + j * 6 + 3, none⟩ = some (.slice y0 yn0 yc0) := hcc 3 _ (by omega) rfl
        have k4 : w6.cell? ⟨g, s * W * 6 + j * 6 + 4, none⟩ = some (.bool d0) := hcc 4 _ (by omega) rfl
        have k5 : w6.cell? ⟨g, s * W * 6 + j * 6 + 5, none⟩ = some (.bool p0) := hcc 5 _ (by omega) rfl
        clear hcc
        go_upto_region 17 with fail
        clear k2 k3 k4 k5 hgl
        generalize hwb : w6.alloc _ = w8
        replace H := HS.eqW hwb H.alloc
        try simp only [World.size_alloc, List.nil_append, List.cons_append, List.append_assoc] at H
        clear hwb
        generalize w6.heap.size = bV at H ⊢
        try clear C
        try clear w6
        have C := H.cells
        try simp only [cellsOf, cellsM, apartOf, apartM, and_true] at C
        have LCP := Lib.hid (fun wx (hx : BytesAt wx ⟨ya, yn, yc⟩ bs) => (show Calls Try.prog 42 #[.agg #[.int .i64 ad, .slice ya yn yc, .bool d, .bool p]] wx (GivesLine ⟨ad, bs, d, p⟩ wx) from lcopy_any ⟨ad, bs, d, p⟩ ⟨ya, yn, yc⟩ HM.out wx hx))
        have HBX := Lib.hid (HBY.out.up H.done)
        refine wp_region_xH (by kernel_rfl) (by kernel_rfl) (by kernel_rfl) (by kernel_rfl) (fun k => k = g) (H) ?_
        clear H; intro w9 H hz0 hs0
        try clear C
        try simp only [World.size_alloc, List.nil_append, List.cons_append, List.append_assoc] at H hz0
        clear hz0
        try clear w8
        have C := H.cells
        try simp only [cellsOf, cellsM, apartOf, apartM, and_true] at C
        have Z := H.zs
        try simp only [ltsOf, ltsM, and_true] at Z
        have hz0 := Nat.le_refl w9.heap.size
        have na1 := H.rowApart 4 7 rfl rfl (by decide)
        have na2 := H.rowApart 4 1 rfl rfl (by decide)
        repeat (first | (refine wpX_skip rfl ?_; go_simp) | (refine wpX_free rfl rfl rfl (fun K hK => ?_); go_step; refine hK _ _ ?_; clear hK K) | (refine wpX_load rfl rfl rfl (by simp [Stay, OneD, NoD, *]) hs0 (by simp [*]) (fun K hK => ?_); go_step; refine hK _ _ ?_; clear hK K))
        refine wpX_eff rfl rfl (fun _ _ => ?_)
        go_step
        refine (LCP.out _ (HBY.out.up H.done)).mono ?_
        rintro _ w10 ⟨⟨ra, rn, rc⟩, G, rfl, K⟩
        replace hs0 := hs0.belowS hz0 K.done
        replace hz0 := Nat.le_trans hz0 K.done.size
        replace H := H.join K (one_low rfl)
        clear K
        try simp only [List.nil_append, List.cons_append, List.append_assoc] at H
        try clear C
        have C := H.cells
        try simp only [cellsOf, cellsM, apartOf, apartM, and_true] at C
        try clear w9
        dsimp only
        go_step
        refine ⟨hs0, ?_⟩
        dsimp only [lnV]
        repeat (first | (refine wpX_skip rfl ?_; go_simp) | (refine wpX_free rfl rfl rfl (fun K hK => ?_); go_step; refine hK _ _ ?_; clear hK K) | (refine wpX_load rfl rfl rfl (by simp [Stay, OneD, NoD, *]) hs0 (by simp [*]) (fun K hK => ?_); go_step; refine hK _ _ ?_; clear hK K))
        have hk9 : ∀ m, m < 6 → ∃ u, w10.cell? ⟨g, s * W * 6 + j * 6 + m, none⟩ = some u ∧ w10.frozen? ⟨g, s * W * 6 + j * 6 + m, none⟩ = false := fun m hm => by
          rw [← Nat.add_mul]
          have := HKQ.out
          have h1 := H.rowCells 4 rfl ((s * W + j) * 6 + m) (by omega)
          exact ⟨_, h1.1.trans (List.getElem?_eq_getElem (by rw [flat_len swC_len]; have := HKQ.out; omega)), h1.2⟩
        obtain ⟨u0, q0, q0f⟩ : ∃ u, w10.cell? ⟨g, s * W * 6 + j * 6, none⟩ = some u ∧ w10.frozen? ⟨g, s * W * 6 + j * 6, none⟩ = false := hk9 0 (by omega)
        obtain ⟨u1, q1, q1f⟩ : ∃ u, w10.cell? ⟨g, s * W * 6 + j * 6 + 1, none⟩ = some u ∧ w10.frozen? ⟨g, s * W * 6 + j * 6 + 1, none⟩ = false := hk9 1 (by omega)
        obtain ⟨u2, q2, q2f⟩ : ∃ u, w10.cell? ⟨g, s * W * 6 + j * 6 + 2, none⟩ = some u ∧ w10.frozen? ⟨g, s * W * 6 + j * 6 + 2, none⟩ = false := hk9 2 (by omega)
        obtain ⟨u3, q3, q3f⟩ : ∃ u, w10.cell? ⟨g, s * W * 6 + j * 6 + 3, none⟩ = some u ∧ w10.frozen? ⟨g, s * W * 6 + j * 6 + 3, none⟩ = false := hk9 3 (by omega)
        obtain ⟨u4, q4, q4f⟩ : ∃ u, w10.cell? ⟨g, s * W * 6 + j * 6 + 4, none⟩ = some u ∧ w10.frozen? ⟨g, s * W * 6 + j * 6 + 4, none⟩ = false := hk9 4 (by omega)
        obtain ⟨u5, q5, q5f⟩ : ∃ u, w10.cell? ⟨g, s * W * 6 + j * 6 + 5, none⟩ = some u ∧ w10.frozen? ⟨g, s * W * 6 + j * 6 + 5, none⟩ = false := hk9 5 (by omega)
        have hgl9 : g < w10.heap.size := Item.lt (H.at 4 rfl) (k := g) rfl
        clear hk9
        refine wpX_eff rfl rfl (fun _ _ => ?_)
        go_step
        go_step
        generalize hwb : (((((w10.setCell _ _).setCell _ _).setCell _ _).setCell _ _).setCell _ _).setCell _ _ = w21
        rw [← HOF.out] at hwb
        replace hs0 := Same.eqW hwb ((((((hs0.set (p := ⟨g, (s * W + j) * 6, none⟩) (fun k hk e => hk.2 (by simp [e])) (.bool true)).set (p := ⟨g, (s * W + j) * 6 + 1, none⟩) (fun k hk e => hk.2 (by simp [e])) (.int .i64 W)).set (p := ⟨g, (s * W + j) * 6 + 2, none⟩) (fun k hk e => hk.2 (by simp [e])) (.int .i64 ad)).set (p := ⟨g, (s * W + j) * 6 + 3, none⟩) (fun k hk e => hk.2 (by simp [e])) (.slice ra rn rc)).set (p := ⟨g, (s * W + j) * 6 + 4, none⟩) (fun k hk e => hk.2 (by simp [e])) (.bool d)).set (p := ⟨g, (s * W + j) * 6 + 5, none⟩) (fun k hk e => hk.2 (by simp [e])) (.bool p))
        replace H := HS.eqW hwb ((((((H.rowSet 4 rfl ((s * W + j) * 6) (.bool true)).rowSet 4 rfl ((s * W + j) * 6 + 1) (.int .i64 W)).rowSet 4 rfl ((s * W + j) * 6 + 2) (.int .i64 ad)).rowSet 4 rfl ((s * W + j) * 6 + 3) (.slice ra rn rc)).rowSet 4 rfl ((s * W + j) * 6 + 4) (.bool d)).rowSet 4 rfl ((s * W + j) * 6 + 5) (.bool p))
        clear hwb q0 q0f q1 q1f q2 q2f q3 q3f q4 q4f q5 q5f hgl9
        simp only [List.set_cons_succ, List.set_cons_zero] at H
        rw [sw_all qs (s * W + j) ⟨⟨true, W, ⟨ad, bs, d, p⟩⟩, ⟨ra, rn, rc⟩⟩ HKQ.out] at H
        skip
        try clear C
        try simp only [World.size_alloc, List.nil_append, List.cons_append, List.append_assoc] at H
        have C := H.cells
        try simp only [cellsOf, cellsM, apartOf, apartM, and_true] at C
        refine ⟨hs0, ?_⟩
        (refine wpX_nil ?_; go_step)
        have HQ9 := Lib.hid (put_new HG.out HQS.out HSS.out HJ.out ⟨ad, bs, d, p⟩ ⟨ra, rn, rc⟩)
        have HTC := Lib.hid (fun wx hl => touch_at (N := qs.length) (s := s) (W := W) (r := j) (g := g) (c := c2) (c' := c2 - s * W) (qs := qs.set (s * W + j) ⟨⟨true, W, ⟨ad, bs, d, p⟩⟩, ⟨ra, rn, rc⟩⟩) (List.length_set) HFIT.out HJ.out (by have := HN32.out; omega) (put_ages HW4.out HGQ.out.ages HKQ.out (fun _ => by dsimp only; have := HW4.out; omega)) wx hl)
        have HOKQ := Lib.hid (fun (wx : World) (h : SlotsOk wx qs) (hr : BytesAt wx ⟨ra, rn, rc⟩ bs) => useQ_ok (W := W) (s := s) (r := j) (slotsOk_set (k := s * W + j) (q := ⟨⟨true, W, ⟨ad, bs, d, p⟩⟩, ⟨ra, rn, rc⟩⟩) h hr))
        have HLQ := Lib.hid (show (useQ W s j (qs.set (s * W + j) ⟨⟨true, W, ⟨ad, bs, d, p⟩⟩, ⟨ra, rn, rc⟩⟩)).length = qs.length by rw [useQ_len, List.length_set])
        generalize useQ W s j (qs.set (s * W + j) ⟨⟨true, W, ⟨ad, bs, d, p⟩⟩, ⟨ra, rn, rc⟩⟩) = qs2 at HTC HQ9 HOKQ HLQ
        go_wp2_with fail
        refine (HTC.out _ (H.at 4 rfl)).mono ?_
        rintro _ w9 ⟨rfl, K⟩
        replace H := H.turnOwn 4 rfl K
        clear K HTC
        try simp only [List.set_cons_succ, List.set_cons_zero] at H
        skip
        try clear C
        try simp only [World.size_alloc, List.nil_append, List.cons_append, List.append_assoc] at H
        have C := H.cells
        try simp only [cellsOf, cellsM, apartOf, apartM, and_true] at C
        dsimp only
        go_upto_region 21 with fail
        refine wp_region_xH (by kernel_rfl) (by kernel_rfl) (by kernel_rfl) (by kernel_rfl) (fun k => k = bR ∨ k = bL) (H) ?_
        clear H; intro w11 H hz0 hs0
        try clear C
        try simp only [World.size_alloc, List.nil_append, List.cons_append, List.append_assoc] at H hz0
        clear hz0
        try clear w9
        have C := H.cells
        try simp only [cellsOf, cellsM, apartOf, apartM, and_true] at C
        have Z := H.zs
        try simp only [ltsOf, ltsM, and_true] at Z
        have hz0 := Nat.le_refl w11.heap.size
        repeat (first | (refine wpX_skip rfl ?_; go_simp) | (refine wpX_free rfl rfl rfl (fun K hK => ?_); go_step; refine hK _ _ ?_; clear hK K) | (refine wpX_load rfl rfl rfl (by simp [Stay, OneD, NoD, *]) hs0 (by simp [*]) (fun K hK => ?_); go_step; refine hK _ _ ?_; clear hK K))
        refine wpX_eff rfl rfl (fun _ _ => ?_)
        go_step
        go_step
        generalize hwb : (((w11.setCell _ _).setCell _ _).setCell _ _).setCell _ _ = w12
        replace hs0 := Same.eqW hwb (hs0.setAll (b := bR) (fun k hk e => hk.2 (by simp [e])) 0 [.int .i64 S, .int .i64 W, .int .i64 size, .slice (some ⟨g, 0, none⟩) qs.length c2])
        replace hz0 := Nat.le_trans hz0 (Nat.le_of_eq ((setAll_same [.int .i64 S, .int .i64 W, .int .i64 size, .slice (some ⟨g, 0, none⟩) qs.length c2] bR 0 w11).2.2.2.1.symm.trans (congrArg (fun w => w.heap.size) hwb)))
        replace H := HS.eqW hwb (H.putAll (i := 2) rfl (vs := [.int .i64 S, .int .i64 W, .int .i64 size, .slice (some ⟨g, 0, none⟩) qs.length c2]) rfl rfl)
        simp only [List.nil_append, List.cons_append, List.append_assoc, List.set_cons_succ, List.set_cons_zero] at H
        clear hwb
        try clear C
        try clear w11
        have C := H.cells
        try simp only [cellsOf, cellsM, apartOf, apartM, and_true] at C
        refine ⟨hs0, ?_⟩
        refine wpX_eff rfl rfl (fun _ _ => ?_)
        go_step
        go_step
        generalize hwb : (((w12.setCell _ _).setCell _ _).setCell _ _).setCell _ _ = w13
        replace hs0 := Same.eqW hwb (hs0.setAll (b := bL) (fun k hk e => hk.2 (by simp [e])) 0 [.int .i64 ad0, .slice y0 yn0 yc0, .bool d0, .bool p0])
        replace hz0 := Nat.le_trans hz0 (Nat.le_of_eq ((setAll_same [.int .i64 ad0, .slice y0 yn0 yc0, .bool d0, .bool p0] bL 0 w12).2.2.2.1.symm.trans (congrArg (fun w => w.heap.size) hwb)))
        replace H := HS.eqW hwb (H.putAll (i := 3) rfl (vs := [.int .i64 ad0, .slice y0 yn0 yc0, .bool d0, .bool p0]) rfl rfl)
        simp only [List.nil_append, List.cons_append, List.append_assoc, List.set_cons_succ, List.set_cons_zero] at H
        clear hwb
        try clear C
        try clear w12
        have C := H.cells
        try simp only [cellsOf, cellsM, apartOf, apartM, and_true] at C
        refine ⟨hs0, ?_⟩
        repeat (first | (refine wpX_skip rfl ?_; go_simp) | (refine wpX_free rfl rfl rfl (fun K hK => ?_); go_step; refine hK _ _ ?_; clear hK K) | (refine wpX_load rfl rfl rfl (by simp [Stay, OneD, NoD, *]) hs0 (by simp [*]) (fun K hK => ?_); go_step; refine hK _ _ ?_; clear hK K))
        (refine wpX_nil ?_; go_step)
        repeat go_step
        refine bodyPost_ret (v := .tuple #[.agg #[.int .i64 S, .int .i64 W, .int .i64 size, .slice (some ⟨g, 0, none⟩) qs.length c2], .agg #[.int .i64 ad0, .slice y0 yn0 yc0, .bool d0, .bool p0], .bool true, .int .i64 0]) (by simp [results, Try.results24, go_sem, C]) rfl ?_
        have HRES := Lib.hid (show PutR S W size l ⟨ad, bs, d, p⟩ (onSet W s l (putG (rowG W l s) j ⟨ad, bs, d, p⟩), ⟨ad0, bs0, d0, p0⟩, true, 0) from .inr (.inr ⟨HLB.out, HNH.out, s, j, HSS.out, HAS.out, HPA.out, by
          have hu : (rowG W l s j).u = true := HAL.out j HJ.out
          rw [if_pos hu, hu, HSJ.out]⟩))
        have H9 := HS.less (L' := [rowS (some ⟨g, 0, none⟩) qs.length c2 qs2, anyS F qs, .any G (fun w => BytesAt w ⟨ra, rn, rc⟩ bs)]) H (by repeat (first | exact .slnil | refine .cons_cons _ ?_ | refine .cons _ ?_))
        have H8 := HS.merge (L := [_]) H9
        have H7 := HS.weak (L := [_]) H8 (K' := fun w => SlotsOk w qs2 ∧ BytesAt w ⟨y0, yn0, yc0⟩ bs0) (fun w' h => ⟨HOKQ.out w' h.1 h.2, HBYO.out w' h.1⟩)
        rw [← HLQ.out] at H7 ⊢
        exact ⟨_, _, _, qs2, ⟨y0, yn0, yc0⟩, _, HRES.out, HQ9.out, rfl, H7⟩
      · rw [HSL2.out] at hj
        skip
        have HFR := Lib.hid (show (rowG W l s j).u = false from by
          dsimp only at hy
          rw [HSO.out j hj] at hy
          simpa using hy)
        have hpa : PutAt W (rowG W l s) j := ⟨hj, .inl ⟨HFR.out, fun t ht => by
          have h1 := hlow t ht
          dsimp only at h1
          rw [HSO.out t (by omega)] at h1
          simpa using h1⟩⟩
        have hjW := hj
        have hji : ¬ ((j : Int) < 0) := by omega
        clear hy hlow hj
        have HJ := Lib.hid hjW
        have hjw : (j : Int) < W := by omega
        have HKQ := Lib.hid (show s * W + j < qs.length by have := HFIT.out; omega)
        have HPA := Lib.hid hpa
        have HSJ := Lib.hid (rowG_map HQS.out HKQ.out)
        have HOF := Lib.hid (Nat.add_mul (s * W) j 6)
        have HBYO := Lib.hid (fun wx (h : SlotsOk wx qs) => h (s * W + j) HKQ.out)
        have HFG := Lib.hid (fun m v => flat_get swC_len qs (s * W + j) m v HKQ.out)
        obtain ⟨sk, hsk⟩ : ∃ q, q = qs[s * W + j]! := ⟨_, rfl⟩
        rw [← hsk] at HSJ HBYO HFG
        obtain ⟨⟨u0, ag0, ⟨ad0, bs0, d0, p0⟩⟩, ⟨y0, yn0, yc0⟩⟩ := sk
        clear hsk hjW hpa
        have hgl : g < w5.heap.size := Item.lt (H.at 4 rfl) (k := g) rfl
        have hcc : ∀ (m : Nat) (v : Value), m < 6 → (swC ⟨⟨u0, ag0, ⟨ad0, bs0, d0, p0⟩⟩, ⟨y0, yn0, yc0⟩⟩)[m]? = some v → w5.cell? ⟨g, s * W * 6 + j * 6 + m, none⟩ = some v := fun m v hm hv => by
          rw [← Nat.add_mul]
          have := HKQ.out
          exact (H.rowCells 4 rfl ((s * W + j) * 6 + m) (by omega)).1.trans (HFG.out m v hv)
        have k2 : w5.cell? ⟨g, s * W * 6 + j * 6 + 2, none⟩ = some (.int .i64 ad0) := hcc 2 _ (by omega) rfl
        have k3 : w5.cell? ⟨g, s * W * 6 + j * 6 + 3, none⟩ = some (.slice y0 yn0 yc0) := hcc 3 _ (by omega) rfl
        have k4 : w5.cell? ⟨g, s * W * 6 + j * 6 + 4, none⟩ = some (.bool d0) := hcc 4 _ (by omega) rfl
        have k5 : w5.cell? ⟨g, s * W * 6 + j * 6 + 5, none⟩ = some (.bool p0) := hcc 5 _ (by omega) rfl
        clear hcc
        go_upto_region 17 with fail
        clear k2 k3 k4 k5 hgl
        generalize hwb : w5.alloc _ = w14
        replace H := HS.eqW hwb H.alloc
        try simp only [World.size_alloc, List.nil_append, List.cons_append, List.append_assoc] at H
        clear hwb
        generalize w5.heap.size = bV at H ⊢
        try clear C
        try clear w5
        have C := H.cells
        try simp only [cellsOf, cellsM, apartOf, apartM, and_true] at C
        have LCP := Lib.hid (fun wx (hx : BytesAt wx ⟨ya, yn, yc⟩ bs) => (show Calls Try.prog 42 #[.agg #[.int .i64 ad, .slice ya yn yc, .bool d, .bool p]] wx (GivesLine ⟨ad, bs, d, p⟩ wx) from lcopy_any ⟨ad, bs, d, p⟩ ⟨ya, yn, yc⟩ HM.out wx hx))
        have HBX := Lib.hid (HBY.out.up H.done)
        refine wp_region_xH (by kernel_rfl) (by kernel_rfl) (by kernel_rfl) (by kernel_rfl) (fun k => k = g) (H) ?_
        clear H; intro w15 H hz0 hs0
        try clear C
        try simp only [World.size_alloc, List.nil_append, List.cons_append, List.append_assoc] at H hz0
        clear hz0
        try clear w14
        have C := H.cells
        try simp only [cellsOf, cellsM, apartOf, apartM, and_true] at C
        have Z := H.zs
        try simp only [ltsOf, ltsM, and_true] at Z
        have hz0 := Nat.le_refl w15.heap.size
        have na1 := H.rowApart 4 7 rfl rfl (by decide)
        have na2 := H.rowApart 4 1 rfl rfl (by decide)
        repeat (first | (refine wpX_skip rfl ?_; go_simp) | (refine wpX_free rfl rfl rfl (fun K hK => ?_); go_step; refine hK _ _ ?_; clear hK K) | (refine wpX_load rfl rfl rfl (by simp [Stay, OneD, NoD, *]) hs0 (by simp [*]) (fun K hK => ?_); go_step; refine hK _ _ ?_; clear hK K))
        refine wpX_eff rfl rfl (fun _ _ => ?_)
        go_step
        refine (LCP.out _ (HBY.out.up H.done)).mono ?_
        rintro _ w16 ⟨⟨ra, rn, rc⟩, G, rfl, K⟩
        replace hs0 := hs0.belowS hz0 K.done
        replace hz0 := Nat.le_trans hz0 K.done.size
        replace H := H.join K (one_low rfl)
        clear K
        try simp only [List.nil_append, List.cons_append, List.append_assoc] at H
        try clear C
        have C := H.cells
        try simp only [cellsOf, cellsM, apartOf, apartM, and_true] at C
        try clear w15
        dsimp only
        go_step
        refine ⟨hs0, ?_⟩
        dsimp only [lnV]
        repeat (first | (refine wpX_skip rfl ?_; go_simp) | (refine wpX_free rfl rfl rfl (fun K hK => ?_); go_step; refine hK _ _ ?_; clear hK K) | (refine wpX_load rfl rfl rfl (by simp [Stay, OneD, NoD, *]) hs0 (by simp [*]) (fun K hK => ?_); go_step; refine hK _ _ ?_; clear hK K))
        have hk9 : ∀ m, m < 6 → ∃ u, w16.cell? ⟨g, s * W * 6 + j * 6 + m, none⟩ = some u ∧ w16.frozen? ⟨g, s * W * 6 + j * 6 + m, none⟩ = false := fun m hm => by
          rw [← Nat.add_mul]
          have := HKQ.out
          have h1 := H.rowCells 4 rfl ((s * W + j) * 6 + m) (by omega)
          exact ⟨_, h1.1.trans (List.getElem?_eq_getElem (by rw [flat_len swC_len]; have := HKQ.out; omega)), h1.2⟩
        obtain ⟨u0, q0, q0f⟩ : ∃ u, w16.cell? ⟨g, s * W * 6 + j * 6, none⟩ = some u ∧ w16.frozen? ⟨g, s * W * 6 + j * 6, none⟩ = false := hk9 0 (by omega)
        obtain ⟨u1, q1, q1f⟩ : ∃ u, w16.cell? ⟨g, s * W * 6 + j * 6 + 1, none⟩ = some u ∧ w16.frozen? ⟨g, s * W * 6 + j * 6 + 1, none⟩ = false := hk9 1 (by omega)
        obtain ⟨u2, q2, q2f⟩ : ∃ u, w16.cell? ⟨g, s * W * 6 + j * 6 + 2, none⟩ = some u ∧ w16.frozen? ⟨g, s * W * 6 + j * 6 + 2, none⟩ = false := hk9 2 (by omega)
        obtain ⟨u3, q3, q3f⟩ : ∃ u, w16.cell? ⟨g, s * W * 6 + j * 6 + 3, none⟩ = some u ∧ w16.frozen? ⟨g, s * W * 6 + j * 6 + 3, none⟩ = false := hk9 3 (by omega)
        obtain ⟨u4, q4, q4f⟩ : ∃ u, w16.cell? ⟨g, s * W * 6 + j * 6 + 4, none⟩ = some u ∧ w16.frozen? ⟨g, s * W * 6 + j * 6 + 4, none⟩ = false := hk9 4 (by omega)
        obtain ⟨u5, q5, q5f⟩ : ∃ u, w16.cell? ⟨g, s * W * 6 + j * 6 + 5, none⟩ = some u ∧ w16.frozen? ⟨g, s * W * 6 + j * 6 + 5, none⟩ = false := hk9 5 (by omega)
        have hgl9 : g < w16.heap.size := Item.lt (H.at 4 rfl) (k := g) rfl
        clear hk9
        refine wpX_eff rfl rfl (fun _ _ => ?_)
        go_step
        go_step
        generalize hwb : (((((w16.setCell _ _).setCell _ _).setCell _ _).setCell _ _).setCell _ _).setCell _ _ = w22
        rw [← HOF.out] at hwb
        replace hs0 := Same.eqW hwb ((((((hs0.set (p := ⟨g, (s * W + j) * 6, none⟩) (fun k hk e => hk.2 (by simp [e])) (.bool true)).set (p := ⟨g, (s * W + j) * 6 + 1, none⟩) (fun k hk e => hk.2 (by simp [e])) (.int .i64 W)).set (p := ⟨g, (s * W + j) * 6 + 2, none⟩) (fun k hk e => hk.2 (by simp [e])) (.int .i64 ad)).set (p := ⟨g, (s * W + j) * 6 + 3, none⟩) (fun k hk e => hk.2 (by simp [e])) (.slice ra rn rc)).set (p := ⟨g, (s * W + j) * 6 + 4, none⟩) (fun k hk e => hk.2 (by simp [e])) (.bool d)).set (p := ⟨g, (s * W + j) * 6 + 5, none⟩) (fun k hk e => hk.2 (by simp [e])) (.bool p))
        replace H := HS.eqW hwb ((((((H.rowSet 4 rfl ((s * W + j) * 6) (.bool true)).rowSet 4 rfl ((s * W + j) * 6 + 1) (.int .i64 W)).rowSet 4 rfl ((s * W + j) * 6 + 2) (.int .i64 ad)).rowSet 4 rfl ((s * W + j) * 6 + 3) (.slice ra rn rc)).rowSet 4 rfl ((s * W + j) * 6 + 4) (.bool d)).rowSet 4 rfl ((s * W + j) * 6 + 5) (.bool p))
        clear hwb q0 q0f q1 q1f q2 q2f q3 q3f q4 q4f q5 q5f hgl9
        simp only [List.set_cons_succ, List.set_cons_zero] at H
        rw [sw_all qs (s * W + j) ⟨⟨true, W, ⟨ad, bs, d, p⟩⟩, ⟨ra, rn, rc⟩⟩ HKQ.out] at H
        skip
        try clear C
        try simp only [World.size_alloc, List.nil_append, List.cons_append, List.append_assoc] at H
        have C := H.cells
        try simp only [cellsOf, cellsM, apartOf, apartM, and_true] at C
        refine ⟨hs0, ?_⟩
        (refine wpX_nil ?_; go_step)
        have HQ9 := Lib.hid (put_new HG.out HQS.out HSS.out HJ.out ⟨ad, bs, d, p⟩ ⟨ra, rn, rc⟩)
        have HTC := Lib.hid (fun wx hl => touch_at (N := qs.length) (s := s) (W := W) (r := j) (g := g) (c := c2) (c' := c2 - s * W) (qs := qs.set (s * W + j) ⟨⟨true, W, ⟨ad, bs, d, p⟩⟩, ⟨ra, rn, rc⟩⟩) (List.length_set) HFIT.out HJ.out (by have := HN32.out; omega) (put_ages HW4.out HGQ.out.ages HKQ.out (fun _ => by dsimp only; have := HW4.out; omega)) wx hl)
        have HOKQ := Lib.hid (fun (wx : World) (h : SlotsOk wx qs) (hr : BytesAt wx ⟨ra, rn, rc⟩ bs) => useQ_ok (W := W) (s := s) (r := j) (slotsOk_set (k := s * W + j) (q := ⟨⟨true, W, ⟨ad, bs, d, p⟩⟩, ⟨ra, rn, rc⟩⟩) h hr))
        have HLQ := Lib.hid (show (useQ W s j (qs.set (s * W + j) ⟨⟨true, W, ⟨ad, bs, d, p⟩⟩, ⟨ra, rn, rc⟩⟩)).length = qs.length by rw [useQ_len, List.length_set])
        generalize useQ W s j (qs.set (s * W + j) ⟨⟨true, W, ⟨ad, bs, d, p⟩⟩, ⟨ra, rn, rc⟩⟩) = qs2 at HTC HQ9 HOKQ HLQ
        go_wp2_with fail
        refine (HTC.out _ (H.at 4 rfl)).mono ?_
        rintro _ w9 ⟨rfl, K⟩
        replace H := H.turnOwn 4 rfl K
        clear K HTC
        try simp only [List.set_cons_succ, List.set_cons_zero] at H
        skip
        try clear C
        try simp only [World.size_alloc, List.nil_append, List.cons_append, List.append_assoc] at H
        have C := H.cells
        try simp only [cellsOf, cellsM, apartOf, apartM, and_true] at C
        dsimp only
        repeat go_step
        generalize hwb : (((w9.setCell _ _).setCell _ _).setCell _ _).setCell _ _ = w17
        replace H := HS.eqW hwb (H.putAll (i := 2) rfl (vs := [.int .i64 S, .int .i64 W, .int .i64 size, .slice (some ⟨g, 0, none⟩) qs.length c2]) rfl rfl)
        simp only [List.nil_append, List.cons_append, List.append_assoc, List.set_cons_succ, List.set_cons_zero] at H
        clear hwb
        try clear C
        try clear w9
        have C := H.cells
        try simp only [cellsOf, cellsM, apartOf, apartM, and_true] at C
        generalize hwb : (((w17.setCell _ _).setCell _ _).setCell _ _).setCell _ _ = w18
        replace H := HS.eqW hwb (H.putAll (i := 3) rfl (vs := [.int .i64 0, .slice none 0 0, .bool false, .bool false]) rfl rfl)
        simp only [List.nil_append, List.cons_append, List.append_assoc, List.set_cons_succ, List.set_cons_zero] at H
        clear hwb
        try clear C
        try clear w17
        have C := H.cells
        try simp only [cellsOf, cellsM, apartOf, apartM, and_true] at C
        refine bodyPost_ret (v := .tuple #[.agg #[.int .i64 S, .int .i64 W, .int .i64 size, .slice (some ⟨g, 0, none⟩) qs.length c2], .agg #[.int .i64 0, .slice none 0 0, .bool false, .bool false], .bool false, .int .i64 0]) (by simp [results, Try.results24, go_sem, C]) rfl ?_
        have HRES := Lib.hid (show PutR S W size l ⟨ad, bs, d, p⟩ (onSet W s l (putG (rowG W l s) j ⟨ad, bs, d, p⟩), zLm, false, 0) from .inr (.inr ⟨HLB.out, HNH.out, s, j, HSS.out, HAS.out, HPA.out, by
          have hu : (rowG W l s j).u = false := HFR.out
          rw [hu]; rfl⟩))
        have H9 := HS.less (L' := [rowS (some ⟨g, 0, none⟩) qs.length c2 qs2, anyS F qs, .any G (fun w => BytesAt w ⟨ra, rn, rc⟩ bs)]) H (by repeat (first | exact .slnil | refine .cons_cons _ ?_ | refine .cons _ ?_))
        have H8 := HS.merge (L := [_]) H9
        have H7 := HS.weak (L := [_]) H8 (K' := fun w => SlotsOk w qs2 ∧ BytesAt w ⟨none, 0, 0⟩ []) (fun w' h => ⟨HOKQ.out w' h.1 h.2, bytes_nil w'⟩)
        rw [← HLQ.out] at H7 ⊢
        exact ⟨_, _, _, qs2, ⟨none, 0, 0⟩, _, HRES.out, HQ9.out, rfl, H7⟩
    · rw [HSL2.out] at hj
      skip
      have HIT := Lib.hid (find_hit HG.out HQS.out HSS.out hj hy)
      have HJ := Lib.hid hj
      have hjw : (j : Int) < W := by omega
      have hji : (0 : Int) ≤ j := by omega
      have HKQ := Lib.hid (show s * W + j < qs.length by have := HFIT.out; omega)
      have HOF := Lib.hid (Nat.add_mul (s * W) j 6)
      clear hy hj
      go_upto_region 9 with fail
      have LCP := Lib.hid (fun wx (hx : BytesAt wx ⟨ya, yn, yc⟩ bs) => (show Calls Try.prog 42 #[.agg #[.int .i64 ad, .slice ya yn yc, .bool d, .bool p]] wx (GivesLine ⟨ad, bs, d, p⟩ wx) from lcopy_any ⟨ad, bs, d, p⟩ ⟨ya, yn, yc⟩ HM.out wx hx))
      refine wp_region_xH (by kernel_rfl) (by kernel_rfl) (by kernel_rfl) (by kernel_rfl) (fun k => k = g) (H) ?_
      clear H; intro w19 H hz0 hs0
      try clear C
      try simp only [World.size_alloc, List.nil_append, List.cons_append, List.append_assoc] at H hz0
      clear hz0
      try clear w4
      have C := H.cells
      try simp only [cellsOf, cellsM, apartOf, apartM, and_true] at C
      have Z := H.zs
      try simp only [ltsOf, ltsM, and_true] at Z
      have hz0 := Nat.le_refl w19.heap.size
      have na1 := H.rowApart 4 7 rfl rfl (by decide)
      have na2 := H.rowApart 4 1 rfl rfl (by decide)
      repeat (first | (refine wpX_skip rfl ?_; go_simp) | (refine wpX_free rfl rfl rfl (fun K hK => ?_); go_step; refine hK _ _ ?_; clear hK K) | (refine wpX_load rfl rfl rfl (by simp [Stay, OneD, NoD, *]) hs0 (by simp [*]) (fun K hK => ?_); go_step; refine hK _ _ ?_; clear hK K))
      refine wpX_eff rfl rfl (fun _ _ => ?_)
      go_step
      refine (LCP.out _ (HBY.out.up H.done)).mono ?_
      rintro _ w20 ⟨⟨ra, rn, rc⟩, G, rfl, K⟩
      replace hs0 := hs0.belowS hz0 K.done
      replace hz0 := Nat.le_trans hz0 K.done.size
      replace H := H.join K (one_low rfl)
      clear K
      try simp only [List.nil_append, List.cons_append, List.append_assoc] at H
      try clear C
      have C := H.cells
      try simp only [cellsOf, cellsM, apartOf, apartM, and_true] at C
      try clear w19
      dsimp only
      go_step
      refine ⟨hs0, ?_⟩
      dsimp only [lnV]
      repeat (first | (refine wpX_skip rfl ?_; go_simp) | (refine wpX_free rfl rfl rfl (fun K hK => ?_); go_step; refine hK _ _ ?_; clear hK K) | (refine wpX_load rfl rfl rfl (by simp [Stay, OneD, NoD, *]) hs0 (by simp [*]) (fun K hK => ?_); go_step; refine hK _ _ ?_; clear hK K))
      have hk9 : ∀ m, m < 6 → ∃ u, w20.cell? ⟨g, s * W * 6 + j * 6 + m, none⟩ = some u ∧ w20.frozen? ⟨g, s * W * 6 + j * 6 + m, none⟩ = false := fun m hm => by
        rw [← Nat.add_mul]
        have := HKQ.out
        have h1 := H.rowCells 4 rfl ((s * W + j) * 6 + m) (by omega)
        exact ⟨_, h1.1.trans (List.getElem?_eq_getElem (by rw [flat_len swC_len]; have := HKQ.out; omega)), h1.2⟩
      obtain ⟨u2, q2, q2f⟩ : ∃ u, w20.cell? ⟨g, s * W * 6 + j * 6 + 2, none⟩ = some u ∧ w20.frozen? ⟨g, s * W * 6 + j * 6 + 2, none⟩ = false := hk9 2 (by omega)
      obtain ⟨u3, q3, q3f⟩ : ∃ u, w20.cell? ⟨g, s * W * 6 + j * 6 + 3, none⟩ = some u ∧ w20.frozen? ⟨g, s * W * 6 + j * 6 + 3, none⟩ = false := hk9 3 (by omega)
      obtain ⟨u4, q4, q4f⟩ : ∃ u, w20.cell? ⟨g, s * W * 6 + j * 6 + 4, none⟩ = some u ∧ w20.frozen? ⟨g, s * W * 6 + j * 6 + 4, none⟩ = false := hk9 4 (by omega)
      obtain ⟨u5, q5, q5f⟩ : ∃ u, w20.cell? ⟨g, s * W * 6 + j * 6 + 5, none⟩ = some u ∧ w20.frozen? ⟨g, s * W * 6 + j * 6 + 5, none⟩ = false := hk9 5 (by omega)
      have hgl9 : g < w20.heap.size := Item.lt (H.at 4 rfl) (k := g) rfl
      clear hk9
      refine wpX_eff rfl rfl (fun _ _ => ?_)
      go_step
      go_step
      generalize hwb : (((w20.setCell _ _).setCell _ _).setCell _ _).setCell _ _ = w23
      rw [← HOF.out] at hwb
      replace hs0 := Same.eqW hwb ((((hs0.set (p := ⟨g, (s * W + j) * 6 + 2, none⟩) (fun k hk e => hk.2 (by simp [e])) (.int .i64 ad)).set (p := ⟨g, (s * W + j) * 6 + 3, none⟩) (fun k hk e => hk.2 (by simp [e])) (.slice ra rn rc)).set (p := ⟨g, (s * W + j) * 6 + 4, none⟩) (fun k hk e => hk.2 (by simp [e])) (.bool d)).set (p := ⟨g, (s * W + j) * 6 + 5, none⟩) (fun k hk e => hk.2 (by simp [e])) (.bool p))
      replace H := HS.eqW hwb ((((H.rowSet 4 rfl ((s * W + j) * 6 + 2) (.int .i64 ad)).rowSet 4 rfl ((s * W + j) * 6 + 3) (.slice ra rn rc)).rowSet 4 rfl ((s * W + j) * 6 + 4) (.bool d)).rowSet 4 rfl ((s * W + j) * 6 + 5) (.bool p))
      clear hwb q2 q2f q3 q3f q4 q4f q5 q5f hgl9
      simp only [List.set_cons_succ, List.set_cons_zero] at H
      rw [sw_line qs (s * W + j) ⟨ad, bs, d, p⟩ ⟨ra, rn, rc⟩ HKQ.out] at H
      skip
      try clear C
      try simp only [World.size_alloc, List.nil_append, List.cons_append, List.append_assoc] at H
      have C := H.cells
      try simp only [cellsOf, cellsM, apartOf, apartM, and_true] at C
      refine ⟨hs0, ?_⟩
      (refine wpX_nil ?_; go_step)
      have HQ9 := Lib.hid (put_over HG.out HQS.out HSS.out HJ.out ⟨ad, bs, d, p⟩ ⟨ra, rn, rc⟩)
      have HTC := Lib.hid (fun wx hl => touch_at (N := qs.length) (s := s) (W := W) (r := j) (g := g) (c := c2) (c' := c2 - s * W) (qs := qs.set (s * W + j) ⟨⟨(qs[s * W + j]!).s.u, (qs[s * W + j]!).s.age, ⟨ad, bs, d, p⟩⟩, ⟨ra, rn, rc⟩⟩) (List.length_set) HFIT.out HJ.out (by have := HN32.out; omega) (put_ages HW4.out HGQ.out.ages HKQ.out (fun h => HGQ.out.ages _ HKQ.out h)) wx hl)
      have HOKQ := Lib.hid (fun (wx : World) (h : SlotsOk wx qs) (hr : BytesAt wx ⟨ra, rn, rc⟩ bs) => useQ_ok (W := W) (s := s) (r := j) (slotsOk_set (k := s * W + j) (q := ⟨⟨(qs[s * W + j]!).s.u, (qs[s * W + j]!).s.age, ⟨ad, bs, d, p⟩⟩, ⟨ra, rn, rc⟩⟩) h hr))
      have HLQ := Lib.hid (show (useQ W s j (qs.set (s * W + j) ⟨⟨(qs[s * W + j]!).s.u, (qs[s * W + j]!).s.age, ⟨ad, bs, d, p⟩⟩, ⟨ra, rn, rc⟩⟩)).length = qs.length by rw [useQ_len, List.length_set])
      generalize useQ W s j (qs.set (s * W + j) ⟨⟨(qs[s * W + j]!).s.u, (qs[s * W + j]!).s.age, ⟨ad, bs, d, p⟩⟩, ⟨ra, rn, rc⟩⟩) = qs2 at HTC HQ9 HOKQ HLQ
      go_wp2_with fail
      refine (HTC.out _ (H.at 4 rfl)).mono ?_
      rintro _ w9 ⟨rfl, K⟩
      replace H := H.turnOwn 4 rfl K
      clear K HTC
      try simp only [List.set_cons_succ, List.set_cons_zero] at H
      skip
      try clear C
      try simp only [World.size_alloc, List.nil_append, List.cons_append, List.append_assoc] at H
      have C := H.cells
      try simp only [cellsOf, cellsM, apartOf, apartM, and_true] at C
      dsimp only
      repeat go_step
      generalize hwb : (((w9.setCell _ _).setCell _ _).setCell _ _).setCell _ _ = w21
      replace H := HS.eqW hwb (H.putAll (i := 2) rfl (vs := [.int .i64 S, .int .i64 W, .int .i64 size, .slice (some ⟨g, 0, none⟩) qs.length c2]) rfl rfl)
      simp only [List.nil_append, List.cons_append, List.append_assoc, List.set_cons_succ, List.set_cons_zero] at H
      clear hwb
      try clear C
      try clear w9
      have C := H.cells
      try simp only [cellsOf, cellsM, apartOf, apartM, and_true] at C
      generalize hwb : (((w21.setCell _ _).setCell _ _).setCell _ _).setCell _ _ = w22
      replace H := HS.eqW hwb (H.putAll (i := 3) rfl (vs := [.int .i64 0, .slice none 0 0, .bool false, .bool false]) rfl rfl)
      simp only [List.nil_append, List.cons_append, List.append_assoc, List.set_cons_succ, List.set_cons_zero] at H
      clear hwb
      try clear C
      try clear w21
      have C := H.cells
      try simp only [cellsOf, cellsM, apartOf, apartM, and_true] at C
      refine bodyPost_ret (v := .tuple #[.agg #[.int .i64 S, .int .i64 W, .int .i64 size, .slice (some ⟨g, 0, none⟩) qs.length c2], .agg #[.int .i64 0, .slice none 0 0, .bool false, .bool false], .bool false, .int .i64 0]) (by simp [results, Try.results24, go_sem, C]) rfl ?_
      have H9 := HS.less (L' := [rowS (some ⟨g, 0, none⟩) qs.length c2 qs2, anyS F qs, .any G (fun w => BytesAt w ⟨ra, rn, rc⟩ bs)]) H (by repeat (first | exact .slnil | refine .cons_cons _ ?_ | refine .cons _ ?_))
      have H8 := HS.merge (L := [_]) H9
      have H7 := HS.weak (L := [_]) H8 (K' := fun w => SlotsOk w qs2 ∧ BytesAt w ⟨none, 0, 0⟩ []) (fun w' h => ⟨HOKQ.out w' h.1 h.2, bytes_nil w'⟩)
      rw [← HLQ.out] at H7 ⊢
      exact ⟨(onSet W s l (useG (lnG (rowG W l s) j ⟨ad, bs, d, p⟩) j), zLm, false, 0), _, _, qs2, ⟨none, 0, 0⟩, _, .inr (.inl ⟨HLB.out, s, j, HSS.out, HJ.out, HIT.out, rfl⟩), HQ9.out, rfl, H7⟩
end Go.Proofs.Ytfmcicmbehjdcaa
