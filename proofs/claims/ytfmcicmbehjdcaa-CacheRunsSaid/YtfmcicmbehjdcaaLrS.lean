/- cache.Drop. -/
import Derived.Test.YtfmcicmbehjdcaaLrO
import Derived.Test.YtfmcicmbehjdcaaLrR
namespace Go.Proofs.Ytfmcicmbehjdcaa
set_option linter.unusedSimpArgs false
set_option linter.unusedVariables false
open Go.RowKit
set_option maxRecDepth 100000
attribute [local irreducible] wpX wpF Calls

set_option maxHeartbeats 16000000 in
theorem cdrop_any {S W : Nat} {size : Int} {l : List Sm} (hg : GoodC S W size l) (x : Sv) (a : Int) (w : World) (h : SlotsAt w x l) :
    Calls Try.prog 22 #[caV S W size x, .int .i64 a] w (GivesLk S W size (DropR S W l a) w) := by
  obtain ⟨xa, xn, xc⟩ := x
  have HSL := Lib.hid h
  have HG := Lib.hid hg
  have HCP := Lib.hid (fun wx hx => ccopy_any S W size ⟨xa, xn, xc⟩ l hg.small wx hx)
  clear h hg
  show Calls Try.prog 22 #[.agg #[.int .i64 S, .int .i64 W, .int .i64 size, .slice xa xn xc], .int .i64 a] w _
  go_enter Try.func22, Try.ntmps22
  have H := HS.start NoD w
  go_upto_region 1 with fail
  generalize hwb : ((w.alloc _).alloc _).alloc _ = w1
  replace H := HS.eqW hwb H.alloc.alloc.alloc
  try simp only [World.size_alloc, List.nil_append, List.cons_append, List.append_assoc] at H
  clear hwb
  generalize w.heap.size + 2 = bL at H ⊢
  generalize w.heap.size + 1 = bR at H ⊢
  generalize w.heap.size = bX at H ⊢
  try clear C
  have C := H.cells
  try simp only [cellsOf, cellsM, apartOf, apartM, and_true] at C
  go_wp2_with fail
  refine (HCP.out _ (HSL.out.up H.done)).mono ?_
  rintro _ w22 ⟨s2, c2, qs, F, hqs, rfl, K⟩
  replace H := H.join K (two_low rfl rfl)
  have HQS := Lib.hid hqs
  clear K HCP HSL
  try simp only [List.nil_append, List.cons_append] at H
  skip
  try clear C
  try simp only [World.size_alloc, List.nil_append, List.cons_append, List.append_assoc] at H
  have C := H.cells
  try simp only [cellsOf, cellsM, apartOf, apartM, and_true] at C
  dsimp only [caV]
  have hgq : GoodC S W size (qs.map Sw.s) := by rw [hqs]; exact HG.out
  have hql : qs.length = l.length := by rw [← hqs, List.length_map]
  have hpos : 0 < qs.length := by
    rw [hql, HG.out.len]; exact Nat.mul_pos HG.out.S1 HG.out.W1
  have hln : ∀ j, j < qs.length → (qs[j]!).x.n = (qs[j]!).s.ln.bs.length := fun j hj => (H.says 4 rfl j hj).len
  have hcap : qs.length ≤ c2 := (row_capOk (H.at 3 rfl)).1
  obtain ⟨g, cap, hv, -, -⟩ := World.ownsRow.form (H.at 3 rfl) (by omega)
  obtain ⟨rfl, -, rfl⟩ := Value.slice.inj hv
  have HLC := Lib.hid (show qs.length ≤ c2 from hcap)
  have HQL := Lib.hid hql
  have HGQ := Lib.hid hgq
  have HLN := Lib.hid hln
  have HPOS := Lib.hid hpos
  clear hqs hgq hql hpos hln hv hcap
  go_upto_region 2 with fail
  generalize hwb : w22.alloc _ = w2
  replace H := HS.eqW hwb H.alloc
  try simp only [World.size_alloc, List.nil_append, List.cons_append, List.append_assoc] at H
  clear hwb
  generalize w22.heap.size = bO at H ⊢
  try clear C
  try clear w22
  have C := H.cells
  try simp only [cellsOf, cellsM, apartOf, apartM, and_true] at C
  have hlies := H.rowLies 3 swC_len rfl rfl
  have HFD := Lib.hid (fun (sa : Option Addr) (c : Nat) xs hx wx hl => cfind_any (sa := sa) c xs hx a wx hl)
  by_cases ha : a < 0
  · have HSN := Lib.hid (fun wx hl => cset_neg ⟨some ⟨g, 0, none⟩, qs.length, c2⟩ qs HGQ.out rfl ⟨HLC.out, fun e => nomatch e⟩ HLN.out a ha wx hl)
    have HNO := Lib.hid (HG.out.no_neg ha)
    have HLI := Lib.hid hlies
    clear hlies ha
    go_wp2_with fail
    refine (HSN.out _ (H.rowLies 3 swC_len rfl rfl)).mono ?_
    rintro _ w3 ⟨rfl, hb⟩
    replace H := H.below hb
    clear hb HSN HLI
    skip
    try clear C
    try simp only [World.size_alloc, List.nil_append, List.cons_append, List.append_assoc] at H
    have C := H.cells
    try simp only [cellsOf, cellsM, apartOf, apartM, and_true] at C
    dsimp only
    go_wp2_with fail
    refine (HFD.out none 0 [] (Nat.zero_le _) _ Lies.nil0).mono ?_
    rintro _ w4 ⟨r, rfl, hr, hb⟩
    replace H := H.below hb
    clear hb HFD
    skip
    try clear C
    try simp only [World.size_alloc, List.nil_append, List.cons_append, List.append_assoc] at H
    have C := H.cells
    try simp only [cellsOf, cellsM, apartOf, apartM, and_true] at C
    dsimp only
    obtain rfl : r = -1 := by
      rcases hr with ⟨h, -⟩ | ⟨i, h, -⟩
      · exact h
      · exact absurd h (Nat.not_lt_zero _)
    clear hr
    repeat go_step
    generalize hwb : (((w4.setCell _ _).setCell _ _).setCell _ _).setCell _ _ = w3
    replace H := HS.eqW hwb (H.putAll (i := 1) rfl (vs := [.int .i64 S, .int .i64 W, .int .i64 size, .slice (some ⟨g, 0, none⟩) qs.length c2]) rfl rfl)
    simp only [List.nil_append, List.cons_append, List.append_assoc, List.set_cons_succ, List.set_cons_zero] at H
    clear hwb
    try clear C
    try clear w4
    have C := H.cells
    try simp only [cellsOf, cellsM, apartOf, apartM, and_true] at C
    generalize hwb : (((w3.setCell _ _).setCell _ _).setCell _ _).setCell _ _ = w4
    replace H := HS.eqW hwb (H.putAll (i := 2) rfl (vs := [.int .i64 0, .slice none 0 0, .bool false, .bool false]) rfl rfl)
    simp only [List.nil_append, List.cons_append, List.append_assoc, List.set_cons_succ, List.set_cons_zero] at H
    clear hwb
    try clear C
    try clear w3
    have C := H.cells
    try simp only [cellsOf, cellsM, apartOf, apartM, and_true] at C
    refine bodyPost_ret (v := .tuple #[.agg #[.int .i64 S, .int .i64 W, .int .i64 size, .slice (some ⟨g, 0, none⟩) qs.length c2], .agg #[.int .i64 0, .slice none 0 0, .bool false, .bool false], .bool false]) (by simp [results, Try.results22, go_sem, C]) rfl ?_
    have H9 := HS.less (L' := [rowS (some ⟨g, 0, none⟩) qs.length c2 qs, anyS F qs]) H (by repeat (first | exact .slnil | refine .cons_cons _ ?_ | refine .cons _ ?_))
    exact ⟨(l, zLm, false), _, c2, qs, ⟨none, 0, 0⟩, F, .inl ⟨HNO.out, rfl⟩, HQS.out, rfl, HS.weak (L := [_]) H9 fun w' h => ⟨h, bytes_nil w'⟩⟩
  · have hS1 := HG.out.S1
    obtain ⟨s, hs⟩ : ∃ s : Nat, a % S = s := ⟨(a % S).toNat, by rw [Int.toNat_of_nonneg (Int.emod_nonneg _ (by omega))]⟩
    have hsS : s < S := by have := Int.emod_lt_of_pos a (show (0 : Int) < S by omega); omega
    have hfit := HGQ.out.fits hsS
    rw [List.length_map] at hfit
    have HSP := Lib.hid (fun wx hl => cset_pos (o := 0) (b := g) qs HGQ.out rfl HLC.out HLN.out a s (by omega) hs wx hl)
    have HAS := Lib.hid hs
    have HSS := Lib.hid hsS
    have HFIT := Lib.hid hfit
    have HW4 := Lib.hid HG.out.W4
    have HSL2 := Lib.hid (setOf_len hfit)
    clear hlies ha hs hsS hfit hS1
    go_wp2_with fail
    refine (HSP.out _ (H.rowLies 3 swC_len rfl rfl)).mono ?_
    rintro _ w3 ⟨rfl, hb⟩
    replace H := H.below hb
    clear hb HSP
    skip
    try clear C
    try simp only [World.size_alloc, List.nil_append, List.cons_append, List.append_assoc] at H
    have C := H.cells
    try simp only [cellsOf, cellsM, apartOf, apartM, and_true] at C
    dsimp only
    have HFS := Lib.hid (show ∀ wx, Lies wx wx.heap.size (some ⟨g, s * W * 6, none⟩) 6 (setOf W qs s).length (fun j => swC (setOf W qs s)[j]!) → Calls Try.prog 40 #[.slice (some ⟨g, s * W * 6, none⟩) W (c2 - s * W), .int .i64 a] wx (FindPostSl (isAd a) (setOf W qs s) wx) from fun wx hl => by
      have h1 := HFD.out (some ⟨g, s * W * 6, none⟩) (c2 - s * W) (setOf W qs s) (by rw [HSL2.out]; have := HW4.out; omega) wx hl
      rw [HSL2.out] at h1
      exact h1)
    have HSLI := Lib.hid (fun wx hl => setOf_lies (w := wx) (B := wx.heap.size) (g := g) HFIT.out hl)
    clear HFD
    go_wp2_with fail
    refine (HFS.out _ (HSLI.out _ (H.rowLies 3 swC_len rfl rfl))).mono ?_
    rintro _ w4 ⟨r, rfl, hr, hb⟩
    replace H := H.below hb
    clear hb HFS
    skip
    try clear C
    try simp only [World.size_alloc, List.nil_append, List.cons_append, List.append_assoc] at H
    have C := H.cells
    try simp only [cellsOf, cellsM, apartOf, apartM, and_true] at C
    dsimp only
    rcases hr with ⟨rfl, hno⟩ | ⟨j, hj, rfl, hy, -⟩
    · have HNO := Lib.hid (find_whole HG.out HQS.out HSS.out HAS.out hno)
      clear hno
      repeat go_step
      generalize hwb : (((w4.setCell _ _).setCell _ _).setCell _ _).setCell _ _ = w5
      replace H := HS.eqW hwb (H.putAll (i := 1) rfl (vs := [.int .i64 S, .int .i64 W, .int .i64 size, .slice (some ⟨g, 0, none⟩) qs.length c2]) rfl rfl)
      simp only [List.nil_append, List.cons_append, List.append_assoc, List.set_cons_succ, List.set_cons_zero] at H
      clear hwb
      try clear C
      try clear w4
      have C := H.cells
      try simp only [cellsOf, cellsM, apartOf, apartM, and_true] at C
      generalize hwb : (((w5.setCell _ _).setCell _ _).setCell _ _).setCell _ _ = w6
      replace H := HS.eqW hwb (H.putAll (i := 2) rfl (vs := [.int .i64 0, .slice none 0 0, .bool false, .bool false]) rfl rfl)
      simp only [List.nil_append, List.cons_append, List.append_assoc, List.set_cons_succ, List.set_cons_zero] at H
      clear hwb
      try clear C
      try clear w5
      have C := H.cells
      try simp only [cellsOf, cellsM, apartOf, apartM, and_true] at C
      refine bodyPost_ret (v := .tuple #[.agg #[.int .i64 S, .int .i64 W, .int .i64 size, .slice (some ⟨g, 0, none⟩) qs.length c2], .agg #[.int .i64 0, .slice none 0 0, .bool false, .bool false], .bool false]) (by simp [results, Try.results22, go_sem, C]) rfl ?_
      have H9 := HS.less (L' := [rowS (some ⟨g, 0, none⟩) qs.length c2 qs, anyS F qs]) H (by repeat (first | exact .slnil | refine .cons_cons _ ?_ | refine .cons _ ?_))
      exact ⟨(l, zLm, false), _, c2, qs, ⟨none, 0, 0⟩, F, .inl ⟨HNO.out, rfl⟩, HQS.out, rfl, HS.weak (L := [_]) H9 fun w' h => ⟨h, bytes_nil w'⟩⟩
    · rw [HSL2.out] at hj
      have HIT := Lib.hid (find_hit HG.out HQS.out HSS.out hj hy)
      have hjw : (j : Int) < W := by omega
      skip
      have hji : ¬ ((j : Int) < 0) := by omega
      have HJ := Lib.hid hj
      have HKQ := Lib.hid (show s * W + j < qs.length by have := HFIT.out; omega)
      have HSJ := Lib.hid (rowG_map HQS.out HKQ.out)
      have HOF := Lib.hid (Nat.add_mul (s * W) j 6)
      have HBYO := Lib.hid (fun wx (h : SlotsOk wx qs) => h (s * W + j) HKQ.out)
      have HFG := Lib.hid (fun m v => flat_get swC_len qs (s * W + j) m v HKQ.out)
      have HDA := Lib.hid (show (dropQ (s * W) W j qs) = decK (s * W) (s * W + W) (qs[s * W + j]!).s.age ((moveQ (s * W) W j qs).set (s * W + (W - 1)) zSw) from rfl)
      have HAB := Lib.hid (HGQ.out.ages _ HKQ.out)
      have HAGES := Lib.hid HGQ.out.ages
      obtain ⟨sk, hsk⟩ : ∃ q, q = qs[s * W + j]! := ⟨_, rfl⟩
      rw [← hsk] at HSJ HBYO HFG HDA HAB
      have HUS := Lib.hid (show sk.s.u = true by rw [hsk]; have := HIT.out.1; rw [← HQS.out, map_get _ _ _ HKQ.out] at this; exact this)
      obtain ⟨⟨u0, ag0, ⟨ad0, bs0, d0, p0⟩⟩, ⟨y0, yn0, yc0⟩⟩ := sk
      have hagb := HAB.out HUS.out
      clear hsk HUS
      dsimp only at hagb
      have hgl : g < w4.heap.size := Item.lt (H.at 3 rfl) (k := g) rfl
      have hcc : ∀ (m : Nat) (v : Value), m < 6 → (swC ⟨⟨u0, ag0, ⟨ad0, bs0, d0, p0⟩⟩, ⟨y0, yn0, yc0⟩⟩)[m]? = some v → w4.cell? ⟨g, s * W * 6 + j * 6 + m, none⟩ = some v := fun m v hm hv => by
        rw [← Nat.add_mul]
        have := HKQ.out
        exact (H.rowCells 3 rfl ((s * W + j) * 6 + m) (by omega)).1.trans (HFG.out m v hv)
      have k0 : w4.cell? ⟨g, s * W * 6 + j * 6, none⟩ = some (.bool u0) := hcc 0 _ (by omega) rfl
      have k1 : w4.cell? ⟨g, s * W * 6 + j * 6 + 1, none⟩ = some (.int .i64 ag0) := hcc 1 _ (by omega) rfl
      have k2 : w4.cell? ⟨g, s * W * 6 + j * 6 + 2, none⟩ = some (.int .i64 ad0) := hcc 2 _ (by omega) rfl
      have k3 : w4.cell? ⟨g, s * W * 6 + j * 6 + 3, none⟩ = some (.slice y0 yn0 yc0) := hcc 3 _ (by omega) rfl
      have k4 : w4.cell? ⟨g, s * W * 6 + j * 6 + 4, none⟩ = some (.bool d0) := hcc 4 _ (by omega) rfl
      have k5 : w4.cell? ⟨g, s * W * 6 + j * 6 + 5, none⟩ = some (.bool p0) := hcc 5 _ (by omega) rfl
      clear hcc hy HSLI
      go_upto_region 7 with fail
      clear k0 k1 k2 k3 k4 k5 hgl
      generalize hwb : w4.alloc _ = w7
      replace H := HS.eqW hwb H.alloc
      try simp only [World.size_alloc, List.nil_append, List.cons_append, List.append_assoc] at H
      clear hwb
      generalize w4.heap.size = bG at H ⊢
      try clear C
      try clear w4
      have C := H.cells
      try simp only [cellsOf, cellsM, apartOf, apartM, and_true] at C
      have HCAPW := Lib.hid (show W ≤ c2 - s * W by have := HFIT.out; have := HLC.out; omega)
      have hjle : (j : Int) ≤ W := by omega
      have hj1 : (j : Int) + 1 ≤ W := by omega
      have hcw : (W : Int) ≤ ((c2 - s * W : Nat) : Int) := by have := HCAPW.out; omega
      have hcj : ¬ (c2 - s * W = j) := by have := HCAPW.out; omega
      obtain ⟨ad9, had1, had2⟩ : ∃ ad9 : Addr, (if c2 - s * W = j + 1 then some ⟨g, s * W * 6, none⟩ else some ⟨g, s * W * 6 + (j + 1) * 6, none⟩ : Option Addr) = some ad9 ∧ (0 < W - (j + 1) → ad9 = ⟨g, s * W * 6 + (j + 1) * 6, none⟩) := by
        by_cases e : c2 - s * W = j + 1
        · rw [if_pos e]; exact ⟨_, rfl, fun h => by have := HCAPW.out; omega⟩
        · rw [if_neg e]; exact ⟨_, rfl, fun h => rfl⟩
      have HAD := Lib.hid had2
      have hj0 : (0 : Int) ≤ (j : Int) + 1 := by omega
      have hjn : ((j : Int) + 1).toNat = j + 1 := by omega
      have hW4 : (W : Int) ≤ 4 := by have := HW4.out; omega
      clear had2
      refine wp_region_xH (by kernel_rfl) (by kernel_rfl) (by kernel_rfl) (by kernel_rfl) (fun k => k = g) (H) ?_
      clear H; intro w8 H hz0 hs0
      try clear C
      try simp only [World.size_alloc, List.nil_append, List.cons_append, List.append_assoc] at H hz0
      clear hz0
      try clear w7
      have C := H.cells
      try simp only [cellsOf, cellsM, apartOf, apartM, and_true] at C
      have Z := H.zs
      try simp only [ltsOf, ltsM, and_true] at Z
      have hz0 := Nat.le_refl w8.heap.size
      repeat (first | (refine wpX_skip rfl ?_; go_simp) | (refine wpX_free rfl rfl rfl (fun K hK => ?_); go_step; refine hK _ _ ?_; clear hK K) | (refine wpX_load rfl rfl rfl (by simp [Stay, OneD, NoD, *]) hs0 (by simp [*]) (fun K hK => ?_); go_step; refine hK _ _ ?_; clear hK K))
      (refine wpX_yield rfl rfl ((.slice (some ⟨g, s * W * 6 + j * 6, none⟩) (W - j) (c2 - s * W - j))) (fun w hw => by go_simp) ?_; go_simp)
      repeat (first | (refine wpX_skip rfl ?_; go_simp) | (refine wpX_free rfl rfl rfl (fun K hK => ?_); go_step; refine hK _ _ ?_; clear hK K) | (refine wpX_load rfl rfl rfl (by simp [Stay, OneD, NoD, *]) hs0 (by simp [*]) (fun K hK => ?_); go_step; refine hK _ _ ?_; clear hK K))
      (refine wpX_yield rfl rfl ((.slice (some ad9) (W - (j + 1)) (c2 - s * W - (j + 1)))) (fun w hw => by go_simp) ?_; go_simp)
      refine wpX_eff rfl rfl (fun _ _ => ?_)
      go_step
      have hcp := run_moves (ty := 3) (dc := c2 - s * W - j) (sc := c2 - s * W - (j + 1)) (qs := qs) rfl HFIT.out HJ.out HAD.out w8 (H.at 3 rfl)
      rw [hcp]
      clear hcp
      dsimp only [Result.andThen, Oper.upon]
      go_step
      generalize hwb : World.setCells _ _ _ _ = w9
      replace hs0 := Same.eqW hwb (hs0.setCells (fun k hk e => hk.2 (by simp [e])) _ _)
      replace hz0 := Nat.le_trans hz0 (Nat.le_of_eq ((below_cells ((movedQ (s * W) W j qs).flatMap swC) ((s * W + j) * 6) w8).2.2.2.1.symm.trans (congrArg (fun w => w.heap.size) hwb)))
      replace H := HS.eqW hwb (HS.rowSets 3 _ _ H rfl)
      clear hwb
      simp only [List.set_cons_succ, List.set_cons_zero] at H
      rw [moveQ_flat HFIT.out HJ.out] at H
      skip
      try clear C
      try simp only [World.size_alloc, List.nil_append, List.cons_append, List.append_assoc] at H
      have C := H.cells
      try simp only [cellsOf, cellsM, apartOf, apartM, and_true] at C
      refine ⟨hs0, ?_⟩
      (refine wpX_nil ?_; go_step)
      clear hs0 hz0 Z had1
      have HMV := Lib.hid (moveQ_len (s * W) W j qs)
      have HMX := Lib.hid (show moveQ (s * W) W j qs = moveQ (s * W) W j qs from rfl)
      obtain ⟨qm, hqm⟩ : ∃ q, q = moveQ (s * W) W j qs := ⟨_, rfl⟩
      rw [← hqm] at H HDA HMV
      have HQM := Lib.hid hqm
      clear hqm HMX
      have hw1 : ((W : Int) - 1).toNat = W - 1 := by omega
      have hw2 : (0 : Int) ≤ (W : Int) - 1 := by omega
      have hw3 : (W : Int) - 1 < W := by omega
      have hkl : s * W + (W - 1) < qs.length := by have := HFIT.out; omega
      have hgl : g < w9.heap.size := Item.lt (H.at 3 rfl) (k := g) rfl
      have hk9 : ∀ m, m < 6 → ∃ u, w9.cell? ⟨g, s * W * 6 + (W - 1) * 6 + m, none⟩ = some u ∧ w9.frozen? ⟨g, s * W * 6 + (W - 1) * 6 + m, none⟩ = false := fun m hm => by
        rw [← Nat.add_mul]
        have h1 := H.rowCells 3 rfl ((s * W + (W - 1)) * 6 + m) (by omega)
        exact ⟨_, h1.1.trans (List.getElem?_eq_getElem (by rw [flat_len swC_len, HMV.out]; omega)), h1.2⟩
      obtain ⟨vv0, q0, q0f⟩ : ∃ u, w9.cell? ⟨g, s * W * 6 + (W - 1) * 6, none⟩ = some u ∧ w9.frozen? ⟨g, s * W * 6 + (W - 1) * 6, none⟩ = false := hk9 0 (by omega)
      obtain ⟨vv1, q1, q1f⟩ : ∃ u, w9.cell? ⟨g, s * W * 6 + (W - 1) * 6 + 1, none⟩ = some u ∧ w9.frozen? ⟨g, s * W * 6 + (W - 1) * 6 + 1, none⟩ = false := hk9 1 (by omega)
      obtain ⟨vv2, q2, q2f⟩ : ∃ u, w9.cell? ⟨g, s * W * 6 + (W - 1) * 6 + 2, none⟩ = some u ∧ w9.frozen? ⟨g, s * W * 6 + (W - 1) * 6 + 2, none⟩ = false := hk9 2 (by omega)
      obtain ⟨vv3, q3, q3f⟩ : ∃ u, w9.cell? ⟨g, s * W * 6 + (W - 1) * 6 + 3, none⟩ = some u ∧ w9.frozen? ⟨g, s * W * 6 + (W - 1) * 6 + 3, none⟩ = false := hk9 3 (by omega)
      obtain ⟨vv4, q4, q4f⟩ : ∃ u, w9.cell? ⟨g, s * W * 6 + (W - 1) * 6 + 4, none⟩ = some u ∧ w9.frozen? ⟨g, s * W * 6 + (W - 1) * 6 + 4, none⟩ = false := hk9 4 (by omega)
      obtain ⟨vv5, q5, q5f⟩ : ∃ u, w9.cell? ⟨g, s * W * 6 + (W - 1) * 6 + 5, none⟩ = some u ∧ w9.frozen? ⟨g, s * W * 6 + (W - 1) * 6 + 5, none⟩ = false := hk9 5 (by omega)
      have HKL := Lib.hid hkl
      have HOZ := Lib.hid (Nat.add_mul (s * W) (W - 1) 6)
      clear hk9 hkl
      go_upto_region 9 with fail
      generalize hwb : World.setCell _ _ _ = w10
      rw [← HOZ.out] at hwb
      replace H := HS.eqW hwb ((((((H.rowSet 3 rfl ((s * W + (W - 1)) * 6) (.bool false)).rowSet 3 rfl ((s * W + (W - 1)) * 6 + 1) (.int .i64 0)).rowSet 3 rfl ((s * W + (W - 1)) * 6 + 2) (.int .i64 0)).rowSet 3 rfl ((s * W + (W - 1)) * 6 + 3) (.slice none 0 0)).rowSet 3 rfl ((s * W + (W - 1)) * 6 + 4) (.bool false)).rowSet 3 rfl ((s * W + (W - 1)) * 6 + 5) (.bool false))
      clear hwb q0 q1 q2 q3 q4 q5 q0f q1f q2f q3f q4f q5f hgl hw1 hw2 hw3
      simp only [List.set_cons_succ, List.set_cons_zero] at H
      rw [show ((((((qm.flatMap swC).set ((s * W + (W - 1)) * 6) (.bool false)).set ((s * W + (W - 1)) * 6 + 1) (.int .i64 0)).set ((s * W + (W - 1)) * 6 + 2) (.int .i64 0)).set ((s * W + (W - 1)) * 6 + 3) (.slice none 0 0)).set ((s * W + (W - 1)) * 6 + 4) (.bool false)).set ((s * W + (W - 1)) * 6 + 5) (.bool false) = (qm.set (s * W + (W - 1)) zSw).flatMap swC from sw_all qm (s * W + (W - 1)) zSw (by rw [HMV.out]; exact HKL.out)] at H
      have HZL := Lib.hid (show (qm.set (s * W + (W - 1)) zSw).length = qs.length by rw [List.length_set]; exact HMV.out)
      have HAG2 := Lib.hid (show ∀ t, t < qs.length → ((qm.set (s * W + (W - 1)) zSw)[t]!).s.u = true → 0 ≤ ((qm.set (s * W + (W - 1)) zSw)[t]!).s.age ∧ ((qm.set (s * W + (W - 1)) zSw)[t]!).s.age < 1000 from fun t ht => put_ages HW4.out (qs := qm) (fun i hi => by
        have hi' : i < qs.length := by rw [← HMV.out]; exact hi
        rw [HQM.out, moveQ_get hi']
        split
        · have := HFIT.out; exact HAGES.out (i + 1) (by omega)
        · exact HAGES.out i hi') (k := s * W + (W - 1)) (q := zSw) (by rw [HMV.out]; exact HKL.out) (fun h => nomatch h) t (by rw [List.length_set, HMV.out]; exact ht))
      generalize qm.set (s * W + (W - 1)) zSw = qz at H HDA HZL HAG2
      skip
      try clear C
      try simp only [World.size_alloc, List.nil_append, List.cons_append, List.append_assoc] at H
      have C := H.cells
      try simp only [cellsOf, cellsM, apartOf, apartM, and_true] at C
      go_wp2_with fail
      go_loopw [11, 44] (fun _ kk wr => ∃ (k : Nat), kk = .int .i64 k ∧ k ≤ W ∧ HS NoD w [.blk bX #[.int .i64 S, .int .i64 W, .int .i64 size, .slice xa xn xc] 24, .blk bR #[.int .i64 0, .int .i64 0, .int .i64 0, .slice none 0 0] 24, .blk bL #[.int .i64 0, .slice none 0 0, .bool false, .bool false] 35, rowS (some ⟨g, 0, none⟩) qs.length c2 (decK (s * W) (s * W + k) ag0 qz), anyS F qs, .blk bO #[.int .i64 S, .int .i64 W, .int .i64 size, .slice (some ⟨g, 0, none⟩) qs.length c2] 24, .blk bG #[.bool u0, .int .i64 ag0, .int .i64 ad0, .slice y0 yn0 yc0, .bool d0, .bool p0] 37] wr) (fun _ kk _ => W - (intOf kk).toNat)
      case atStart => exact ⟨0, rfl, Nat.zero_le _, by rw [Nat.add_zero, decK_zero]; exact H⟩
      case round =>
        clear H C
        obtain ⟨k, rfl, hk, H⟩ := hrel
        skip
        try clear C
        try simp only [World.size_alloc, List.nil_append, List.cons_append, List.append_assoc] at H
        have C := H.cells
        try simp only [cellsOf, cellsM, apartOf, apartM, and_true] at C
        by_cases hlt : k < W
        · have hkl : s * W + k < qs.length := by have := HFIT.out; omega
          have hki : (k : Int) < W := by omega
          have hkz : s * W + k < qz.length := by rw [HZL.out]; exact hkl
          have e1 := decK_out (lo := s * W) (a := ag0) hkz (Nat.le_refl (s * W + k))
          have HYES := Lib.hid (decK_yes (lo := s * W) (a := ag0) hkz (Nat.le_add_right _ _))
          have HNO := Lib.hid (decK_no (lo := s * W) (a := ag0) hkz)
          have HABK := Lib.hid (HAG2.out (s * W + k) hkl)
          have HSW := Lib.hid (sw_age (decK (s * W) (s * W + k) ag0 qz) (s * W + k) ((qz[s * W + k]!).s.age - 1) (by rw [decK_len]; exact hkz))
          rw [e1] at HSW
          obtain ⟨q, hq⟩ : ∃ q, q = qz[s * W + k]! := ⟨_, rfl⟩
          rw [← hq] at HYES HNO HABK HSW
          have EK := Lib.hid (e1.trans hq.symm)
          clear hq e1
          obtain ⟨⟨u, age, ad, bs, d, p⟩, ⟨sa, sn, sc⟩⟩ := q
          have HCG := Lib.hid (show ∀ (m : Nat) (v : Value), (swC ⟨⟨u, age, ⟨ad, bs, d, p⟩⟩, ⟨sa, sn, sc⟩⟩)[m]? = some v → ((decK (s * W) (s * W + k) ag0 qz).flatMap swC)[(s * W + k) * 6 + m]? = some v from fun m v hu => flat_get swC_len (decK (s * W) (s * W + k) ag0 qz) (s * W + k) m v (by rw [decK_len]; exact hkz) (by rw [EK.out]; exact hu))
          have HOK := Lib.hid (Nat.add_mul (s * W) k 6)
          dsimp only at HYES HNO HABK HSW
          clear hkz
          skip
          cases u
          case false =>
            have HN2 := Lib.hid (HNO.out (fun h => nomatch h.1))
            go_upto_region 12 with fail
            refine wp_region_xH (by kernel_rfl) (by kernel_rfl) (by kernel_rfl) (by kernel_rfl) (fun _ => False) (H) ?_
            clear H; intro w9 H hz0 hs0
            try clear C
            try simp only [World.size_alloc, List.nil_append, List.cons_append, List.append_assoc] at H hz0
            clear hz0
            try clear wr
            have C := H.cells
            try simp only [cellsOf, cellsM, apartOf, apartM, and_true] at C
            have Z := H.zs
            try simp only [ltsOf, ltsM, and_true] at Z
            have hz0 := Nat.le_refl w9.heap.size
            have hgl : g < w9.heap.size := Item.lt (H.at 3 rfl) (k := g) rfl
            have nag := H.rowApart 3 6 rfl rfl (by decide)
            have k0 : w9.cell? ⟨g, s * W * 6 + k * 6, none⟩ = some (.bool false) := by rw [← HOK.out]; exact (H.rowCells 3 rfl ((s * W + k) * 6) (by omega)).1.trans (HCG.out 0 _ rfl)
            have k1 : w9.cell? ⟨g, s * W * 6 + k * 6 + 1, none⟩ = some (.int .i64 age) := by rw [← HOK.out]; exact (H.rowCells 3 rfl ((s * W + k) * 6 + 1) (by omega)).1.trans (HCG.out 1 _ rfl)
            have k1f : w9.frozen? ⟨g, s * W * 6 + k * 6 + 1, none⟩ = false := by rw [← HOK.out]; exact (H.rowCells 3 rfl ((s * W + k) * 6 + 1) (by omega)).2
            repeat (first | (refine wpX_skip rfl ?_; go_simp) | (refine wpX_free rfl rfl rfl (fun K hK => ?_); go_step; refine hK _ _ ?_; clear hK K) | (refine wpX_load rfl rfl rfl (by simp [Stay, OneD, NoD, *]) hs0 (by simp [*]) (fun K hK => ?_); go_step; refine hK _ _ ?_; clear hK K))
            (refine wpX_nil ?_; go_step)
            go_wp2_with fail
            go_roundw
            case rel => exact ⟨k + 1, by go_num, by omega, by rw [← Nat.add_assoc, ← HN2.out]; exact H⟩
            case measure => simp [intOf]; omega
          case true =>
            have hab := HABK.out rfl
            by_cases hage : ag0 < age
            · have HY2 := Lib.hid (HYES.out ⟨rfl, hage⟩)
              skip
              go_upto_region 12 with fail
              refine wp_region_xH (by kernel_rfl) (by kernel_rfl) (by kernel_rfl) (by kernel_rfl) (fun _ => False) (H) ?_
              clear H; intro w10 H hz0 hs0
              try clear C
              try simp only [World.size_alloc, List.nil_append, List.cons_append, List.append_assoc] at H hz0
              clear hz0
              try clear wr
              have C := H.cells
              try simp only [cellsOf, cellsM, apartOf, apartM, and_true] at C
              have Z := H.zs
              try simp only [ltsOf, ltsM, and_true] at Z
              have hz0 := Nat.le_refl w10.heap.size
              have hgl : g < w10.heap.size := Item.lt (H.at 3 rfl) (k := g) rfl
              have nag := H.rowApart 3 6 rfl rfl (by decide)
              have k0 : w10.cell? ⟨g, s * W * 6 + k * 6, none⟩ = some (.bool true) := by rw [← HOK.out]; exact (H.rowCells 3 rfl ((s * W + k) * 6) (by omega)).1.trans (HCG.out 0 _ rfl)
              have k1 : w10.cell? ⟨g, s * W * 6 + k * 6 + 1, none⟩ = some (.int .i64 age) := by rw [← HOK.out]; exact (H.rowCells 3 rfl ((s * W + k) * 6 + 1) (by omega)).1.trans (HCG.out 1 _ rfl)
              have k1f : w10.frozen? ⟨g, s * W * 6 + k * 6 + 1, none⟩ = false := by rw [← HOK.out]; exact (H.rowCells 3 rfl ((s * W + k) * 6 + 1) (by omega)).2
              repeat (first | (refine wpX_skip rfl ?_; go_simp) | (refine wpX_free rfl rfl rfl (fun K hK => ?_); go_step; refine hK _ _ ?_; clear hK K) | (refine wpX_load rfl rfl rfl (by simp [Stay, OneD, NoD, *]) hs0 (by simp [*]) (fun K hK => ?_); go_step; refine hK _ _ ?_; clear hK K))
              (refine wpX_nil ?_; go_step)
              have hgl : g < w10.heap.size := Item.lt (H.at 3 rfl) (k := g) rfl
              go_upto_region 14 with fail
              generalize hwb : World.setCell _ _ _ = w11
              rw [← HOK.out] at hwb
              have H9 := HS.eqW hwb (H.rowSet 3 rfl ((s * W + k) * 6 + 1) (.int .i64 (age - 1)))
              simp only [List.set_cons_succ, List.set_cons_zero] at H9
              replace HSW := Lib.hid (HSW.out.trans (congrArg (fun z : List Sw => z.flatMap swC) HY2.out))
              rw [HSW.out] at H9
              clear H C k0 k1 k1f hgl hwb
              go_wp2_with fail
              go_roundw
              case rel => exact ⟨k + 1, by go_num, by omega, H9⟩
              case measure => simp [intOf]; omega
            · have HN2 := Lib.hid (HNO.out (fun h => hage h.2))
              skip
              go_upto_region 12 with fail
              refine wp_region_xH (by kernel_rfl) (by kernel_rfl) (by kernel_rfl) (by kernel_rfl) (fun _ => False) (H) ?_
              clear H; intro w11 H hz0 hs0
              try clear C
              try simp only [World.size_alloc, List.nil_append, List.cons_append, List.append_assoc] at H hz0
              clear hz0
              try clear wr
              have C := H.cells
              try simp only [cellsOf, cellsM, apartOf, apartM, and_true] at C
              have Z := H.zs
              try simp only [ltsOf, ltsM, and_true] at Z
              have hz0 := Nat.le_refl w11.heap.size
              have hgl : g < w11.heap.size := Item.lt (H.at 3 rfl) (k := g) rfl
              have nag := H.rowApart 3 6 rfl rfl (by decide)
              have k0 : w11.cell? ⟨g, s * W * 6 + k * 6, none⟩ = some (.bool true) := by rw [← HOK.out]; exact (H.rowCells 3 rfl ((s * W + k) * 6) (by omega)).1.trans (HCG.out 0 _ rfl)
              have k1 : w11.cell? ⟨g, s * W * 6 + k * 6 + 1, none⟩ = some (.int .i64 age) := by rw [← HOK.out]; exact (H.rowCells 3 rfl ((s * W + k) * 6 + 1) (by omega)).1.trans (HCG.out 1 _ rfl)
              have k1f : w11.frozen? ⟨g, s * W * 6 + k * 6 + 1, none⟩ = false := by rw [← HOK.out]; exact (H.rowCells 3 rfl ((s * W + k) * 6 + 1) (by omega)).2
              repeat (first | (refine wpX_skip rfl ?_; go_simp) | (refine wpX_free rfl rfl rfl (fun K hK => ?_); go_step; refine hK _ _ ?_; clear hK K) | (refine wpX_load rfl rfl rfl (by simp [Stay, OneD, NoD, *]) hs0 (by simp [*]) (fun K hK => ?_); go_step; refine hK _ _ ?_; clear hK K))
              (refine wpX_nil ?_; go_step)
              go_wp2_with fail
              go_roundw
              case rel => exact ⟨k + 1, by go_num, by omega, by rw [← Nat.add_assoc, ← HN2.out]; exact H⟩
              case measure => simp [intOf]; omega
        · obtain rfl : k = W := by omega
          skip
          have HQ2 := Lib.hid (dropQ_map HQS.out HFIT.out HJ.out)
          have HQ3 := Lib.hid (fun (wx : World) (h : SlotsOk wx qs) => dropQ_ok (lo := s * k) (j := j) HFIT.out h)
          have HQ4 := Lib.hid (dropQ_len (s * k) k j qs)
          rw [HDA.out] at HQ2 HQ3 HQ4
          try dsimp only at HQ2 HQ3 HQ4
          generalize decK (s * k) (s * k + k) ag0 qz = qs2 at H HQ2 HQ3 HQ4
          have HRES := Lib.hid (show DropR S k l a (onSet k s l (dropG k (rowG k l s) j), (l[s * k + j]!).ln, true) from .inr ⟨s, j, HSS.out, HJ.out, HIT.out, rfl⟩)
          have hln2 : (l[s * k + j]!).ln = ⟨ad0, bs0, d0, p0⟩ := by
            have := HSJ.out
            unfold rowG at this
            rw [this]
          rw [hln2] at HRES
          clear hln2
          go_wp2_with fail
          refine wp_region_xH (by kernel_rfl) (by kernel_rfl) (by kernel_rfl) (by kernel_rfl) (fun k => k = bR ∨ k = bL) (H) ?_
          clear H; intro w12 H hz0 hs0
          try clear C
          try simp only [World.size_alloc, List.nil_append, List.cons_append, List.append_assoc] at H hz0
          clear hz0
          try clear wr
          have C := H.cells
          try simp only [cellsOf, cellsM, apartOf, apartM, and_true] at C
          have Z := H.zs
          try simp only [ltsOf, ltsM, and_true] at Z
          have hz0 := Nat.le_refl w12.heap.size
          repeat (first | (refine wpX_skip rfl ?_; go_simp) | (refine wpX_free rfl rfl rfl (fun K hK => ?_); go_step; refine hK _ _ ?_; clear hK K) | (refine wpX_load rfl rfl rfl (by simp [Stay, OneD, NoD, *]) hs0 (by simp [*]) (fun K hK => ?_); go_step; refine hK _ _ ?_; clear hK K))
          refine wpX_eff rfl rfl (fun _ _ => ?_)
          go_step
          go_step
          generalize hwb : (((w12.setCell _ _).setCell _ _).setCell _ _).setCell _ _ = w13
          replace hs0 := Same.eqW hwb (hs0.setAll (b := bR) (fun k hk e => hk.2 (by simp [e])) 0 [.int .i64 S, .int .i64 k, .int .i64 size, .slice (some ⟨g, 0, none⟩) qs.length c2])
          replace hz0 := Nat.le_trans hz0 (Nat.le_of_eq ((setAll_same [.int .i64 S, .int .i64 k, .int .i64 size, .slice (some ⟨g, 0, none⟩) qs.length c2] bR 0 w12).2.2.2.1.symm.trans (congrArg (fun w => w.heap.size) hwb)))
          replace H := HS.eqW hwb (H.putAll (i := 1) rfl (vs := [.int .i64 S, .int .i64 k, .int .i64 size, .slice (some ⟨g, 0, none⟩) qs.length c2]) rfl rfl)
          simp only [List.nil_append, List.cons_append, List.append_assoc, List.set_cons_succ, List.set_cons_zero] at H
          clear hwb
          try clear C
          try clear w12
          have C := H.cells
          try simp only [cellsOf, cellsM, apartOf, apartM, and_true] at C
          refine ⟨hs0, ?_⟩
          refine wpX_eff rfl rfl (fun _ _ => ?_)
          go_step
          go_step
          generalize hwb : (((w13.setCell _ _).setCell _ _).setCell _ _).setCell _ _ = w14
          replace hs0 := Same.eqW hwb (hs0.setAll (b := bL) (fun k hk e => hk.2 (by simp [e])) 0 [.int .i64 ad0, .slice y0 yn0 yc0, .bool d0, .bool p0])
          replace hz0 := Nat.le_trans hz0 (Nat.le_of_eq ((setAll_same [.int .i64 ad0, .slice y0 yn0 yc0, .bool d0, .bool p0] bL 0 w13).2.2.2.1.symm.trans (congrArg (fun w => w.heap.size) hwb)))
          replace H := HS.eqW hwb (H.putAll (i := 2) rfl (vs := [.int .i64 ad0, .slice y0 yn0 yc0, .bool d0, .bool p0]) rfl rfl)
          simp only [List.nil_append, List.cons_append, List.append_assoc, List.set_cons_succ, List.set_cons_zero] at H
          clear hwb
          try clear C
          try clear w13
          have C := H.cells
          try simp only [cellsOf, cellsM, apartOf, apartM, and_true] at C
          refine ⟨hs0, ?_⟩
          repeat (first | (refine wpX_skip rfl ?_; go_simp) | (refine wpX_free rfl rfl rfl (fun K hK => ?_); go_step; refine hK _ _ ?_; clear hK K) | (refine wpX_load rfl rfl rfl (by simp [Stay, OneD, NoD, *]) hs0 (by simp [*]) (fun K hK => ?_); go_step; refine hK _ _ ?_; clear hK K))
          (refine wpX_nil ?_; go_step)
          repeat go_step
          refine bodyPost_ret (v := .tuple #[.agg #[.int .i64 S, .int .i64 k, .int .i64 size, .slice (some ⟨g, 0, none⟩) qs.length c2], .agg #[.int .i64 ad0, .slice y0 yn0 yc0, .bool d0, .bool p0], .bool true]) (by simp [results, Try.results22, go_sem, C]) rfl ?_
          have H9 := HS.less (L' := [rowS (some ⟨g, 0, none⟩) qs.length c2 qs2, anyS F qs]) H (by repeat (first | exact .slnil | refine .cons_cons _ ?_ | refine .cons _ ?_))
          have H7 := HS.weak (L := [_]) H9 (K' := fun w => SlotsOk w qs2 ∧ BytesAt w ⟨y0, yn0, yc0⟩ bs0) (fun w' h => ⟨HQ3.out w' h, HBYO.out w' h⟩)
          rw [← HQ4.out] at H7 ⊢
          exact ⟨_, _, _, qs2, ⟨y0, yn0, yc0⟩, _, HRES.out, HQ2.out, rfl, H7⟩
end Go.Proofs.Ytfmcicmbehjdcaa
