/- cache.Get. -/
import Derived.Test.YtfmcicmbehjdcaaLrL
import Derived.Test.YtfmcicmbehjdcaaLrM
import Derived.Test.YtfmcicmbehjdcaaLrN
namespace Go.Proofs.Ytfmcicmbehjdcaa
set_option linter.unusedSimpArgs false
set_option linter.unusedVariables false
open Go.RowKit
set_option maxRecDepth 100000
attribute [local irreducible] wpX wpF Calls

theorem setOf_lies {w : World} {B : Nat} {g W s : Nat} {qs : List Sw} (hf : s * W + W ≤ qs.length) (h : Lies w B (some ⟨g, 0, none⟩) 6 qs.length (fun j => swC qs[j]!)) : Lies w B (some ⟨g, s * W * 6, none⟩) 6 (setOf W qs s).length (fun j => swC (setOf W qs s)[j]!) := by
  rw [setOf_len hf]
  intro j hj
  have h1 := h.sub (lo := s * W) (m := W) hf j hj
  rw [Nat.zero_add] at h1
  obtain ⟨b, o, e, hb, hc⟩ := h1
  exact ⟨b, o, e, hb, fun i u hu => hc i u (by dsimp only at hu ⊢; rw [setOf_get hf hj] at hu; exact hu)⟩
/-- What a search in the right set says of the whole cache. -/
theorem find_whole {S W : Nat} {size : Int} {qs : List Sw} {l : List Sm} (hg : GoodC S W size l) (hq : qs.map Sw.s = l) {a : Int} {s : Nat} (hs : s < S) (has : a % S = s) (hno : ∀ i, i < (setOf W qs s).length → isAd a (setOf W qs s)[i]! = false) : ∀ k, k < l.length → ¬ Hit l a k := fun k hk hh => by
  obtain ⟨c1, c2, c3⟩ := hg.coord hk
  have hfit := hg.fits hs
  have hql : qs.length = l.length := by rw [← hq, List.length_map]
  have h1 := hg.hit_set (s := k / W) (r := k % W) c1 c2 (by rw [c3]; exact hh)
  have h2 : k / W = s := by omega
  have h3 := hno (k % W) (by rw [setOf_len (by omega)]; exact c2)
  rw [setOf_get (by omega) c2, ← h2, c3] at h3
  have h4 : (qs[k]!).s = l[k]! := by rw [← hq, map_get _ _ _ (by omega)]
  unfold isAd at h3
  rw [h4, hh.1, hh.2] at h3
  simp at h3
theorem find_hit {S W : Nat} {size : Int} {qs : List Sw} {l : List Sm} (hg : GoodC S W size l) (hq : qs.map Sw.s = l) {a : Int} {s j : Nat} (hs : s < S) (hj : j < W) (hy : isAd a (setOf W qs s)[j]! = true) : Hit l a (s * W + j) := by
  have hfit := hg.fits hs
  have hql : qs.length = l.length := by rw [← hq, List.length_map]
  rw [setOf_get (by omega) hj] at hy
  have h4 : (qs[s * W + j]!).s = l[s * W + j]! := by rw [← hq, map_get _ _ _ (by omega)]
  unfold isAd at hy
  rw [h4] at hy
  simp only [Bool.and_eq_true, decide_eq_true_eq] at hy
  exact hy
theorem GoodC.no_neg {S W : Nat} {size : Int} {l : List Sm} (h : GoodC S W size l) {a : Int} (ha : a < 0) : ∀ k, k < l.length → ¬ Hit l a k := fun k hk hh => by
  obtain ⟨c1, c2, c3⟩ := h.coord hk
  have e : rowG W l (k / W) (k % W) = l[k]! := by unfold rowG; rw [c3]
  have h1 := of_decide_eq_true ((h.sets _ c1).line _ c2 (by rw [e]; exact hh.1))
  rw [e, hh.2] at h1
  omega
theorem GoodC.ages {S W : Nat} {size : Int} {qs : List Sw} (h : GoodC S W size (qs.map Sw.s)) : ∀ j, j < qs.length → (qs[j]!).s.u = true → 0 ≤ (qs[j]!).s.age ∧ (qs[j]!).s.age < 1000 := fun j hj hu => by
  have hW4 := h.W4
  obtain ⟨c1, c2, c3⟩ := h.coord (k := j) (by rw [List.length_map]; exact hj)
  have e : rowG W (qs.map Sw.s) (j / W) (j % W) = (qs[j]!).s := by unfold rowG; rw [c3, map_get _ _ _ hj]
  have h1 := (h.sets _ c1).age0 _ c2 (by rw [e]; exact hu)
  have h2 := (h.sets _ c1).ageU _ c2 (by rw [e]; exact hu)
  rw [e] at h1 h2
  omega
theorem useQ_ln {W s r : Nat} {qs : List Sw} {k : Nat} (hk : k < qs.length) : ((useQ W s r qs)[k]!).s.ln = (qs[k]!).s.ln ∧ ((useQ W s r qs)[k]!).x = (qs[k]!).x := by
  rw [useQ_get hk]
  split
  · exact ⟨rfl, rfl⟩
  · split <;> exact ⟨rfl, rfl⟩
set_option maxHeartbeats 16000000 in
theorem cget_any {S W : Nat} {size : Int} {l : List Sm} (hg : GoodC S W size l) (x : Sv) (a : Int) (w : World) (h : SlotsAt w x l) :
    Calls Try.prog 20 #[caV S W size x, .int .i64 a] w (GivesLk S W size (GetR S W l a) w) := by
  obtain ⟨xa, xn, xc⟩ := x
  have HSL := Lib.hid h
  have HG := Lib.hid hg
  have HCP := Lib.hid (fun wx hx => ccopy_any S W size ⟨xa, xn, xc⟩ l hg.small wx hx)
  clear h hg
  show Calls Try.prog 20 #[.agg #[.int .i64 S, .int .i64 W, .int .i64 size, .slice xa xn xc], .int .i64 a] w _
  go_enter Try.func20, Try.ntmps20
  have H := HS.start NoD w
  go_upto_region 1 with fail
  generalize hwb : ((w.alloc _).alloc _).alloc _ = w1
  replace H := HS.eqW hwb H.alloc.alloc.alloc
  try simp only [World.size_alloc, List.nil_append, List.cons_append, List.append_assoc] at H
  clear hwb
  generalize w.heap.size + 2 = bL at H ⊢
  generalize w.heap.size + 1 = bR at H ⊢
  generalize w.heap.size = bX at H ⊢
  try clear C
  have C := H.cells
  try simp only [cellsOf, cellsM, apartOf, apartM, and_true] at C
  go_wp2_with fail
  refine (HCP.out _ (HSL.out.up H.done)).mono ?_
  rintro _ w2 ⟨s2, c2, qs, F, hqs, rfl, K⟩
  replace H := H.join K (two_low rfl rfl)
  have HQS := Lib.hid hqs
  clear K HCP HSL
  try simp only [List.nil_append, List.cons_append] at H
  skip
  try clear C
  try simp only [World.size_alloc, List.nil_append, List.cons_append, List.append_assoc] at H
  have C := H.cells
  try simp only [cellsOf, cellsM, apartOf, apartM, and_true] at C
  dsimp only [caV]
  have hgq : GoodC S W size (qs.map Sw.s) := by rw [hqs]; exact HG.out
  have hql : qs.length = l.length := by rw [← hqs, List.length_map]
  have hpos : 0 < qs.length := by
    rw [hql, HG.out.len]; exact Nat.mul_pos HG.out.S1 HG.out.W1
  have hln : ∀ j, j < qs.length → (qs[j]!).x.n = (qs[j]!).s.ln.bs.length := fun j hj => (H.says 4 rfl j hj).len
  have hcap : qs.length ≤ c2 := (row_capOk (H.at 3 rfl)).1
  obtain ⟨g, cap, hv, -, -⟩ := World.ownsRow.form (H.at 3 rfl) (by omega)
  obtain ⟨rfl, -, rfl⟩ := Value.slice.inj hv
  have HLC := Lib.hid (show qs.length ≤ c2 from hcap)
  have HQL := Lib.hid hql
  have HGQ := Lib.hid hgq
  have HLN := Lib.hid hln
  have HPOS := Lib.hid hpos
  clear hqs hgq hql hpos hln hv hcap
  go_upto_region 2 with fail
  generalize hwb : w2.alloc _ = w2
  replace H := HS.eqW hwb H.alloc
  try simp only [World.size_alloc, List.nil_append, List.cons_append, List.append_assoc] at H
  clear hwb
  generalize w2.heap.size = bO at H ⊢
  try clear C
  try clear w2
  have C := H.cells
  try simp only [cellsOf, cellsM, apartOf, apartM, and_true] at C
  have hlies := H.rowLies 3 swC_len rfl rfl
  have HFD := Lib.hid (fun (sa : Option Addr) (c : Nat) xs hx wx hl => cfind_any (sa := sa) c xs hx a wx hl)
  by_cases ha : a < 0
  · have HSN := Lib.hid (fun wx hl => cset_neg ⟨some ⟨g, 0, none⟩, qs.length, c2⟩ qs HGQ.out rfl ⟨HLC.out, fun e => nomatch e⟩ HLN.out a ha wx hl)
    have HNO := Lib.hid (HG.out.no_neg ha)
    have HLI := Lib.hid hlies
    clear hlies ha
    go_wp2_with fail
    refine (HSN.out _ (H.rowLies 3 swC_len rfl rfl)).mono ?_
    rintro _ w3 ⟨rfl, hb⟩
    replace H := H.below hb
    clear hb HSN HLI
    skip
    try clear C
    try simp only [World.size_alloc, List.nil_append, List.cons_append, List.append_assoc] at H
    have C := H.cells
    try simp only [cellsOf, cellsM, apartOf, apartM, and_true] at C
    dsimp only
    go_wp2_with fail
    refine (HFD.out none 0 [] (Nat.zero_le _) _ Lies.nil0).mono ?_
    rintro _ w4 ⟨r, rfl, hr, hb⟩
    replace H := H.below hb
    clear hb HFD
    skip
    try clear C
    try simp only [World.size_alloc, List.nil_append, List.cons_append, List.append_assoc] at H
    have C := H.cells
    try simp only [cellsOf, cellsM, apartOf, apartM, and_true] at C
    dsimp only
    obtain rfl : r = -1 := by
      rcases hr with ⟨h, -⟩ | ⟨i, h, -⟩
      · exact h
      · exact absurd h (Nat.not_lt_zero _)
    clear hr
    repeat go_step
    generalize hwb : (((w4.setCell _ _).setCell _ _).setCell _ _).setCell _ _ = w3
    replace H := HS.eqW hwb (H.putAll (i := 1) rfl (vs := [.int .i64 S, .int .i64 W, .int .i64 size, .slice (some ⟨g, 0, none⟩) qs.length c2]) rfl rfl)
    simp only [List.nil_append, List.cons_append, List.append_assoc, List.set_cons_succ, List.set_cons_zero] at H
    clear hwb
    try clear C
    try clear w4
    have C := H.cells
    try simp only [cellsOf, cellsM, apartOf, apartM, and_true] at C
    generalize hwb : (((w3.setCell _ _).setCell _ _).setCell _ _).setCell _ _ = w4
    replace H := HS.eqW hwb (H.putAll (i := 2) rfl (vs := [.int .i64 0, .slice none 0 0, .bool false, .bool false]) rfl rfl)
    simp only [List.nil_append, List.cons_append, List.append_assoc, List.set_cons_succ, List.set_cons_zero] at H
    clear hwb
    try clear C
    try clear w3
    have C := H.cells
    try simp only [cellsOf, cellsM, apartOf, apartM, and_true] at C
    refine bodyPost_ret (v := .tuple #[.agg #[.int .i64 S, .int .i64 W, .int .i64 size, .slice (some ⟨g, 0, none⟩) qs.length c2], .agg #[.int .i64 0, .slice none 0 0, .bool false, .bool false], .bool false]) (by simp [results, Try.results20, go_sem, C]) rfl ?_
    have H9 := HS.less (L' := [rowS (some ⟨g, 0, none⟩) qs.length c2 qs, anyS F qs]) H (by repeat (first | exact .slnil | refine .cons_cons _ ?_ | refine .cons _ ?_))
    exact ⟨(l, zLm, false), _, c2, qs, ⟨none, 0, 0⟩, F, .inl ⟨HNO.out, rfl⟩, HQS.out, rfl, HS.weak (L := [_]) H9 fun w' h => ⟨h, bytes_nil w'⟩⟩
  · have hS1 := HG.out.S1
    obtain ⟨s, hs⟩ : ∃ s : Nat, a % S = s := ⟨(a % S).toNat, by rw [Int.toNat_of_nonneg (Int.emod_nonneg _ (by omega))]⟩
    have hsS : s < S := by have := Int.emod_lt_of_pos a (show (0 : Int) < S by omega); omega
    have hfit := HGQ.out.fits hsS
    rw [List.length_map] at hfit
    have HSP := Lib.hid (fun wx hl => cset_pos (o := 0) (b := g) qs HGQ.out rfl HLC.out HLN.out a s (by omega) hs wx hl)
    have HAS := Lib.hid hs
    have HSS := Lib.hid hsS
    have HFIT := Lib.hid hfit
    have HW4 := Lib.hid HG.out.W4
    have HSL2 := Lib.hid (setOf_len hfit)
    clear hlies ha hs hsS hfit hS1
    go_wp2_with fail
    refine (HSP.out _ (H.rowLies 3 swC_len rfl rfl)).mono ?_
    rintro _ w3 ⟨rfl, hb⟩
    replace H := H.below hb
    clear hb HSP
    skip
    try clear C
    try simp only [World.size_alloc, List.nil_append, List.cons_append, List.append_assoc] at H
    have C := H.cells
    try simp only [cellsOf, cellsM, apartOf, apartM, and_true] at C
    dsimp only
    have HFS := Lib.hid (show ∀ wx, Lies wx wx.heap.size (some ⟨g, s * W * 6, none⟩) 6 (setOf W qs s).length (fun j => swC (setOf W qs s)[j]!) → Calls Try.prog 40 #[.slice (some ⟨g, s * W * 6, none⟩) W (c2 - s * W), .int .i64 a] wx (FindPostSl (isAd a) (setOf W qs s) wx) from fun wx hl => by
      have h1 := HFD.out (some ⟨g, s * W * 6, none⟩) (c2 - s * W) (setOf W qs s) (by rw [HSL2.out]; have := HW4.out; omega) wx hl
      rw [HSL2.out] at h1
      exact h1)
    have HSLI := Lib.hid (fun wx hl => setOf_lies (w := wx) (B := wx.heap.size) (g := g) HFIT.out hl)
    clear HFD
    go_wp2_with fail
    refine (HFS.out _ (HSLI.out _ (H.rowLies 3 swC_len rfl rfl))).mono ?_
    rintro _ w4 ⟨r, rfl, hr, hb⟩
    replace H := H.below hb
    clear hb HFS
    skip
    try clear C
    try simp only [World.size_alloc, List.nil_append, List.cons_append, List.append_assoc] at H
    have C := H.cells
    try simp only [cellsOf, cellsM, apartOf, apartM, and_true] at C
    dsimp only
    rcases hr with ⟨rfl, hno⟩ | ⟨j, hj, rfl, hy, -⟩
    · have HNO := Lib.hid (find_whole HG.out HQS.out HSS.out HAS.out hno)
      clear hno
      repeat go_step
      generalize hwb : (((w4.setCell _ _).setCell _ _).setCell _ _).setCell _ _ = w5
      replace H := HS.eqW hwb (H.putAll (i := 1) rfl (vs := [.int .i64 S, .int .i64 W, .int .i64 size, .slice (some ⟨g, 0, none⟩) qs.length c2]) rfl rfl)
      simp only [List.nil_append, List.cons_append, List.append_assoc, List.set_cons_succ, List.set_cons_zero] at H
      clear hwb
      try clear C
      try clear w4
      have C := H.cells
      try simp only [cellsOf, cellsM, apartOf, apartM, and_true] at C
      generalize hwb : (((w5.setCell _ _).setCell _ _).setCell _ _).setCell _ _ = w6
      replace H := HS.eqW hwb (H.putAll (i := 2) rfl (vs := [.int .i64 0, .slice none 0 0, .bool false, .bool false]) rfl rfl)
      simp only [List.nil_append, List.cons_append, List.append_assoc, List.set_cons_succ, List.set_cons_zero] at H
      clear hwb
      try clear C
      try clear w5
      have C := H.cells
      try simp only [cellsOf, cellsM, apartOf, apartM, and_true] at C
      refine bodyPost_ret (v := .tuple #[.agg #[.int .i64 S, .int .i64 W, .int .i64 size, .slice (some ⟨g, 0, none⟩) qs.length c2], .agg #[.int .i64 0, .slice none 0 0, .bool false, .bool false], .bool false]) (by simp [results, Try.results20, go_sem, C]) rfl ?_
      have H9 := HS.less (L' := [rowS (some ⟨g, 0, none⟩) qs.length c2 qs, anyS F qs]) H (by repeat (first | exact .slnil | refine .cons_cons _ ?_ | refine .cons _ ?_))
      exact ⟨(l, zLm, false), _, c2, qs, ⟨none, 0, 0⟩, F, .inl ⟨HNO.out, rfl⟩, HQS.out, rfl, HS.weak (L := [_]) H9 fun w' h => ⟨h, bytes_nil w'⟩⟩
    · rw [HSL2.out] at hj
      have HIT := Lib.hid (find_hit HG.out HQS.out HSS.out hj hy)
      have hjw : (j : Int) < W := by omega
      have hji : ¬ ((j : Int) < 0) := by omega
      have HTC := Lib.hid (show ∀ wx, wx.ownsRow 0 37 6 (.slice (some ⟨g, 0, none⟩) qs.length c2) qs.length (qs.flatMap swC) → Calls Try.prog 41 #[.slice (some ⟨g, s * W * 6, none⟩) W (c2 - s * W), .int .i64 (j : Int)] wx (TurnsTo g qs.length c2 (useQ W s j qs) wx) from fun wx hl => by
        exact touch_any HFIT.out hj (by have := HGQ.out.len32; rw [List.length_map] at this; omega) HGQ.out.ages wx hl)
      have HQ2 := Lib.hid (show (useQ W s j qs).map Sw.s = onSet W s l (useG (rowG W l s) j) by rw [useQ_map HFIT.out hj, HQS.out])
      have HQ3 := Lib.hid (fun (wx : World) (h : SlotsOk wx qs) => useQ_ok (W := W) (s := s) (r := j) h)
      have HQ4 := Lib.hid (useQ_len W s j qs)
      have HKQ := Lib.hid (show s * W + j < qs.length by have := HFIT.out; omega)
      have HQ5 := Lib.hid (useQ_ln (W := W) (s := s) (r := j) HKQ.out)
      generalize useQ W s j qs = qs2 at HTC HQ2 HQ3 HQ4 HQ5
      have HRES := Lib.hid (show GetR S W l a (onSet W s l (useG (rowG W l s) j), (l[s * W + j]!).ln, true) from .inr ⟨s, j, HSS.out, hj, HIT.out, rfl⟩)
      clear hy HSLI
      go_wp2_with fail
      refine (HTC.out _ (H.at 3 rfl)).mono ?_
      rintro _ w5 ⟨rfl, K⟩
      replace H := H.turnOwn 3 rfl K
      clear K HTC
      try simp only [List.set_cons_succ, List.set_cons_zero] at H
      skip
      try clear C
      try simp only [World.size_alloc, List.nil_append, List.cons_append, List.append_assoc] at H
      have C := H.cells
      try simp only [cellsOf, cellsM, apartOf, apartM, and_true] at C
      dsimp only
      have LCP := Lib.hid (fun wx (m : Lm) (y : Sv) (hm : m.bs.length ≤ 1000) (hx : BytesAt wx y m.bs) => lcopy_any m y hm wx hx)
      go_upto_region 7 with fail
      refine wp_region_xH (by kernel_rfl) (by kernel_rfl) (by kernel_rfl) (by kernel_rfl) (fun k => k = bR ∨ k = bL) (H) ?_
      clear H; intro w7 H hz0 hs0
      try clear C
      try simp only [World.size_alloc, List.nil_append, List.cons_append, List.append_assoc] at H hz0
      clear hz0
      try clear w5
      have C := H.cells
      try simp only [cellsOf, cellsM, apartOf, apartM, and_true] at C
      have Z := H.zs
      try simp only [ltsOf, ltsM, and_true] at Z
      have hz0 := Nat.le_refl w7.heap.size
      have na1 := H.rowApart 3 1 rfl rfl (by decide)
      have na2 := H.rowApart 3 2 rfl rfl (by decide)
      have hgl : g < w7.heap.size := Item.lt (H.at 3 rfl) (k := g) rfl
      have hq2 : (qs2[s * W + j]!).s.ln = (l[s * W + j]!).ln := by rw [HQ5.out.1, ← HQS.out, map_get _ _ _ HKQ.out]
      have hcc : ∀ (m : Nat) (v : Value), (swC qs2[s * W + j]!)[m]? = some v → w7.cell? ⟨g, s * W * 6 + j * 6 + m, none⟩ = some v := fun m v hv => by
        have hm : m < 6 := (List.getElem?_eq_some_iff.1 hv).1
        rw [← Nat.add_mul]
        have := HKQ.out
        exact (H.rowCells 3 rfl ((s * W + j) * 6 + m) (by omega)).1.trans (flat_get swC_len qs2 (s * W + j) m v (by rw [HQ4.out]; exact HKQ.out) hv)
      have HBY := Lib.hid (HQ3.out _ (H.says 4 rfl) (s * W + j) (by rw [HQ4.out]; exact HKQ.out))
      have HML := Lib.hid (HG.out.bytes (j := s * W + j) (by rw [← HQL.out]; exact HKQ.out))
      have HRE2 := Lib.hid hq2
      generalize qs2[s * W + j]! = sk at hcc HBY HRE2
      obtain ⟨⟨u, age, ⟨ad, bs, d, p⟩⟩, ⟨ya, yn, yc⟩⟩ := sk
      clear hq2
      rw [← HRE2.out] at HRES HML
      have k2 : w7.cell? ⟨g, s * W * 6 + j * 6 + 2, none⟩ = some (.int .i64 ad) := hcc 2 _ rfl
      have k3 : w7.cell? ⟨g, s * W * 6 + j * 6 + 3, none⟩ = some (.slice ya yn yc) := hcc 3 _ rfl
      have k4 : w7.cell? ⟨g, s * W * 6 + j * 6 + 4, none⟩ = some (.bool d) := hcc 4 _ rfl
      have k5 : w7.cell? ⟨g, s * W * 6 + j * 6 + 5, none⟩ = some (.bool p) := hcc 5 _ rfl
      clear hcc
      repeat (first | (refine wpX_skip rfl ?_; go_simp) | (refine wpX_free rfl rfl rfl (fun K hK => ?_); go_step; refine hK _ _ ?_; clear hK K) | (refine wpX_load rfl rfl rfl (by simp [Stay, OneD, NoD, *]) hs0 (by simp [*]) (fun K hK => ?_); go_step; refine hK _ _ ?_; clear hK K))
      refine wpX_eff rfl rfl (fun _ _ => ?_)
      go_step
      refine (LCP.out _ ⟨ad, bs, d, p⟩ ⟨ya, yn, yc⟩ (Nat.le_trans HML.out (by omega)) HBY.out).mono ?_
      rintro _ w8 ⟨⟨ra, rn, rc⟩, G, rfl, K⟩
      replace hs0 := hs0.belowS hz0 K.done
      replace hz0 := Nat.le_trans hz0 K.done.size
      replace H := H.join K (one_low rfl)
      clear K
      try simp only [List.nil_append, List.cons_append, List.append_assoc] at H
      try clear C
      have C := H.cells
      try simp only [cellsOf, cellsM, apartOf, apartM, and_true] at C
      try clear w7
      dsimp only
      go_step
      refine ⟨hs0, ?_⟩
      dsimp only [lnV]
      refine wpX_eff rfl rfl (fun _ _ => ?_)
      go_step
      go_step
      generalize hwb : (((w8.setCell _ _).setCell _ _).setCell _ _).setCell _ _ = w9
      replace hs0 := Same.eqW hwb (hs0.setAll (b := bR) (fun k hk e => hk.2 (by simp [e])) 0 [.int .i64 S, .int .i64 W, .int .i64 size, .slice (some ⟨g, 0, none⟩) qs.length c2])
      replace hz0 := Nat.le_trans hz0 (Nat.le_of_eq ((setAll_same [.int .i64 S, .int .i64 W, .int .i64 size, .slice (some ⟨g, 0, none⟩) qs.length c2] bR 0 w8).2.2.2.1.symm.trans (congrArg (fun w => w.heap.size) hwb)))
      replace H := HS.eqW hwb (H.putAll (i := 1) rfl (vs := [.int .i64 S, .int .i64 W, .int .i64 size, .slice (some ⟨g, 0, none⟩) qs.length c2]) rfl rfl)
      simp only [List.nil_append, List.cons_append, List.append_assoc, List.set_cons_succ, List.set_cons_zero] at H
      clear hwb
      try clear C
      try clear w8
      have C := H.cells
      try simp only [cellsOf, cellsM, apartOf, apartM, and_true] at C
      refine ⟨hs0, ?_⟩
      refine wpX_eff rfl rfl (fun _ _ => ?_)
      go_step
      go_step
      generalize hwb : (((w9.setCell _ _).setCell _ _).setCell _ _).setCell _ _ = w10
      replace hs0 := Same.eqW hwb (hs0.setAll (b := bL) (fun k hk e => hk.2 (by simp [e])) 0 [.int .i64 ad, .slice ra rn rc, .bool d, .bool p])
      replace hz0 := Nat.le_trans hz0 (Nat.le_of_eq ((setAll_same [.int .i64 ad, .slice ra rn rc, .bool d, .bool p] bL 0 w9).2.2.2.1.symm.trans (congrArg (fun w => w.heap.size) hwb)))
      replace H := HS.eqW hwb (H.putAll (i := 2) rfl (vs := [.int .i64 ad, .slice ra rn rc, .bool d, .bool p]) rfl rfl)
      simp only [List.nil_append, List.cons_append, List.append_assoc, List.set_cons_succ, List.set_cons_zero] at H
      clear hwb
      try clear C
      try clear w9
      have C := H.cells
      try simp only [cellsOf, cellsM, apartOf, apartM, and_true] at C
      refine ⟨hs0, ?_⟩
      repeat (first | (refine wpX_skip rfl ?_; go_simp) | (refine wpX_free rfl rfl rfl (fun K hK => ?_); go_step; refine hK _ _ ?_; clear hK K) | (refine wpX_load rfl rfl rfl (by simp [Stay, OneD, NoD, *]) hs0 (by simp [*]) (fun K hK => ?_); go_step; refine hK _ _ ?_; clear hK K))
      (refine wpX_nil ?_; go_step)
      repeat go_step
      refine bodyPost_ret (v := .tuple #[.agg #[.int .i64 S, .int .i64 W, .int .i64 size, .slice (some ⟨g, 0, none⟩) qs.length c2], .agg #[.int .i64 ad, .slice ra rn rc, .bool d, .bool p], .bool true]) (by simp [results, Try.results20, go_sem, C]) rfl ?_
      have H9 := HS.less (L' := [rowS (some ⟨g, 0, none⟩) qs.length c2 qs2, anyS F qs, .any G (fun w => BytesAt w ⟨ra, rn, rc⟩ bs)]) H (by repeat (first | exact .slnil | refine .cons_cons _ ?_ | refine .cons _ ?_))
      have H8 := HS.merge (L := [_]) H9
      have H7 := HS.weak (L := [_]) H8 (K' := fun w => SlotsOk w qs2 ∧ BytesAt w ⟨ra, rn, rc⟩ bs) (fun w' h => ⟨HQ3.out w' h.1, h.2⟩)
      rw [← HQ4.out] at H7 ⊢
      exact ⟨_, _, _, qs2, ⟨ra, rn, rc⟩, _, HRES.out, HQ2.out, rfl, H7⟩
end Go.Proofs.Ytfmcicmbehjdcaa
