/- memfaultref31.Drop. -/
import Derived.Test.YtfmcicmbehjdcaaLrR
import Derived.Test.YtfmcicmbehjdcaaLrT
namespace Go.Proofs.Ytfmcicmbehjdcaa
set_option linter.unusedSimpArgs false
set_option linter.unusedVariables false
open Go.RowKit
set_option maxRecDepth 100000
attribute [local irreducible] wpX wpF Calls

/-- The slots of a set that are kept, of the first t. -/
def keptG (lo t i : Nat) (a : Int) (qs : List Sw) : List Sw := ((List.range t).filter fun r => decide (lo + r ≠ i) && (qs[lo + r]!).s.u).map fun r => decS a qs[lo + r]!
theorem keptG_zero (lo i : Nat) (a : Int) (qs : List Sw) : keptG lo 0 i a qs = [] := rfl
theorem keptG_yes {lo t i : Nat} {a : Int} {qs : List Sw} (h : lo + t ≠ i ∧ (qs[lo + t]!).s.u = true) : keptG lo t i a qs ++ [decS a qs[lo + t]!] = keptG lo (t + 1) i a qs := by
  unfold keptG
  rw [List.range_succ, List.filter_append, List.map_append, List.filter_cons_of_pos (by rw [h.2, decide_eq_true h.1]; rfl), List.filter_nil, List.map_singleton]
theorem keptG_no {lo t i : Nat} {a : Int} {qs : List Sw} (h : ¬ (lo + t ≠ i ∧ (qs[lo + t]!).s.u = true)) : keptG lo t i a qs = keptG lo (t + 1) i a qs := by
  have : (decide (lo + t ≠ i) && (qs[lo + t]!).s.u) = false := by
    cases hu : (qs[lo + t]!).s.u
    · simp
    · have : lo + t = i := Classical.byContradiction fun e => h ⟨e, hu⟩
      simp [this]
  unfold keptG
  rw [List.range_succ, List.filter_append, List.map_append, List.filter_cons_of_neg (by rw [this]; decide), List.filter_nil, List.map_nil, List.append_nil]
theorem keptG_len (lo t i : Nat) (a : Int) (qs : List Sw) : (keptG lo t i a qs).length ≤ t := by
  unfold keptG
  rw [List.length_map]
  exact Nat.le_trans (List.length_filter_le _ _) (by rw [List.length_range]; exact Nat.le_refl _)
/-- Used slots are the first ones. -/
theorem GoodSet.count {S W : Nat} {size : Int} {s : Nat} {g : Nat → Sm} (h : GoodSet S W size s g) : ∀ n, n ≤ W → ∃ u, u ≤ n ∧ ∀ r, r < n → ((g r).u = true ↔ r < u)
  | 0, _ => ⟨0, Nat.le_refl _, fun r hr => absurd hr (Nat.not_lt_zero _)⟩
  | n + 1, hn => by
    obtain ⟨u, h1, h2⟩ := h.count n (by omega)
    cases hu : (g n).u
    · refine ⟨u, by omega, fun r hr => ?_⟩
      by_cases e : r = n
      · subst e
        rw [hu]
        exact ⟨fun h => (nomatch h), fun h => by omega⟩
      · exact h2 r (by omega)
    · refine ⟨n + 1, Nat.le_refl _, fun r hr => ⟨fun _ => hr, fun _ => h.down' (r' := n) (by omega) (by omega) hu⟩⟩
theorem keptG_eq {lo u r0 : Nat} {a : Int} {qs : List Sw} (h0 : r0 < u) : ∀ t, (∀ r, r < t → ((qs[lo + r]!).s.u = true ↔ r < u)) → keptG lo t (lo + r0) a qs = (List.range (if t ≤ r0 then t else min t u - 1)).map fun k => decS a qs[lo + if k < r0 then k else k + 1]!
  | 0, _ => by rw [if_pos (Nat.zero_le _)]; rfl
  | t + 1, hu => by
    have ih := keptG_eq (a := a) h0 t (fun r hr => hu r (by omega))
    have hut := hu t (by omega)
    by_cases hy : lo + t ≠ lo + r0 ∧ (qs[lo + t]!).s.u = true
    · rw [← keptG_yes hy, ih]
      have htu := hut.1 hy.2
      by_cases hlt : t < r0
      · rw [if_pos (by omega), if_pos (by omega), List.range_succ, List.map_append]
        congr 1
        rw [List.map_singleton, if_pos hlt]
      · have hgt : r0 < t := by omega
        rw [if_neg (by omega), if_neg (by omega), show min (t + 1) u - 1 = (min t u - 1) + 1 by omega, List.range_succ, List.map_append]
        congr 1
        rw [List.map_singleton, if_neg (by omega), show min t u - 1 + 1 = t by omega]
    · rw [← keptG_no hy, ih]
      congr 2
      by_cases e : t = r0
      · subst e
        rw [if_pos (Nat.le_refl _), if_neg (by omega)]; omega
      · have hnu : ¬ t < u := fun c => hy ⟨by omega, hut.2 c⟩
        rw [if_neg (by omega), if_neg (by omega)]
        omega
/-- The kept ones laid into the set. -/
def fillK (lo t : Nat) (ks qs : List Sw) : List Sw := qs.mapIdx fun j q => if lo ≤ j ∧ j < lo + t then (if j - lo < ks.length then ks[j - lo]! else zSw) else q
theorem fillK_len (lo t : Nat) (ks qs : List Sw) : (fillK lo t ks qs).length = qs.length := List.length_mapIdx
theorem fillK_get {lo t : Nat} {ks qs : List Sw} {j : Nat} (hj : j < qs.length) : (fillK lo t ks qs)[j]! = if lo ≤ j ∧ j < lo + t then (if j - lo < ks.length then ks[j - lo]! else zSw) else qs[j]! := by
  unfold fillK
  rw [getElem!_pos _ j (by rw [List.length_mapIdx]; exact hj), List.getElem_mapIdx, getElem!_pos qs j hj]
theorem fillK_zero (lo : Nat) (ks qs : List Sw) : fillK lo 0 ks qs = qs := list_ext! (fillK_len _ _ _ _) fun j hj => by
  rw [fillK_len] at hj
  rw [fillK_get hj, if_neg (by omega)]
theorem fillK_step {lo t : Nat} {ks qs : List Sw} (ht : lo + t < qs.length) {q : Sw} (hq : q = if t < ks.length then ks[t]! else zSw) : (fillK lo t ks qs).set (lo + t) q = fillK lo (t + 1) ks qs := list_ext! (by rw [List.length_set, fillK_len, fillK_len]) fun j hj => by
  rw [List.length_set, fillK_len] at hj
  rw [set_getG _ _ _ _ (by rw [fillK_len]; exact hj), fillK_get hj, fillK_get hj]
  by_cases e : j = lo + t
  · subst e
    rw [if_pos rfl, if_pos (by omega), hq, show lo + t - lo = t by omega]
  · rw [if_neg e]
    by_cases c : lo ≤ j ∧ j < lo + t
    · rw [if_pos c, if_pos (show lo ≤ j ∧ j < lo + (t + 1) by omega)]
    · rw [if_neg c, if_neg (show ¬ (lo ≤ j ∧ j < lo + (t + 1)) by omega)]
theorem decG_zero (a : Int) : decG a zSm = zSm := rfl
theorem decS_s (a : Int) (q : Sw) : (decS a q).s = decG a q.s := by
  unfold decS decG
  split <;> rfl
theorem drop_ref {S W : Nat} {size : Int} {l : List Sm} (hg : GoodC S W size l) {qs : List Sw} (hq : qs.map Sw.s = l) {s r0 : Nat} (hs : s < S) (hr0 : r0 < W) (hu0 : (rowG W l s r0).u = true) :
    (fillK (s * W) W (keptG (s * W) W (s * W + r0) (rowG W l s r0).age qs) qs).map Sw.s = onSet W s l (dropG W (rowG W l s) r0) := by
  have hfit := hg.fits hs
  have hql : qs.length = l.length := by rw [← hq, List.length_map]
  have hat : ∀ t, t < qs.length → (qs[t]!).s = l[t]! := fun t ht => by rw [← hq, map_get _ _ _ ht]
  have hset := hg.sets s hs
  have hrow : ∀ r, r < W → (qs[s * W + r]!).s = rowG W l s r := fun r hr => hat _ (by omega)
  obtain ⟨u, h1, h2⟩ := hset.count W (Nat.le_refl _)
  have hru : r0 < u := (h2 r0 hr0).1 hu0
  have hk := keptG_eq (lo := s * W) (a := (rowG W l s r0).age) (qs := qs) hru W (fun r hr => by rw [hrow r hr]; exact h2 r hr)
  rw [if_neg (by omega), Nat.min_eq_right h1] at hk
  rw [hk]
  refine list_ext! (by rw [List.length_map, fillK_len, onSet_len, hql]) fun t ht => ?_
  rw [List.length_map, fillK_len] at ht
  rw [map_get _ _ _ (by rw [fillK_len]; exact ht), onSet_get (by omega), fillK_get ht, List.length_map, List.length_range]
  by_cases c : s * W ≤ t ∧ t < s * W + W
  · rw [if_pos c, if_pos c]
    obtain ⟨r, hr⟩ : ∃ r, r = t - s * W := ⟨_, rfl⟩
    rw [← hr]
    unfold dropG
    by_cases c1 : r < u - 1
    · rw [if_pos c1, getElem!_pos _ r (by rw [List.length_map, List.length_range]; exact c1), List.getElem_map, List.getElem_range, decS_s]
      by_cases c2 : r < r0
      · rw [if_pos c2, if_pos c2, hrow r (by omega)]
      · rw [if_neg c2, if_neg c2, if_pos (by omega), hrow (r + 1) (by omega)]
    · rw [if_neg c1, if_neg (by omega)]
      by_cases c2 : r + 1 < W
      · rw [if_pos c2]
        have : (rowG W l s (r + 1)).u = false := by
          cases hu : (rowG W l s (r + 1)).u
          · rfl
          · have := (h2 (r + 1) c2).1 hu; omega
        rw [hset.zero _ c2 this]; rfl
      · rw [if_neg c2]; rfl
  · rw [if_neg c, if_neg c, hat t ht]
theorem keptG_ok {lo t i : Nat} {a : Int} {qs : List Sw} {w : World} (hin : lo + t ≤ qs.length) (h : SlotsOk w qs) : ∀ q ∈ keptG lo t i a qs, BytesAt w q.x q.s.ln.bs := fun q hq => by
  unfold keptG at hq
  obtain ⟨r, hr, rfl⟩ := List.mem_map.1 hq
  have hr' := List.mem_range.1 (List.mem_filter.1 hr).1
  have := h (lo + r) (by omega)
  unfold decS
  split <;> exact this
theorem fillK_ok {lo t : Nat} {ks qs : List Sw} {w : World} (h : SlotsOk w qs) (hk : ∀ q ∈ ks, BytesAt w q.x q.s.ln.bs) : SlotsOk w (fillK lo t ks qs) := fun j hj => by
  rw [fillK_len] at hj
  rw [fillK_get hj]
  split
  · split
    · rename_i c
      rw [getElem!_pos ks _ c]
      exact hk _ (List.getElem_mem c)
    · exact bytes_nil w
  · exact h j hj
set_option maxHeartbeats 32000000 in
theorem r31drop_any {S W : Nat} {size : Int} {l : List Sm} (hg : GoodC S W size l) (x : Sv) (a : Int) (w : World) (h : SlotsAt w x l) :
    Calls Try.prog 28 #[caV S W size x, .int .i64 a] w (GivesLk S W size (DropR S W l a) w) := by
  obtain ⟨xa, xn, xc⟩ := x
  have hlp : 0 < l.length := by rw [hg.len]; exact Nat.mul_pos hg.S1 hg.W1
  obtain ⟨bb, oo, e, hbb, hxn, hcx⟩ := h.base hlp
  dsimp only at e hxn
  subst e hxn
  have HSL := Lib.hid h
  have HG := Lib.hid hg
  have HBB := Lib.hid hbb
  have HCX := Lib.hid hcx
  have HCP := Lib.hid (fun wx hx => r31copy_any S W size ⟨some ⟨bb, oo, none⟩, l.length, xc⟩ l hg.small wx hx)
  have HAT := Lib.hid (fun wx hx => r31at_any S W size ⟨some ⟨bb, oo, none⟩, l.length, xc⟩ l (by have := hg.len32; omega) a wx hx)
  clear h hg hcx hbb hlp
  show Calls Try.prog 28 #[.agg #[.int .i64 S, .int .i64 W, .int .i64 size, .slice (some ⟨bb, oo, none⟩) l.length xc], .int .i64 a] w _
  go_enter Try.func28, Try.ntmps28
  have H := HS.start NoD w
  go_upto_region 1 with fail
  generalize hwb : ((w.alloc _).alloc _).alloc _ = w1
  replace H := HS.eqW hwb H.alloc.alloc.alloc
  try simp only [World.size_alloc, List.nil_append, List.cons_append, List.append_assoc] at H
  clear hwb
  generalize w.heap.size + 2 = bL at H ⊢
  generalize w.heap.size + 1 = bR at H ⊢
  generalize w.heap.size = bX at H ⊢
  try clear C
  have C := H.cells
  try simp only [cellsOf, cellsM, apartOf, apartM, and_true] at C
  go_wp2_with fail
  refine (HCP.out _ (HSL.out.up H.done)).mono ?_
  rintro _ w22 ⟨s2, c2, qs, F, hqs, rfl, K⟩
  replace H := H.join K (two_low rfl rfl)
  have HQS := Lib.hid hqs
  clear K HCP
  try simp only [List.nil_append, List.cons_append] at H
  skip
  try clear C
  try simp only [World.size_alloc, List.nil_append, List.cons_append, List.append_assoc] at H
  have C := H.cells
  try simp only [cellsOf, cellsM, apartOf, apartM, and_true] at C
  dsimp only [caV]
  have hgq : GoodC S W size (qs.map Sw.s) := by rw [hqs]; exact HG.out
  have hql : qs.length = l.length := by rw [← hqs, List.length_map]
  have hpos : 0 < qs.length := by
    rw [hql, HG.out.len]; exact Nat.mul_pos HG.out.S1 HG.out.W1
  obtain ⟨g, cap, hv, -, -⟩ := World.ownsRow.form (H.at 3 rfl) (by omega)
  obtain ⟨rfl, -, rfl⟩ := Value.slice.inj hv
  have HQL := Lib.hid hql
  have HGQ := Lib.hid hgq
  have HAGES := Lib.hid hgq.ages
  have HN32 := Lib.hid (show qs.length ≤ 32 by rw [hql]; exact HG.out.len32)
  clear hqs hgq hql hpos hv
  go_upto_region 2 with fail
  generalize hwb : w22.alloc _ = w2
  replace H := HS.eqW hwb H.alloc
  try simp only [World.size_alloc, List.nil_append, List.cons_append, List.append_assoc] at H
  clear hwb
  generalize w22.heap.size = bO at H ⊢
  try clear C
  try clear w22
  have C := H.cells
  try simp only [cellsOf, cellsM, apartOf, apartM, and_true] at C
  go_wp2_with fail
  refine (HAT.out _ (HSL.out.up H.done)).mono ?_
  rintro _ w33 ⟨r, rfl, hr, hb⟩
  replace H := H.below hb
  clear hb HAT
  skip
  try clear C
  try simp only [World.size_alloc, List.nil_append, List.cons_append, List.append_assoc] at H
  have C := H.cells
  try simp only [cellsOf, cellsM, apartOf, apartM, and_true] at C
  dsimp only
  rcases hr with ⟨rfl, hno⟩ | ⟨k, hk, rfl, hit⟩
  · have HNO := Lib.hid hno
    clear hno
    repeat go_step
    generalize hwb : (((w33.setCell _ _).setCell _ _).setCell _ _).setCell _ _ = w3
    replace H := HS.eqW hwb (H.putAll (i := 1) rfl (vs := [.int .i64 S, .int .i64 W, .int .i64 size, .slice (some ⟨g, 0, none⟩) qs.length c2]) rfl rfl)
    simp only [List.nil_append, List.cons_append, List.append_assoc, List.set_cons_succ, List.set_cons_zero] at H
    clear hwb
    try clear C
    try clear w33
    have C := H.cells
    try simp only [cellsOf, cellsM, apartOf, apartM, and_true] at C
    generalize hwb : (((w3.setCell _ _).setCell _ _).setCell _ _).setCell _ _ = w4
    replace H := HS.eqW hwb (H.putAll (i := 2) rfl (vs := [.int .i64 0, .slice none 0 0, .bool false, .bool false]) rfl rfl)
    simp only [List.nil_append, List.cons_append, List.append_assoc, List.set_cons_succ, List.set_cons_zero] at H
    clear hwb
    try clear C
    try clear w3
    have C := H.cells
    try simp only [cellsOf, cellsM, apartOf, apartM, and_true] at C
    refine bodyPost_ret (v := .tuple #[.agg #[.int .i64 S, .int .i64 W, .int .i64 size, .slice (some ⟨g, 0, none⟩) qs.length c2], .agg #[.int .i64 0, .slice none 0 0, .bool false, .bool false], .bool false]) (by simp [results, Try.results28, go_sem, C]) rfl ?_
    have H9 := HS.less (L' := [rowS (some ⟨g, 0, none⟩) qs.length c2 qs, anyS F qs]) H (by repeat (first | exact .slnil | refine .cons_cons _ ?_ | refine .cons _ ?_))
    exact ⟨(l, zLm, false), _, c2, qs, ⟨none, 0, 0⟩, F, .inl ⟨HNO.out, rfl⟩, HQS.out, rfl, HS.weak (L := [_]) H9 fun w' h => ⟨h, bytes_nil w'⟩⟩
  · skip
    obtain ⟨i, hik⟩ : ∃ i, i = k := ⟨_, rfl⟩
    subst hik
    have HKL := Lib.hid hk
    obtain ⟨c1, c5, c3⟩ := HG.out.coord hk
    obtain ⟨s, hs⟩ : ∃ s, s = i / W := ⟨_, rfl⟩
    obtain ⟨r, hr⟩ : ∃ r, r = i % W := ⟨_, rfl⟩
    rw [← hs] at c1 c3
    rw [← hr] at c5 c3
    clear hs hr
    have hW1 := HG.out.W1
    have hW4 := HG.out.W4
    have hS8 := HG.out.S8
    have hfit := HGQ.out.fits c1
    rw [List.length_map] at hfit
    have HSS := Lib.hid c1
    have HR0 := Lib.hid c5
    have HIK := Lib.hid (show i = s * W + r from c3.symm)
    have HIT := Lib.hid hit
    have HW4 := Lib.hid hW4
    have hs8 : s ≤ 8 := by omega
    have hqt : ((i : Nat) : Int).tdiv W = s := by
      rw [← c3, Int.tdiv_eq_ediv_of_nonneg (by omega), ← Int.natCast_ediv]
      congr 1
      rw [Nat.mul_comm, Nat.mul_add_div (by omega), Nat.div_eq_of_lt c5]; omega
    have hqd : ((i : Nat) : Int) / W = s := by rw [← hqt, Int.tdiv_eq_ediv_of_nonneg (by omega)]
    obtain ⟨lo, hlo⟩ : ∃ lo, lo = s * W := ⟨_, rfl⟩
    rw [← hlo] at hfit
    have hlw : (s : Int) * W = lo := by rw [hlo]; push_cast; rfl
    have hhw : ((s : Int) + 1) * W = ((lo + W : Nat) : Int) := by rw [Int.add_mul, Int.one_mul, hlw]; push_cast; rfl
    have HLO := Lib.hid hlo
    have HIL := Lib.hid (show i = lo + r by rw [hlo]; exact c3.symm)
    clear hlo c3 hit hk
    obtain ⟨hi2, hie⟩ : ∃ h, h = lo + W := ⟨_, rfl⟩
    rw [← hie] at hhw
    have hq32 := HN32.out
    have hW0 : ((W : Int) == 0) = false := beq_eq_false_iff_ne.2 (by omega)
    have hW0' : ¬ W = 0 := by omega
    have hb1 : (-9223372036854775808 : Int) ≤ lo ∧ (lo : Int) ≤ 9223372036854775807 := by omega
    have hb2 : (-9223372036854775808 : Int) ≤ hi2 ∧ (hi2 : Int) ≤ 9223372036854775807 := by omega
    have HFIT := Lib.hid hfit
    have HIE := Lib.hid (show hi2 = lo + W ∧ lo ≤ hi2 from ⟨hie, by omega⟩)
    have hb3 : (-9223372036854775808 : Int) ≤ s ∧ (s : Int) ≤ 9223372036854775807 := by omega
    have hw0' : IntKind.i64.wrap (((i : Nat) : Int).tdiv W) = s := by rw [hqt]; exact IntWalk.i64_in _ hb3
    have hw1' : IntKind.i64.wrap ((s : Int) * W) = lo := by rw [hlw]; exact IntWalk.i64_in _ hb1
    have hw2' : IntKind.i64.wrap (((s : Int) + 1) * W) = hi2 := by rw [hhw]; exact IntWalk.i64_in _ hb2
    clear hb1 hb2 hb3 hlw hhw hfit hie hq32 hW1 hW4 hS8 c1 c5
    have hki : ¬ ((i : Int) < 0) := by omega
    have hkl : (i : Int) < l.length := by have := HKL.out; omega
    have HSI := Lib.hid (show rowG W l s r = l[i]! by unfold rowG; rw [HIK.out])
    obtain ⟨a0, ha0⟩ : ∃ a, a = (l[i]!).age := ⟨_, rfl⟩
    have HA0 := Lib.hid ha0
    clear ha0
    have HCI := Lib.hid (fun (wx : World) (hb : Below w.heap.size w wx) => show wx.cell? ⟨bb, oo + i * 6 + 1, none⟩ = some (.int .i64 a0) from by
      obtain ⟨y1, -, h1⟩ := HCX.out wx hb i HKL.out
      rw [HA0.out]
      exact h1 1 _ rfl)
    go_upto_region 6 with fail
    have hnr := H.nilRow 37 6
    clear H
    have H := hnr
    clear hnr
    try simp only [List.nil_append, List.cons_append] at H
    try clear C
    try simp only [World.size_alloc, List.nil_append, List.cons_append, List.append_assoc] at H
    have C := H.cells
    try simp only [cellsOf, cellsM, apartOf, apartM, and_true] at C
    go_wp2_with fail
    go_loopw [10, 11] (fun sv kk wr => ∃ (t : Nat) (sk : Option Addr) (ck : Nat), kk = .int .i64 ((lo + t : Nat) : Int) ∧ sv = .slice sk (keptG lo t i a0 qs).length ck ∧ t ≤ W ∧ HS NoD w [.blk bX #[.int .i64 S, .int .i64 W, .int .i64 size, .slice (some ⟨bb, oo, none⟩) l.length xc] 24, .blk bR #[.int .i64 0, .int .i64 0, .int .i64 0, .slice none 0 0] 24, .blk bL #[.int .i64 0, .slice none 0 0, .bool false, .bool false] 35, rowS (some ⟨g, 0, none⟩) qs.length c2 qs, anyS F qs, .blk bO #[.int .i64 S, .int .i64 W, .int .i64 size, .slice (some ⟨g, 0, none⟩) qs.length c2] 24, rowS sk (keptG lo t i a0 qs).length ck (keptG lo t i a0 qs)] wr) (fun _ kk _ => hi2 - (intOf kk).toNat)
    case atStart => exact ⟨0, none, 0, rfl, by rw [keptG_zero]; rfl, Nat.zero_le _, by rw [keptG_zero]; exact H⟩
    case round =>
      clear H C
      obtain ⟨t, sk, ck, rfl, rfl, ht, H⟩ := hrel
      skip
      try clear C
      try simp only [World.size_alloc, List.nil_append, List.cons_append, List.append_assoc] at H
      have C := H.cells
      try simp only [cellsOf, cellsM, apartOf, apartM, and_true] at C
      have hbX : (bb = bX) = False := eq_false (fun e9 => by have := H.mine 0 rfl; have := HBB.out; omega)
      obtain ⟨k, hk⟩ : ∃ k, k = lo + t := ⟨_, rfl⟩
      have HK := Lib.hid hk
      rw [← hk]
      have hkb : (k : Int) ≤ 32 := by have := HIE.out; have := HFIT.out; have := HN32.out; omega
      by_cases hlt : t < W
      · have HLT := Lib.hid hlt
        have hkh : (k : Int) < hi2 := by have := HIE.out; omega
        have hkq : k < qs.length := by have := HIE.out; have := HFIT.out; omega
        have hkqI : (k : Int) < qs.length := by omega
        have hkl2 : k < l.length := by have := HQL.out; omega
        have hkl2I : (k : Int) < l.length := by omega
        have HKQ := Lib.hid hkq
        have hsk : (qs[k]!).s = l[k]! := by rw [← HQS.out, map_get _ _ _ hkq]
        have HYES := Lib.hid (keptG_yes (lo := lo) (t := t) (i := i) (a := a0) (qs := qs))
        have HNO := Lib.hid (keptG_no (lo := lo) (t := t) (i := i) (a := a0) (qs := qs))
        rw [← hk] at HYES HNO
        have HCK := Lib.hid (fun (wx : World) (hb : Below w.heap.size w wx) => show wx.cell? ⟨bb, oo + k * 6, none⟩ = some (.bool (qs[k]!).s.u) from by
          obtain ⟨y1, -, h1⟩ := HCX.out wx hb k hkl2
          rw [hsk]
          exact h1 0 _ rfl)
        have HAB := Lib.hid (HAGES.out k hkq)
        have HFG := Lib.hid (fun m v => flat_get swC_len qs k m v hkq)
        obtain ⟨q, hq⟩ : ∃ q, q = qs[k]! := ⟨_, rfl⟩
        rw [← hq] at HYES HNO HCK HAB HFG
        have k0 := HCK.out wr H.done
        obtain ⟨⟨u, age, ⟨ad, bs, d, p⟩⟩, ⟨ya, yn, yc⟩⟩ := q
        clear hsk hq hk hkl2
        dsimp only at k0 HYES HNO HAB
        by_cases hne : k = i
        · have hneb : ((k : Int) == (i : Int)) = true := by rw [hne]; simp
          have HN2 := Lib.hid (HNO.out (fun h => h.1 hne))
          clear hne
          go_wp2_with fail
          go_roundw
          case rel => exact ⟨t + 1, sk, ck, by rw [HK.out]; go_num, by rw [← HN2.out], by have := HLT.out; omega, by rw [← HN2.out]; exact H⟩
          case measure => simp [intOf]; have := HK.out; have := HIE.out; have := HLT.out; omega
        · have hneb : ((k : Int) == (i : Int)) = false := beq_eq_false_iff_ne.2 (by omega)
          have HNE := Lib.hid hne
          clear hne
          cases u
          case false =>
            have HN2 := Lib.hid (HNO.out (fun h => nomatch h.2))
            go_wp2_with fail
            go_roundw
            case rel => exact ⟨t + 1, sk, ck, by rw [HK.out]; go_num, by rw [← HN2.out], by have := HLT.out; omega, by rw [← HN2.out]; exact H⟩
            case measure => simp [intOf]; have := HK.out; have := HIE.out; have := HLT.out; omega
          case true =>
            have hab := HAB.out rfl
            have HY2 := Lib.hid (HYES.out ⟨HNE.out, rfl⟩)
            have HKL3 := Lib.hid (keptG_len lo t i a0 qs)
            have hgl : g < wr.heap.size := Item.lt (H.at 3 rfl) (k := g) rfl
            have hcc : ∀ (m : Nat) (v : Value), m < 6 → (swC ⟨⟨true, age, ⟨ad, bs, d, p⟩⟩, ⟨ya, yn, yc⟩⟩)[m]? = some v → wr.cell? ⟨g, k * 6 + m, none⟩ = some v := fun m v hm hv => by
              have := HKQ.out
              exact (H.rowCells 3 rfl (k * 6 + m) (by omega)).1.trans (HFG.out m v hv)
            have g0 : wr.cell? ⟨g, k * 6, none⟩ = some (.bool true) := hcc 0 _ (by omega) rfl
            have g1 : wr.cell? ⟨g, k * 6 + 1, none⟩ = some (.int .i64 age) := hcc 1 _ (by omega) rfl
            have g2 : wr.cell? ⟨g, k * 6 + 2, none⟩ = some (.int .i64 ad) := hcc 2 _ (by omega) rfl
            have g3 : wr.cell? ⟨g, k * 6 + 3, none⟩ = some (.slice ya yn yc) := hcc 3 _ (by omega) rfl
            have g4 : wr.cell? ⟨g, k * 6 + 4, none⟩ = some (.bool d) := hcc 4 _ (by omega) rfl
            have g5 : wr.cell? ⟨g, k * 6 + 5, none⟩ = some (.bool p) := hcc 5 _ (by omega) rfl
            clear hcc
            go_upto_region 12 with fail
            clear g0 g1 g2 g3 g4 g5 hgl k0
            generalize hwb : wr.alloc _ = w5
            replace H := HS.eqW hwb H.alloc
            try simp only [World.size_alloc, List.nil_append, List.cons_append, List.append_assoc] at H
            clear hwb
            generalize wr.heap.size = bP at H ⊢
            try clear C
            try clear wr
            have C := H.cells
            try simp only [cellsOf, cellsM, apartOf, apartM, and_true] at C
            generalize hks : keptG lo t i a0 qs = ks at H HY2 HKL3
            have hksn : ks.length ≤ 4 := by have := HKL3.out; have := HW4.out; omega
            clear hks
            skip
            by_cases hage : a0 < age
            · refine wp_region_xH (by kernel_rfl) (by kernel_rfl) (by kernel_rfl) (by kernel_rfl) (fun _ => False) (H) ?_
              clear H; intro w6 H hz0 hs0
              try clear C
              try simp only [World.size_alloc, List.nil_append, List.cons_append, List.append_assoc] at H hz0
              clear hz0
              try clear w5
              have C := H.cells
              try simp only [cellsOf, cellsM, apartOf, apartM, and_true] at C
              have Z := H.zs
              try simp only [ltsOf, ltsM, and_true] at Z
              have hz0 := Nat.le_refl w6.heap.size
              have i1 := HCI.out _ H.done
              have hbl : bb < w6.heap.size := by have := HBB.out; have := H.done.size; omega
              repeat (first | (refine wpX_skip rfl ?_; go_simp) | (refine wpX_free rfl rfl rfl (fun K hK => ?_); go_step; refine hK _ _ ?_; clear hK K) | (refine wpX_load rfl rfl rfl (by simp [Stay, OneD, NoD, *]) hs0 (by simp [*]) (fun K hK => ?_); go_step; refine hK _ _ ?_; clear hK K))
              (refine wpX_nil ?_; go_step)
              have HDS := Lib.hid (show decS a0 ⟨⟨true, age, ⟨ad, bs, d, p⟩⟩, ⟨ya, yn, yc⟩⟩ = ⟨⟨true, age - 1, ⟨ad, bs, d, p⟩⟩, ⟨ya, yn, yc⟩⟩ by unfold decS; rw [if_pos ⟨rfl, hage⟩])
              rw [HDS.out] at HY2
              go_upto_region 14 with fail
              generalize hwb : World.setCell _ _ _ = w8
              replace H := HS.eqW hwb (H.setTo (o := 1) (v := .int .i64 (age - 1)) 7 rfl rfl)
              clear hwb
              simp only [List.set_cons_succ, List.set_cons_zero] at H
              skip
              try clear C
              try simp only [World.size_alloc, List.nil_append, List.cons_append, List.append_assoc] at H
              have C := H.cells
              try simp only [cellsOf, cellsM, apartOf, apartM, and_true] at C
              go_wp2_with (at_builtin; go_loud (refine wpList_append_H rfl (.tmp 70) (.tmp 72) 22 rfl elemSw H.alloc 6 rfl rfl 8 rfl rfl rfl rfl (by decide) (by unfold maxLen; omega) (by omega) (fun gz cz wz HZ => ?_)); clear H C)
              simp only [List.set_cons_succ, List.set_cons_zero, List.nil_append, List.cons_append, List.append_assoc] at HZ
              skip
              go_roundw
              case rel => exact ⟨t + 1, _, _, by rw [HK.out]; go_num, by rw [← HY2.out, List.length_append]; rfl, by have := HLT.out; omega, by
                rw [← HY2.out, List.length_append]
                dsimp only [rowS]
                rw [List.flatMap_append]
                exact HS.less HZ (by repeat (first | exact .slnil | refine .cons_cons _ ?_ | refine .cons _ ?_))⟩
              case measure => simp [intOf]; have := HK.out; have := HIE.out; have := HLT.out; omega
            · skip
              refine wp_region_xH (by kernel_rfl) (by kernel_rfl) (by kernel_rfl) (by kernel_rfl) (fun _ => False) (H) ?_
              clear H; intro w7 H hz0 hs0
              try clear C
              try simp only [World.size_alloc, List.nil_append, List.cons_append, List.append_assoc] at H hz0
              clear hz0
              try clear w5
              have C := H.cells
              try simp only [cellsOf, cellsM, apartOf, apartM, and_true] at C
              have Z := H.zs
              try simp only [ltsOf, ltsM, and_true] at Z
              have hz0 := Nat.le_refl w7.heap.size
              have i1 := HCI.out _ H.done
              have hbl : bb < w7.heap.size := by have := HBB.out; have := H.done.size; omega
              repeat (first | (refine wpX_skip rfl ?_; go_simp) | (refine wpX_free rfl rfl rfl (fun K hK => ?_); go_step; refine hK _ _ ?_; clear hK K) | (refine wpX_load rfl rfl rfl (by simp [Stay, OneD, NoD, *]) hs0 (by simp [*]) (fun K hK => ?_); go_step; refine hK _ _ ?_; clear hK K))
              (refine wpX_nil ?_; go_step)
              have HDS := Lib.hid (show decS a0 ⟨⟨true, age, ⟨ad, bs, d, p⟩⟩, ⟨ya, yn, yc⟩⟩ = ⟨⟨true, age, ⟨ad, bs, d, p⟩⟩, ⟨ya, yn, yc⟩⟩ by unfold decS; rw [if_neg (fun h => hage h.2)])
              rw [HDS.out] at HY2
              go_upto_region 14 with fail
              go_wp2_with (at_builtin; go_loud (refine wpList_append_H rfl (.tmp 70) (.tmp 72) 22 rfl elemSw H.alloc 6 rfl rfl 8 rfl rfl rfl rfl (by decide) (by unfold maxLen; omega) (by omega) (fun gz cz wz HZ => ?_)); clear H C)
              simp only [List.set_cons_succ, List.set_cons_zero, List.nil_append, List.cons_append, List.append_assoc] at HZ
              skip
              go_roundw
              case rel => exact ⟨t + 1, _, _, by rw [HK.out]; go_num, by rw [← HY2.out, List.length_append]; rfl, by have := HLT.out; omega, by
                rw [← HY2.out, List.length_append]
                dsimp only [rowS]
                rw [List.flatMap_append]
                exact HS.less HZ (by repeat (first | exact .slnil | refine .cons_cons _ ?_ | refine .cons _ ?_))⟩
              case measure => simp [intOf]; have := HK.out; have := HIE.out; have := HLT.out; omega
      · obtain rfl : W = t := by omega
        obtain rfl : k = hi2 := by have := HIE.out; omega
        clear hk
        skip
        have HKL3 := Lib.hid (keptG_len lo W i a0 qs)
        have HDR := Lib.hid (drop_ref HG.out HQS.out HSS.out HR0.out (by rw [HSI.out]; exact HIT.out.1))
        rw [← HIK.out, ← HLO.out, HSI.out, ← HA0.out] at HDR
        have HKO := Lib.hid (fun (wx : World) (h : SlotsOk wx qs) => keptG_ok (lo := lo) (t := W) (i := i) (a := a0) (by have := HFIT.out; omega) h)
        generalize hks : keptG lo W i a0 qs = ks at H HDR HKO HKL3
        have hksn : ks.length ≤ 4 := by have := HKL3.out; have := HW4.out; omega
        clear hks
        go_wp2_with fail
        go_loopw [13, 76] (fun _ kk wr => ∃ (j : Nat), kk = .int .i64 j ∧ j ≤ W ∧ HS NoD w [.blk bX #[.int .i64 S, .int .i64 W, .int .i64 size, .slice (some ⟨bb, oo, none⟩) l.length xc] 24, .blk bR #[.int .i64 0, .int .i64 0, .int .i64 0, .slice none 0 0] 24, .blk bL #[.int .i64 0, .slice none 0 0, .bool false, .bool false] 35, rowS (some ⟨g, 0, none⟩) qs.length c2 (fillK lo j ks qs), anyS F qs, .blk bO #[.int .i64 S, .int .i64 W, .int .i64 size, .slice (some ⟨g, 0, none⟩) qs.length c2] 24, rowS sk ks.length ck ks] wr) (fun _ kk _ => W - (intOf kk).toNat)
        case atStart => exact ⟨0, rfl, Nat.zero_le _, by rw [fillK_zero]; exact H⟩
        case round =>
          clear H C
          obtain ⟨j, rfl, hj, H⟩ := hrel
          skip
          try clear C
          try simp only [World.size_alloc, List.nil_append, List.cons_append, List.append_assoc] at H
          have C := H.cells
          try simp only [cellsOf, cellsM, apartOf, apartM, and_true] at C
          by_cases hlt : j < W
          · have HLT := Lib.hid hlt
            have hjt : (j : Int) < W := by omega
            have hjb : (j : Int) < 4 := by have := HW4.out; omega
            obtain ⟨k2, hk2⟩ : ∃ k, k = lo + j := ⟨_, rfl⟩
            have HK2 := Lib.hid hk2
            have HKT := Lib.hid (show k2 < qs.length by have := HFIT.out; omega)
            have hk2c : (lo : Int) + j = k2 := by rw [hk2]; push_cast; rfl
            have hk2q : (k2 : Int) < qs.length := by have := HKT.out; omega
            have hk2b : (k2 : Int) < 32 := by have := HKT.out; have := HN32.out; omega
            have HFS := Lib.hid (fun (q : Sw) (h : q = if j < ks.length then ks[j]! else zSw) => fillK_step (lo := lo) (t := j) (ks := ks) (qs := qs) (by rw [← HK2.out]; exact HKT.out) h)
            rw [← hk2] at HFS
            have HFL := Lib.hid (fillK_len lo j ks qs)
            clear hk2
            generalize hfk : fillK lo j ks qs = qf at H HFS HFL
            clear hfk
            have hk9 : ∀ m, m < 6 → ∃ u, wr.cell? ⟨g, k2 * 6 + m, none⟩ = some u ∧ wr.frozen? ⟨g, k2 * 6 + m, none⟩ = false := fun m hm => by
              have := HKT.out
              have h1 := H.rowCells 3 rfl (k2 * 6 + m) (by omega)
              exact ⟨_, h1.1.trans (List.getElem?_eq_getElem (by rw [flat_len swC_len, HFL.out]; have := HKT.out; omega)), h1.2⟩
            obtain ⟨vv0, q0, q0f⟩ : ∃ u, wr.cell? ⟨g, k2 * 6, none⟩ = some u ∧ wr.frozen? ⟨g, k2 * 6, none⟩ = false := hk9 0 (by omega)
            obtain ⟨vv1, q1, q1f⟩ : ∃ u, wr.cell? ⟨g, k2 * 6 + 1, none⟩ = some u ∧ wr.frozen? ⟨g, k2 * 6 + 1, none⟩ = false := hk9 1 (by omega)
            obtain ⟨vv2, q2, q2f⟩ : ∃ u, wr.cell? ⟨g, k2 * 6 + 2, none⟩ = some u ∧ wr.frozen? ⟨g, k2 * 6 + 2, none⟩ = false := hk9 2 (by omega)
            obtain ⟨vv3, q3, q3f⟩ : ∃ u, wr.cell? ⟨g, k2 * 6 + 3, none⟩ = some u ∧ wr.frozen? ⟨g, k2 * 6 + 3, none⟩ = false := hk9 3 (by omega)
            obtain ⟨vv4, q4, q4f⟩ : ∃ u, wr.cell? ⟨g, k2 * 6 + 4, none⟩ = some u ∧ wr.frozen? ⟨g, k2 * 6 + 4, none⟩ = false := hk9 4 (by omega)
            obtain ⟨vv5, q5, q5f⟩ : ∃ u, wr.cell? ⟨g, k2 * 6 + 5, none⟩ = some u ∧ wr.frozen? ⟨g, k2 * 6 + 5, none⟩ = false := hk9 5 (by omega)
            have hgl9 : g < wr.heap.size := Item.lt (H.at 3 rfl) (k := g) rfl
            clear hk9
            go_upto_region 19 with fail
            generalize hwb : World.setCell _ _ _ = w81
            replace H := HS.eqW hwb ((((((H.rowSet 3 rfl (k2 * 6) (.bool false)).rowSet 3 rfl (k2 * 6 + 1) (.int .i64 0)).rowSet 3 rfl (k2 * 6 + 2) (.int .i64 0)).rowSet 3 rfl (k2 * 6 + 3) (.slice none 0 0)).rowSet 3 rfl (k2 * 6 + 4) (.bool false)).rowSet 3 rfl (k2 * 6 + 5) (.bool false))
            clear hwb q0 q0f q1 q1f q2 q2f q3 q3f q4 q4f q5 q5f hgl9
            simp only [List.set_cons_succ, List.set_cons_zero] at H
            rw [show ((((((qf.flatMap swC).set (k2 * 6) (.bool false)).set (k2 * 6 + 1) (.int .i64 0)).set (k2 * 6 + 2) (.int .i64 0)).set (k2 * 6 + 3) (.slice none 0 0)).set (k2 * 6 + 4) (.bool false)).set (k2 * 6 + 5) (.bool false) = (qf.set k2 zSw).flatMap swC from sw_all qf k2 zSw (by rw [HFL.out]; exact HKT.out)] at H
            skip
            try clear C
            try simp only [World.size_alloc, List.nil_append, List.cons_append, List.append_assoc] at H
            have C := H.cells
            try simp only [cellsOf, cellsM, apartOf, apartM, and_true] at C
            have HZL := Lib.hid (show (qf.set k2 zSw).length = qs.length by rw [List.length_set]; exact HFL.out)
            by_cases hjk : j < ks.length
            · have hjkI : (j : Int) < ks.length := by omega
              have HJK := Lib.hid hjk
              have HF2 := Lib.hid (HFS.out ks[j]! (by rw [if_pos hjk]))
              have HSET := Lib.hid (show (qf.set k2 zSw).set k2 ks[j]! = qf.set k2 ks[j]! from List.set_set ..)
              generalize qf.set k2 zSw = qz at H HZL HSET
              obtain ⟨gk, capk, hv, -, -⟩ := World.ownsRow.form (H.at 6 rfl) (by omega)
              obtain ⟨rfl, -, rfl⟩ := Value.slice.inj hv
              clear hv hjk
              have HKG := Lib.hid (fun m v => flat_get swC_len ks j m v HJK.out)
              obtain ⟨q, hq⟩ : ∃ q, q = ks[j]! := ⟨_, rfl⟩
              rw [← hq] at HF2 HSET HKG
              obtain ⟨⟨u, age, ⟨ad, bs, d, p⟩⟩, ⟨ya, yn, yc⟩⟩ := q
              clear hq
              go_upto_region 20 with fail
              refine wp_region_xH (by kernel_rfl) (by kernel_rfl) (by kernel_rfl) (by kernel_rfl) (fun k => k = g) (H) ?_
              clear H; intro w8 H hz0 hs0
              try clear C
              try simp only [World.size_alloc, List.nil_append, List.cons_append, List.append_assoc] at H hz0
              clear hz0
              try clear w81
              have C := H.cells
              try simp only [cellsOf, cellsM, apartOf, apartM, and_true] at C
              have Z := H.zs
              try simp only [ltsOf, ltsM, and_true] at Z
              have hz0 := Nat.le_refl w8.heap.size
              have nag := fun e9 => H.apart (i := 3) (j := 6) rfl rfl (by decide) (k := g) rfl e9
              have na1 := H.rowApart 3 5 rfl rfl (by decide)
              have na0 := H.rowApart 3 0 rfl rfl (by decide)
              have ngk : (gk = g) = False := eq_false (fun e => nag (by subst e; rfl))
              have hgk : gk < w8.heap.size := Item.lt (H.at 6 rfl) (k := gk) rfl
              have hcc : ∀ (m : Nat) (v : Value), m < 6 → (swC ⟨⟨u, age, ⟨ad, bs, d, p⟩⟩, ⟨ya, yn, yc⟩⟩)[m]? = some v → w8.cell? ⟨gk, j * 6 + m, none⟩ = some v := fun m v hm hv => by
                have := HJK.out
                exact (H.rowCells 6 rfl (j * 6 + m) (by omega)).1.trans (HKG.out m v hv)
              have g0 : w8.cell? ⟨gk, j * 6, none⟩ = some (.bool u) := hcc 0 _ (by omega) rfl
              have g1 : w8.cell? ⟨gk, j * 6 + 1, none⟩ = some (.int .i64 age) := hcc 1 _ (by omega) rfl
              have g2 : w8.cell? ⟨gk, j * 6 + 2, none⟩ = some (.int .i64 ad) := hcc 2 _ (by omega) rfl
              have g3 : w8.cell? ⟨gk, j * 6 + 3, none⟩ = some (.slice ya yn yc) := hcc 3 _ (by omega) rfl
              have g4 : w8.cell? ⟨gk, j * 6 + 4, none⟩ = some (.bool d) := hcc 4 _ (by omega) rfl
              have g5 : w8.cell? ⟨gk, j * 6 + 5, none⟩ = some (.bool p) := hcc 5 _ (by omega) rfl
              clear hcc nag
              repeat (first | (refine wpX_skip rfl ?_; go_simp) | (refine wpX_free rfl rfl rfl (fun K hK => ?_); go_step; refine hK _ _ ?_; clear hK K) | (refine wpX_load rfl rfl rfl (by simp [Stay, OneD, NoD, *]) hs0 (by simp [*]) (fun K hK => ?_); go_step; refine hK _ _ ?_; clear hK K))
              have hk9 : ∀ m, m < 6 → ∃ u, w8.cell? ⟨g, k2 * 6 + m, none⟩ = some u ∧ w8.frozen? ⟨g, k2 * 6 + m, none⟩ = false := fun m hm => by
                have := HKT.out
                have h1 := H.rowCells 3 rfl (k2 * 6 + m) (by omega)
                exact ⟨_, h1.1.trans (List.getElem?_eq_getElem (by rw [flat_len swC_len, HZL.out]; have := HKT.out; omega)), h1.2⟩
              obtain ⟨vv0, q0, q0f⟩ : ∃ u, w8.cell? ⟨g, k2 * 6, none⟩ = some u ∧ w8.frozen? ⟨g, k2 * 6, none⟩ = false := hk9 0 (by omega)
              obtain ⟨vv1, q1, q1f⟩ : ∃ u, w8.cell? ⟨g, k2 * 6 + 1, none⟩ = some u ∧ w8.frozen? ⟨g, k2 * 6 + 1, none⟩ = false := hk9 1 (by omega)
              obtain ⟨vv2, q2, q2f⟩ : ∃ u, w8.cell? ⟨g, k2 * 6 + 2, none⟩ = some u ∧ w8.frozen? ⟨g, k2 * 6 + 2, none⟩ = false := hk9 2 (by omega)
              obtain ⟨vv3, q3, q3f⟩ : ∃ u, w8.cell? ⟨g, k2 * 6 + 3, none⟩ = some u ∧ w8.frozen? ⟨g, k2 * 6 + 3, none⟩ = false := hk9 3 (by omega)
              obtain ⟨vv4, q4, q4f⟩ : ∃ u, w8.cell? ⟨g, k2 * 6 + 4, none⟩ = some u ∧ w8.frozen? ⟨g, k2 * 6 + 4, none⟩ = false := hk9 4 (by omega)
              obtain ⟨vv5, q5, q5f⟩ : ∃ u, w8.cell? ⟨g, k2 * 6 + 5, none⟩ = some u ∧ w8.frozen? ⟨g, k2 * 6 + 5, none⟩ = false := hk9 5 (by omega)
              have hgl9 : g < w8.heap.size := Item.lt (H.at 3 rfl) (k := g) rfl
              clear hk9
              refine wpX_eff rfl rfl (fun _ _ => ?_)
              go_step
              go_step
              generalize hwb : (((((w8.setCell _ _).setCell _ _).setCell _ _).setCell _ _).setCell _ _).setCell _ _ = w82
              replace hs0 := Same.eqW hwb ((((((hs0.set (p := ⟨g, k2 * 6, none⟩) (fun k hk e => hk.2 (by simp [e])) (.bool u)).set (p := ⟨g, k2 * 6 + 1, none⟩) (fun k hk e => hk.2 (by simp [e])) (.int .i64 age)).set (p := ⟨g, k2 * 6 + 2, none⟩) (fun k hk e => hk.2 (by simp [e])) (.int .i64 ad)).set (p := ⟨g, k2 * 6 + 3, none⟩) (fun k hk e => hk.2 (by simp [e])) (.slice ya yn yc)).set (p := ⟨g, k2 * 6 + 4, none⟩) (fun k hk e => hk.2 (by simp [e])) (.bool d)).set (p := ⟨g, k2 * 6 + 5, none⟩) (fun k hk e => hk.2 (by simp [e])) (.bool p))
              replace H := HS.eqW hwb ((((((H.rowSet 3 rfl (k2 * 6) (.bool u)).rowSet 3 rfl (k2 * 6 + 1) (.int .i64 age)).rowSet 3 rfl (k2 * 6 + 2) (.int .i64 ad)).rowSet 3 rfl (k2 * 6 + 3) (.slice ya yn yc)).rowSet 3 rfl (k2 * 6 + 4) (.bool d)).rowSet 3 rfl (k2 * 6 + 5) (.bool p))
              clear hwb q0 q0f q1 q1f q2 q2f q3 q3f q4 q4f q5 q5f hgl9
              simp only [List.set_cons_succ, List.set_cons_zero] at H
              rw [show _ = (qz.set k2 ⟨⟨u, age, ⟨ad, bs, d, p⟩⟩, ⟨ya, yn, yc⟩⟩).flatMap swC from sw_all qz k2 ⟨⟨u, age, ⟨ad, bs, d, p⟩⟩, ⟨ya, yn, yc⟩⟩ (by rw [HZL.out]; exact HKT.out)] at H
              skip
              try clear C
              try simp only [World.size_alloc, List.nil_append, List.cons_append, List.append_assoc] at H
              have C := H.cells
              try simp only [cellsOf, cellsM, apartOf, apartM, and_true] at C
              refine ⟨hs0, ?_⟩
              (refine wpX_nil ?_; go_step)
              rw [HSET.out, HF2.out] at H
              go_wp2_with fail
              go_roundw
              case rel => exact ⟨j + 1, by go_num, by have := HLT.out; omega, H⟩
              case measure => simp [intOf]; have := HLT.out; omega
            · have hjkI : ¬ ((j : Int) < ks.length) := by omega
              have HF2 := Lib.hid (HFS.out zSw (by rw [if_neg hjk]))
              rw [HF2.out] at H
              go_wp2_with fail
              go_roundw
              case rel => exact ⟨j + 1, by go_num, by have := HLT.out; omega, H⟩
              case measure => simp [intOf]; have := HLT.out; omega
          · obtain rfl : W = j := by omega
            skip
            have HQ3 := Lib.hid (fun (wx : World) (h : SlotsOk wx qs) => fillK_ok (lo := lo) (t := W) h (HKO.out wx h))
            have HQ4 := Lib.hid (fillK_len lo W ks qs)
            generalize fillK lo W ks qs = qs2 at H HQ3 HQ4 HDR
            have LCP := Lib.hid (fun wx (m : Lm) (y : Sv) (hm : m.bs.length ≤ 1000) (hx : BytesAt wx y m.bs) => l30copy_any m y hm wx hx)
            have HRES := Lib.hid (show DropR S W l a (onSet W s l (dropG W (rowG W l s) r), (l[i]!).ln, true) from .inr ⟨s, r, HSS.out, HR0.out, by rw [← HIK.out]; exact HIT.out, by rw [← HIK.out]⟩)
            have hbX : (bb = bX) = False := eq_false (fun e9 => by have := H.mine 0 rfl; have := HBB.out; omega)
            have hbR : (bb = bR) = False := eq_false (fun e9 => by have := H.mine 1 rfl; have := HBB.out; omega)
            have hbL : (bb = bL) = False := eq_false (fun e9 => by have := H.mine 2 rfl; have := HBB.out; omega)
            go_upto_region 22 with fail
            refine wp_region_xH (by kernel_rfl) (by kernel_rfl) (by kernel_rfl) (by kernel_rfl) (fun k => k = bR ∨ k = bL) (H) ?_
            clear H; intro w9 H hz0 hs0
            try clear C
            try simp only [World.size_alloc, List.nil_append, List.cons_append, List.append_assoc] at H hz0
            clear hz0
            try clear wr
            have C := H.cells
            try simp only [cellsOf, cellsM, apartOf, apartM, and_true] at C
            have Z := H.zs
            try simp only [ltsOf, ltsM, and_true] at Z
            have hz0 := Nat.le_refl w9.heap.size
            have hbl : bb < w9.heap.size := by have := HBB.out; have := H.done.size; omega
            obtain ⟨yo, hob, hoc⟩ := HCX.out w9 H.done i HKL.out
            have HML := Lib.hid (HG.out.bytes HKL.out)
            generalize l[i]! = sl at hob hoc HML HRES
            obtain ⟨u0, ag0, ⟨ad0, bs0, d0, p0⟩⟩ := sl
            obtain ⟨y0, yn0, yc0⟩ := yo
            have k2 : w9.cell? ⟨bb, oo + i * 6 + 2, none⟩ = some (.int .i64 ad0) := hoc 2 _ rfl
            have k3 : w9.cell? ⟨bb, oo + i * 6 + 3, none⟩ = some (.slice y0 yn0 yc0) := hoc 3 _ rfl
            have k4 : w9.cell? ⟨bb, oo + i * 6 + 4, none⟩ = some (.bool d0) := hoc 4 _ rfl
            have k5 : w9.cell? ⟨bb, oo + i * 6 + 5, none⟩ = some (.bool p0) := hoc 5 _ rfl
            have HOB := Lib.hid hob
            clear hoc hob
            repeat (first | (refine wpX_skip rfl ?_; go_simp) | (refine wpX_free rfl rfl rfl (fun K hK => ?_); go_step; refine hK _ _ ?_; clear hK K) | (refine wpX_load rfl rfl rfl (by simp [Stay, OneD, NoD, *]) hs0 (by simp [*]) (fun K hK => ?_); go_step; refine hK _ _ ?_; clear hK K))
            refine wpX_eff rfl rfl (fun _ _ => ?_)
            go_step
            refine (LCP.out _ ⟨ad0, bs0, d0, p0⟩ ⟨y0, yn0, yc0⟩ (Nat.le_trans HML.out (by omega)) HOB.out).mono ?_
            rintro _ w10 ⟨⟨ra, rn, rc⟩, G, rfl, K⟩
            replace hs0 := hs0.belowS hz0 K.done
            replace hz0 := Nat.le_trans hz0 K.done.size
            replace H := H.join K (one_low rfl)
            clear K
            try simp only [List.nil_append, List.cons_append, List.append_assoc] at H
            try clear C
            have C := H.cells
            try simp only [cellsOf, cellsM, apartOf, apartM, and_true] at C
            try clear w9
            dsimp only
            go_step
            refine ⟨hs0, ?_⟩
            dsimp only [lnV]
            refine wpX_eff rfl rfl (fun _ _ => ?_)
            go_step
            go_step
            generalize hwb : (((w10.setCell _ _).setCell _ _).setCell _ _).setCell _ _ = w11
            replace hs0 := Same.eqW hwb (hs0.setAll (b := bR) (fun k hk e => hk.2 (by simp [e])) 0 [.int .i64 S, .int .i64 W, .int .i64 size, .slice (some ⟨g, 0, none⟩) qs.length c2])
            replace hz0 := Nat.le_trans hz0 (Nat.le_of_eq ((setAll_same [.int .i64 S, .int .i64 W, .int .i64 size, .slice (some ⟨g, 0, none⟩) qs.length c2] bR 0 w10).2.2.2.1.symm.trans (congrArg (fun w => w.heap.size) hwb)))
            replace H := HS.eqW hwb (H.putAll (i := 1) rfl (vs := [.int .i64 S, .int .i64 W, .int .i64 size, .slice (some ⟨g, 0, none⟩) qs.length c2]) rfl rfl)
            simp only [List.nil_append, List.cons_append, List.append_assoc, List.set_cons_succ, List.set_cons_zero] at H
            clear hwb
            try clear C
            try clear w10
            have C := H.cells
            try simp only [cellsOf, cellsM, apartOf, apartM, and_true] at C
            refine ⟨hs0, ?_⟩
            refine wpX_eff rfl rfl (fun _ _ => ?_)
            go_step
            go_step
            generalize hwb : (((w11.setCell _ _).setCell _ _).setCell _ _).setCell _ _ = w12
            replace hs0 := Same.eqW hwb (hs0.setAll (b := bL) (fun k hk e => hk.2 (by simp [e])) 0 [.int .i64 ad0, .slice ra rn rc, .bool d0, .bool p0])
            replace hz0 := Nat.le_trans hz0 (Nat.le_of_eq ((setAll_same [.int .i64 ad0, .slice ra rn rc, .bool d0, .bool p0] bL 0 w11).2.2.2.1.symm.trans (congrArg (fun w => w.heap.size) hwb)))
            replace H := HS.eqW hwb (H.putAll (i := 2) rfl (vs := [.int .i64 ad0, .slice ra rn rc, .bool d0, .bool p0]) rfl rfl)
            simp only [List.nil_append, List.cons_append, List.append_assoc, List.set_cons_succ, List.set_cons_zero] at H
            clear hwb
            try clear C
            try clear w11
            have C := H.cells
            try simp only [cellsOf, cellsM, apartOf, apartM, and_true] at C
            refine ⟨hs0, ?_⟩
            repeat (first | (refine wpX_skip rfl ?_; go_simp) | (refine wpX_free rfl rfl rfl (fun K hK => ?_); go_step; refine hK _ _ ?_; clear hK K) | (refine wpX_load rfl rfl rfl (by simp [Stay, OneD, NoD, *]) hs0 (by simp [*]) (fun K hK => ?_); go_step; refine hK _ _ ?_; clear hK K))
            (refine wpX_nil ?_; go_step)
            repeat go_step
            refine bodyPost_ret (v := .tuple #[.agg #[.int .i64 S, .int .i64 W, .int .i64 size, .slice (some ⟨g, 0, none⟩) qs.length c2], .agg #[.int .i64 ad0, .slice ra rn rc, .bool d0, .bool p0], .bool true]) (by simp [results, Try.results28, go_sem, C]) rfl ?_
            have H9 := HS.less (L' := [rowS (some ⟨g, 0, none⟩) qs.length c2 qs2, anyS F qs, .any G (fun w => BytesAt w ⟨ra, rn, rc⟩ bs0)]) H (by repeat (first | exact .slnil | refine .cons_cons _ ?_ | refine .cons _ ?_))
            have H8 := HS.merge (L := [_]) H9
            have H7 := HS.weak (L := [_]) H8 (K' := fun w => SlotsOk w qs2 ∧ BytesAt w ⟨ra, rn, rc⟩ bs0) (fun w' h => ⟨HQ3.out w' h.1, h.2⟩)
            rw [← HQ4.out] at H7 ⊢
            exact ⟨_, _, _, qs2, ⟨ra, rn, rc⟩, _, HRES.out, HDR.out, rfl, H7⟩
end Go.Proofs.Ytfmcicmbehjdcaa
