/- Flush, of cache and of the reference: every slot's line is clean. -/
import Derived.Test.YtfmcicmbehjdcaaLrDi
namespace Go.Proofs.Ytfmcicmbehjdcaa
set_option linter.unusedSimpArgs false
set_option linter.unusedVariables false
open Go.RowKit
set_option maxRecDepth 100000
attribute [local irreducible] wpX wpF Calls

def cleanM (m : Lm) : Lm := ⟨m.ad, m.bs, false, m.p⟩
def cleanS (s : Sm) : Sm := ⟨s.u, s.age, cleanM s.ln⟩
def flushL (l : List Sm) : List Sm := l.map cleanS
def cleanW (q : Sw) : Sw := ⟨cleanS q.s, q.x⟩
def flushK (i : Nat) (qs : List Sw) : List Sw := (qs.take i).map cleanW ++ qs.drop i
theorem flushK_zero {qs : List Sw} : flushK 0 qs = qs := rfl
theorem flushK_len {i : Nat} {qs : List Sw} : (flushK i qs).length = qs.length := by unfold flushK; simp; omega
theorem flushK_all {qs : List Sw} : (flushK qs.length qs).map Sw.s = flushL (qs.map Sw.s) := by
  unfold flushK flushL
  rw [List.take_length, List.drop_length, List.append_nil, List.map_map, List.map_map]
  rfl
theorem flushK_get {i : Nat} {qs : List Sw} (hi : i < qs.length) : (flushK i qs)[i]! = qs[i]! := by
  unfold flushK
  have h1 : ((qs.take i).map cleanW).length = i := by simp; omega
  rw [getElem!_pos _ i (by simp; omega), List.getElem_append_right (by omega), getElem!_pos qs i hi]
  simp only [h1, Nat.sub_self, List.getElem_drop, Nat.add_zero]
theorem flushK_succ {i : Nat} {qs : List Sw} (hi : i < qs.length) : flushK (i + 1) qs = (flushK i qs).set i ⟨⟨((flushK i qs)[i]!).s.u, ((flushK i qs)[i]!).s.age, ⟨((flushK i qs)[i]!).s.ln.ad, ((flushK i qs)[i]!).s.ln.bs, false, ((flushK i qs)[i]!).s.ln.p⟩⟩, ((flushK i qs)[i]!).x⟩ := by
  rw [flushK_get hi, getElem!_pos qs i hi]
  unfold flushK
  have h1 : ((qs.take i).map cleanW).length = i := by simp; omega
  rw [List.set_append_right _ _ (by omega), h1, Nat.sub_self, List.take_add_one, List.getElem?_eq_getElem hi, List.map_append, List.append_assoc]
  congr 1
  rw [List.drop_eq_getElem_cons hi, List.set_cons_zero]
  rfl
theorem flushK_ok {w : World} {i : Nat} {qs : List Sw} (h : SlotsOk w qs) : SlotsOk w (flushK i qs) := fun j hj => by
  rw [flushK_len] at hj
  have h0 := h j hj
  rw [getElem!_pos _ j (by rw [flushK_len]; exact hj)]
  rw [getElem!_pos qs j hj] at h0
  unfold flushK
  by_cases e : j < i
  · rw [List.getElem_append_left (by simp; omega), List.getElem_map, List.getElem_take]
    exact h0
  · have h1 : ((qs.take i).map cleanW).length = i := by simp; omega
    rw [List.getElem_append_right (by omega), List.getElem_drop]
    simp only [h1, show i + (j - i) = j by omega]
    exact h0
set_option maxHeartbeats 16000000 in
theorem cflush_any (sets ways size : Int) (x : Sv) (l : List Sm) (hs : SmallL l) (w : World) (h : SlotsAt w x l) : Calls Try.prog 25 #[caV sets ways size x] w (GivesCache sets ways size (flushL l) w) := by
  obtain ⟨xa, xn, xc⟩ := x
  have HSL := Lib.hid h
  have HS0 := Lib.hid hs
  have HCP := Lib.hid (fun wx hx => ccopy_any sets ways size ⟨xa, xn, xc⟩ l hs wx hx)
  clear h hs
  show Calls Try.prog 25 #[.agg #[.int .i64 sets, .int .i64 ways, .int .i64 size, .slice xa xn xc]] w _
  go_enter Try.func25, Try.ntmps25
  have H := HS.start NoD w
  go_upto_region 1 with fail
  generalize hwb : (w.alloc _).alloc _ = w1
  replace H := HS.eqW hwb H.alloc.alloc
  try simp only [World.size_alloc, List.nil_append, List.cons_append, List.append_assoc] at H
  clear hwb
  generalize w.heap.size + 1 = bR at H ⊢
  generalize w.heap.size = bX at H ⊢
  try clear C
  have C := H.cells
  try simp only [cellsOf, cellsM, apartOf, apartM, and_true] at C
  go_wp2_with fail
  refine (HCP.out _ (HSL.out.up H.done)).mono ?_
  rintro _ w22 ⟨s2, c2, qs, F, hqs, rfl, K⟩
  replace H := H.join K (two_low rfl rfl)
  have HQS := Lib.hid hqs
  clear K HCP HSL
  try simp only [List.nil_append, List.cons_append] at H
  skip
  try clear C
  try simp only [World.size_alloc, List.nil_append, List.cons_append, List.append_assoc] at H
  have C := H.cells
  try simp only [cellsOf, cellsM, apartOf, apartM, and_true] at C
  dsimp only [caV]
  have hql : qs.length = l.length := by rw [← hqs, List.length_map]
  have hlen : qs.length ≤ 1000 := by rw [hql]; exact HS0.out.1
  have HLE := Lib.hid hlen
  clear hqs hql
  go_upto_region 2 with fail
  generalize hwb : w22.alloc _ = w2
  replace H := HS.eqW hwb H.alloc
  try simp only [World.size_alloc, List.nil_append, List.cons_append, List.append_assoc] at H
  clear hwb
  generalize w22.heap.size = bO at H ⊢
  try clear C
  try clear w22
  have C := H.cells
  try simp only [cellsOf, cellsM, apartOf, apartM, and_true] at C
  go_wp2_with fail
  go_loopw [4, 10] (fun _ ii wr => ∃ (i : Nat), ii = .int .i64 i ∧ i ≤ qs.length ∧ HS NoD w [.blk bR #[.int .i64 0, .int .i64 0, .int .i64 0, .slice none 0 0] 24, rowS s2 qs.length c2 (flushK i qs), anyS F qs, .blk bO #[.int .i64 sets, .int .i64 ways, .int .i64 size, .slice s2 qs.length c2] 24] wr) (fun _ ii _ => qs.length - (intOf ii).toNat)
  case atStart => exact ⟨0, rfl, Nat.zero_le _, by rw [flushK_zero]; exact HS.less H (by repeat (first | exact .slnil | refine .cons_cons _ ?_ | refine .cons _ ?_))⟩
  case round =>
    clear H C
    obtain ⟨i, rfl, hi, H⟩ := hrel
    skip
    try clear C
    try simp only [World.size_alloc, List.nil_append, List.cons_append, List.append_assoc] at H
    have C := H.cells
    try simp only [cellsOf, cellsM, apartOf, apartM, and_true] at C
    by_cases hlt : i < qs.length
    · have hii : (i : Int) < qs.length := by omega
      have hl1 : (qs.length : Int) ≤ 1000 := by omega
      obtain ⟨g, cap, hv, -, -⟩ := World.ownsRow.form (H.at 1 rfl) (by omega)
      obtain ⟨rfl, -, rfl⟩ := Value.slice.inj hv
      clear hv
      have HSW := Lib.hid (sw_dirty (flushK i qs) i false (by rw [flushK_len]; exact hlt))
      have HST := Lib.hid (flushK_succ hlt)
      have hgl : g < wr.heap.size := Item.lt (H.at 1 rfl) (k := g) rfl
      obtain ⟨e4, e4f⟩ := (H.rowCells 1 rfl (i * 6 + 4) (by omega))
      obtain ⟨v4, hv4⟩ : ∃ v : Bool, ((flushK i qs).flatMap swC)[i * 6 + 4]? = some (.bool v) := ⟨_, flat_get swC_len (flushK i qs) i 4 _ (by rw [flushK_len]; exact hlt) rfl⟩
      rw [hv4] at e4
      go_wp2_with fail
      generalize hwb : World.setCell _ _ _ = w8
      have H9 := HS.eqW hwb (H.rowSet 1 rfl (i * 6 + 4) (.bool false))
      simp only [List.set_cons_zero, List.set_cons_succ] at H9
      rw [HSW.out, ← HST.out] at H9
      clear H C hgl hwb e4 e4f hv4
      skip
      go_wp2_with fail
      go_roundw
      case rel => exact ⟨i + 1, by go_num, by omega, H9⟩
      case measure => simp [intOf]; omega
    · obtain rfl : i = qs.length := by omega
      skip
      go_wp2_with fail
      generalize hwb : (((wr.setCell _ _).setCell _ _).setCell _ _).setCell _ _ = w3
      replace H := HS.eqW hwb (H.putAll (i := 0) rfl (vs := [.int .i64 sets, .int .i64 ways, .int .i64 size, .slice s2 qs.length c2]) rfl rfl)
      simp only [List.nil_append, List.cons_append, List.append_assoc, List.set_cons_succ, List.set_cons_zero] at H
      clear hwb
      try clear C
      try clear wr
      have C := H.cells
      try simp only [cellsOf, cellsM, apartOf, apartM, and_true] at C
      refine bodyPost_ret (by simp [results, Try.results25, go_sem, C]; try rfl) rfl ?_
      refine ⟨s2, c2, flushK qs.length qs, F, ?_, by rw [flushK_len]; rfl, ?_⟩
      · rw [flushK_all, HQS.out]
      · rw [flushK_len]
        have H9 := HS.less (L' := [rowS s2 qs.length c2 (flushK qs.length qs), anyS F qs]) H (by repeat (first | exact .slnil | refine .cons_cons _ ?_ | refine .cons _ ?_))
        exact HS.weak (L := [_]) (K := fun w => SlotsOk w qs) H9 fun w' h => flushK_ok h
set_option maxHeartbeats 16000000 in
theorem r31flush_any (sets ways size : Int) (x : Sv) (l : List Sm) (hs : SmallL l) (w : World) (h : SlotsAt w x l) : Calls Try.prog 32 #[caV sets ways size x] w (GivesCache sets ways size (flushL l) w) := by
  obtain ⟨xa, xn, xc⟩ := x
  have HSL := Lib.hid h
  have HS0 := Lib.hid hs
  have HCP := Lib.hid (fun wx hx => r31copy_any sets ways size ⟨xa, xn, xc⟩ l hs wx hx)
  clear h hs
  show Calls Try.prog 32 #[.agg #[.int .i64 sets, .int .i64 ways, .int .i64 size, .slice xa xn xc]] w _
  go_enter Try.func32, Try.ntmps32
  have H := HS.start NoD w
  go_upto_region 1 with fail
  generalize hwb : (w.alloc _).alloc _ = w1
  replace H := HS.eqW hwb H.alloc.alloc
  try simp only [World.size_alloc, List.nil_append, List.cons_append, List.append_assoc] at H
  clear hwb
  generalize w.heap.size + 1 = bR at H ⊢
  generalize w.heap.size = bX at H ⊢
  try clear C
  have C := H.cells
  try simp only [cellsOf, cellsM, apartOf, apartM, and_true] at C
  go_wp2_with fail
  refine (HCP.out _ (HSL.out.up H.done)).mono ?_
  rintro _ w22 ⟨s2, c2, qs, F, hqs, rfl, K⟩
  replace H := H.join K (two_low rfl rfl)
  have HQS := Lib.hid hqs
  clear K HCP HSL
  try simp only [List.nil_append, List.cons_append] at H
  skip
  try clear C
  try simp only [World.size_alloc, List.nil_append, List.cons_append, List.append_assoc] at H
  have C := H.cells
  try simp only [cellsOf, cellsM, apartOf, apartM, and_true] at C
  dsimp only [caV]
  have hql : qs.length = l.length := by rw [← hqs, List.length_map]
  have hlen : qs.length ≤ 1000 := by rw [hql]; exact HS0.out.1
  have HLE := Lib.hid hlen
  clear hqs hql
  go_upto_region 2 with fail
  generalize hwb : w22.alloc _ = w2
  replace H := HS.eqW hwb H.alloc
  try simp only [World.size_alloc, List.nil_append, List.cons_append, List.append_assoc] at H
  clear hwb
  generalize w22.heap.size = bO at H ⊢
  try clear C
  try clear w22
  have C := H.cells
  try simp only [cellsOf, cellsM, apartOf, apartM, and_true] at C
  go_wp2_with fail
  go_loopw [4, 10] (fun _ ii wr => ∃ (i : Nat), ii = .int .i64 i ∧ i ≤ qs.length ∧ HS NoD w [.blk bR #[.int .i64 0, .int .i64 0, .int .i64 0, .slice none 0 0] 24, rowS s2 qs.length c2 (flushK i qs), anyS F qs, .blk bO #[.int .i64 sets, .int .i64 ways, .int .i64 size, .slice s2 qs.length c2] 24] wr) (fun _ ii _ => qs.length - (intOf ii).toNat)
  case atStart => exact ⟨0, rfl, Nat.zero_le _, by rw [flushK_zero]; exact HS.less H (by repeat (first | exact .slnil | refine .cons_cons _ ?_ | refine .cons _ ?_))⟩
  case round =>
    clear H C
    obtain ⟨i, rfl, hi, H⟩ := hrel
    skip
    try clear C
    try simp only [World.size_alloc, List.nil_append, List.cons_append, List.append_assoc] at H
    have C := H.cells
    try simp only [cellsOf, cellsM, apartOf, apartM, and_true] at C
    by_cases hlt : i < qs.length
    · have hii : (i : Int) < qs.length := by omega
      have hl1 : (qs.length : Int) ≤ 1000 := by omega
      obtain ⟨g, cap, hv, -, -⟩ := World.ownsRow.form (H.at 1 rfl) (by omega)
      obtain ⟨rfl, -, rfl⟩ := Value.slice.inj hv
      clear hv
      have HSW := Lib.hid (sw_dirty (flushK i qs) i false (by rw [flushK_len]; exact hlt))
      have HST := Lib.hid (flushK_succ hlt)
      have hgl : g < wr.heap.size := Item.lt (H.at 1 rfl) (k := g) rfl
      obtain ⟨e4, e4f⟩ := (H.rowCells 1 rfl (i * 6 + 4) (by omega))
      obtain ⟨v4, hv4⟩ : ∃ v : Bool, ((flushK i qs).flatMap swC)[i * 6 + 4]? = some (.bool v) := ⟨_, flat_get swC_len (flushK i qs) i 4 _ (by rw [flushK_len]; exact hlt) rfl⟩
      rw [hv4] at e4
      go_wp2_with fail
      generalize hwb : World.setCell _ _ _ = w8
      have H9 := HS.eqW hwb (H.rowSet 1 rfl (i * 6 + 4) (.bool false))
      simp only [List.set_cons_zero, List.set_cons_succ] at H9
      rw [HSW.out, ← HST.out] at H9
      clear H C hgl hwb e4 e4f hv4
      skip
      go_wp2_with fail
      go_roundw
      case rel => exact ⟨i + 1, by go_num, by omega, H9⟩
      case measure => simp [intOf]; omega
    · obtain rfl : i = qs.length := by omega
      skip
      go_wp2_with fail
      generalize hwb : (((wr.setCell _ _).setCell _ _).setCell _ _).setCell _ _ = w3
      replace H := HS.eqW hwb (H.putAll (i := 0) rfl (vs := [.int .i64 sets, .int .i64 ways, .int .i64 size, .slice s2 qs.length c2]) rfl rfl)
      simp only [List.nil_append, List.cons_append, List.append_assoc, List.set_cons_succ, List.set_cons_zero] at H
      clear hwb
      try clear C
      try clear wr
      have C := H.cells
      try simp only [cellsOf, cellsM, apartOf, apartM, and_true] at C
      refine bodyPost_ret (by simp [results, Try.results32, go_sem, C]; try rfl) rfl ?_
      refine ⟨s2, c2, flushK qs.length qs, F, ?_, by rw [flushK_len]; rfl, ?_⟩
      · rw [flushK_all, HQS.out]
      · rw [flushK_len]
        have H9 := HS.less (L' := [rowS s2 qs.length c2 (flushK qs.length qs), anyS F qs]) H (by repeat (first | exact .slnil | refine .cons_cons _ ?_ | refine .cons _ ?_))
        exact HS.weak (L := [_]) (K := fun w => SlotsOk w qs) H9 fun w' h => flushK_ok h
end Go.Proofs.Ytfmcicmbehjdcaa
