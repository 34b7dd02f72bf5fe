/- reload.owned, reload.Copy: copies that share nothing. -/
import Derived.Test.YtheccfiidollpaaRlA
import Derived.Test.YtheccfiidollpaaKj
namespace Go.Proofs.Ytheccfiidollpaa
set_option linter.unusedSimpArgs false
set_option linter.unusedVariables false
open Go.RowKit
set_option maxRecDepth 100000
attribute [local irreducible] wpX wpF Calls

theorem sv_map (xs : List Sv) : xs.flatMap svC = xs.map Sv.v := by induction xs with
  | nil => rfl
  | cons x xs ih => rw [List.flatMap_cons, ih]; rfl
theorem sv_set (xs : List Sv) (j : Nat) (x : Sv) : (xs.flatMap svC).set j x.v = (xs.set j x).flatMap svC := by rw [sv_map, sv_map, List.map_set]
theorem mid_set {α : Type} [Inhabited α] {vs ys : List α} {j : Nat} (hj : j < vs.length) (hy : ys.length = j) (x : α) : (ys ++ vs.drop j).set j x = ys ++ [x] ++ vs.drop (j + 1) := by
  subst hy
  rw [List.set_append_right _ _ (Nat.le_refl _), Nat.sub_self, List.drop_eq_getElem_cons hj, List.set_cons_zero]
  simp
theorem mid_get {α : Type} [Inhabited α] {vs ys : List α} {j : Nat} (hj : j < vs.length) (hy : ys.length = j) : (ys ++ vs.drop j)[j]! = vs[j]! := by
  subst hy
  rw [getElem!_pos (ys ++ vs.drop ys.length) ys.length (by rw [List.length_append, List.length_drop]; omega), getElem!_pos vs ys.length hj, List.getElem_append_right (Nat.le_refl _)]
  simp
theorem app_get1 {α : Type} [Inhabited α] {l : List α} {i : Nat} (h : i < l.length) (k : List α) : (l ++ k)[i]! = l[i]! := by
  rw [getElem!_pos _ _ (by simp; omega), getElem!_pos l i h, List.getElem_append_left h]
theorem app_get2 {α : Type} [Inhabited α] (l : List α) (x : α) : (l ++ [x])[l.length]! = x := by
  rw [getElem!_pos _ _ (by simp)]; simp
section
variable {D : Nat → Prop} {W w : World} {L : List Item}
/-- Words that nobody writes to any more. -/
theorem HS.wordsOf {F : Nat → Prop} {ys : List Sv} {ws : List (List Int)} {s : Option Addr} {n c : Nat} (h : HS D W (L ++ [.any F (fun w => ∀ i, i < ws.length → BytesAt w ys[i]! ws[i]!), .row (.slice s n c) 46 1 n (ys.flatMap svC)]) w) (hn : n = ys.length) (hl : ys.length = ws.length) : HS D W (L ++ [.any (fun k => F k ∨ (Value.slice s n c).ownBlock = some k) (fun w => WordsAt w ⟨s, n, c⟩ ws)]) w := by
  have h1 := HS.anyOf (L := L ++ [.any F (fun w => ∀ i, i < ws.length → BytesAt w ys[i]! ws[i]!)]) (A := .row (.slice s n c) 46 1 n (ys.flatMap svC)) (by rwa [List.append_assoc]) rfl
  rw [List.append_assoc] at h1
  have h2 := HS.merge (L := L) h1
  refine HS.weak h2 fun w' ⟨k1, k2⟩ => ?_
  have hr : w'.ownsRow 0 46 1 (.slice s n c) n (ys.flatMap svC) := k2
  subst hn
  exact ⟨ys, hl, rfl, row_capOk hr, ownsRow_lies svC_len rfl hr, k1⟩
end
/-- A call that hands back a blob that shares nothing. -/
def GivesBlob (b : Bm) (w : World) (e : Ending) (w' : World) : Prop := ∃ (q : Bv) (F : Nat → Prop), e = .returned (vBv q) ∧ HS NoD w [.any F (fun w => BlobAt w q b)] w'
def SmallB (b : Bm) : Prop := b.ws.length ≤ 1000 ∧ ∀ j, j < b.ws.length → (b.ws[j]!).length ≤ 1000
set_option maxHeartbeats 8000000 in
theorem owned_any (q : Bv) (b : Bm) (hs : SmallB b) (w : World) (h : BlobAt w q b) : Calls Try.prog 26 #[vBv q] w (GivesBlob b w) := by
  obtain ⟨id, ⟨sa, n, c⟩⟩ := q
  obtain ⟨hid, vs, hvl, hn, hcap, hl, hb⟩ := h
  obtain ⟨bid, ws⟩ := b
  dsimp only at hid hvl hn hcap hl hb
  subst hid hn
  have hv1000 : vs.length ≤ 1000 := by rw [hvl]; exact hs.1
  have HL := Lib.hid hl
  have HB := Lib.hid hb
  have HSM := Lib.hid hs.2
  have HVL := Lib.hid hvl
  have HCL := Lib.hid (fun wx hx => cloneWd (sa := sa) c (xs := vs) hv1000 (svC_one vs) wx hx)
  clear hl hb hs hvl hcap
  show Calls Try.prog 26 #[.agg #[.int .i64 id, .slice sa vs.length c]] w _
  go_enter Try.func26, Try.ntmps26
  have H := HS.start NoD w
  go_upto_region 1 with fail
  generalize hwb : (w.alloc _).alloc _ = w1
  replace H := HS.eqW hwb H.alloc.alloc
  try simp only [World.size_alloc, List.nil_append, List.cons_append, List.append_assoc] at H
  clear hwb
  generalize w.heap.size + 1 = bR at H ⊢
  generalize w.heap.size = bX at H ⊢
  try clear C
  have C := H.cells
  try simp only [cellsOf, cellsM, apartOf, apartM, and_true] at C
  go_wp2_with fail
  refine (HCL.out _ (H.liesUp HL.out)).mono ?_
  rintro _ w2 ⟨s2, c2, rfl, hr, hb2⟩
  replace H := H.getsRow hb2 hr
  clear hr hb2 HCL
  try simp only [List.nil_append, List.cons_append] at H
  skip
  try clear C
  try simp only [World.size_alloc, List.nil_append, List.cons_append, List.append_assoc] at H
  have C := H.cells
  try simp only [cellsOf, cellsM, apartOf, apartM, and_true] at C
  dsimp only
  go_upto_region 2 with fail
  generalize hwb : World.setCell _ _ _ = w3
  replace H := HS.eqW hwb (H.setTo (o := 1) (v := .slice s2 vs.length c2) 0 rfl rfl)
  clear hwb
  simp only [List.set_cons_succ, List.set_cons_zero] at H
  have hn1 := H.anyNil
  clear H
  have H := hn1
  clear hn1
  try simp only [List.nil_append, List.cons_append] at H
  skip
  try clear C
  try simp only [World.size_alloc, List.nil_append, List.cons_append, List.append_assoc] at H
  have C := H.cells
  try simp only [cellsOf, cellsM, apartOf, apartM, and_true] at C
  go_wp2_with fail
  go_loopw [3, 4, 12] (fun _ _ jj wr => ∃ (j : Nat) (ys : List Sv) (F : Nat → Prop), jj = .int .i64 j ∧ j ≤ vs.length ∧ ys.length = j ∧ HS NoD w [.blk bX #[.int .i64 id, .slice s2 vs.length c2] 32, .blk bR #[.int .i64 0, .slice none 0 0] 32, .row (.slice s2 vs.length c2) 46 1 vs.length ((ys ++ vs.drop j).flatMap svC), .any F (fun w => ∀ i, i < j → BytesAt w ys[i]! ws[i]!)] wr) (fun _ _ jj _ => vs.length - (intOf jj).toNat)
  case atStart =>
    refine ⟨0, [], fun _ => False, rfl, Nat.zero_le _, rfl, ?_⟩
    rw [List.drop_zero, List.nil_append]
    exact HS.weak (L := [_, _, _]) H (fun _ _ i hi => absurd hi (Nat.not_lt_zero _))
  case round =>
    clear H C
    obtain ⟨j, ys, F, rfl, hj, hyl, H⟩ := hrel
    skip
    try clear C
    try simp only [World.size_alloc, List.nil_append, List.cons_append, List.append_assoc] at H
    have C := H.cells
    try simp only [cellsOf, cellsM, apartOf, apartM, and_true] at C
    by_cases hlt : j < vs.length
    · obtain ⟨g, cap, hv, -, -⟩ := World.ownsRow.form (H.at 2 rfl) (by omega)
      obtain ⟨rfl, -, rfl⟩ := Value.slice.inj hv
      clear hv
      have HYL := Lib.hid hyl
      have HMS := Lib.hid (fun x => mid_set hlt hyl x)
      obtain ⟨k1, k1f⟩ := H.rowCells 2 rfl j (by omega)
      rw [sv_map, List.getElem?_map, List.getElem?_eq_getElem (by rw [List.length_append, List.length_drop, hyl]; omega), ← getElem!_pos _ _ (by rw [List.length_append, List.length_drop, hyl]; omega), mid_get hlt hyl] at k1
      have HBJ := Lib.hid (HB.out j (by rw [← HVL.out]; exact hlt))
      have HSJ := Lib.hid (HSM.out j (by rw [← HVL.out]; exact hlt))
      generalize vs[j]! = x at k1 HBJ
      obtain ⟨xa, xn, xc⟩ := x
      replace k1 : wr.cell? ⟨g, j, none⟩ = some (.slice xa xn xc) := k1
      have hgl : g < wr.heap.size := Item.lt (H.at 2 rfl) (k := g) rfl
      have q1 : (g = wr.heap.size) = False := eq_false (by omega)
      have q2 : (wr.heap.size = g) = False := eq_false (by omega)
      clear hyl
      go_upto_region 5 with fail
      have HBC := Lib.hid (fun wx (hx : BytesAt wx ⟨xa, xn, xc⟩ ws[j]!) => cloneBy (sa := xa) xc (xs := ws[j]!) HSJ.out (bC1_one _) wx hx.lies)
      have hxn : xn = (ws[j]!).length := HBJ.out.len
      rw [← hxn] at HBC
      have HXN := Lib.hid hxn
      clear hxn
      have HCL1 := Lib.hid (show ((ys ++ vs.drop j).flatMap svC).length = vs.length by rw [flat_len svC_len, List.length_append, List.length_drop, HYL.out]; omega)
      have HCS := Lib.hid (fun x => (sv_set (ys ++ vs.drop j) j x).trans (by rw [HMS.out]))
      have HKF := Lib.hid (show ∀ w, (fun w => ∀ i, i < j → BytesAt w ys[i]! ws[i]!) w → ∀ i, i < j → BytesAt w ys[i]! ws[i]! from fun _ h => h)
      have HBY := Lib.hid (fun (w : World) (s : Option Addr) (c : Nat) (h : w.ownsRow 0 5 1 (.slice s xn c) xn ((ws[j]!).flatMap bC1)) => bytes_row HXN.out h)
      generalize (ws[j]!).flatMap bC1 = nb at HBC HBY
      generalize (ys ++ vs.drop j).flatMap svC = cj at H HCL1 HCS
      generalize (fun w => ∀ i, i < j → BytesAt w ys[i]! ws[i]!) = KF at H HKF
      refine wp_region_hz (by kernel_rfl) [0, 1, 2, 3, 4, 5] (by kernel_rfl) (by kernel_rfl) (by kernel_rfl) rfl (fun k => k = g) (H) ?_
      clear H; intro w2 H hz0
      try clear C
      try simp only [World.size_alloc, List.nil_append, List.cons_append, List.append_assoc] at H hz0 ⊢
      clear hz0
      try clear wr
      have C := H.cells
      try simp only [cellsOf, cellsM, apartOf, apartM, and_true] at C
      have Z := H.zs
      try simp only [ltsOf, ltsM, and_true] at Z
      simp only [List.filterMap_cons, List.filterMap_nil, List.getElem?_toArray, List.getElem?_cons_zero, List.getElem?_cons_succ]
      have hg9 : g < w2.heap.size := Item.lt (H.at 2 rfl) (k := g) rfl
      have hgx : (bX = g) = False := eq_false (fun e => H.apart (i := 0) (j := 2) rfl rfl (by decide) e.symm rfl)
      (refine wpH_free rfl rfl rfl (fun _ _ => ?_); go_step; go_step)
      (refine wpH_load rfl rfl rfl (by simp [Stay, OneD, NoD, *]) (by simp [*]) (fun _ _ => ?_); go_step; go_step)
      (refine wpH_free rfl rfl rfl (fun _ _ => ?_); go_step; go_step)
      (refine wpH_free rfl rfl rfl (fun _ _ => ?_); go_step; go_step)
      (refine wpH_call rfl rfl (fun wc hc _ _ => ?_); go_step; refine (HBC.out _ (HBJ.out.up hc.hs.done)).mono ?_; rintro _ wd ⟨sx, cx, rfl, hr, hb⟩; dsimp only; go_step; refine ⟨_, (hc.joinH (fun _ h => h.1) ((HS.start NoD _).getsRow hb hr) (one_low rfl)).1, (hc.joinH (fun _ h => h.1) ((HS.start NoD _).getsRow hb hr) (one_low rfl)).2, ?_⟩; clear hc; try clear wc wd)
      (refine wpH_yield rfl rfl (.pointer (some ⟨g, j, none⟩)) (fun w _ => by go_simp) ?_; go_simp)
      refine wpH_nil ?_
      intro w3 hC
      replace H := hC.hs
      clear hC
      try clear C
      try clear Z
      try simp only [List.nil_append, List.cons_append, List.append_assoc, List.set_cons_succ, List.set_cons_zero] at H
      try clear w2
      have C := H.cells
      try simp only [cellsOf, cellsM, apartOf, apartM, and_true] at C
      clear k1 k1f q1 q2 hgl
      have k1f := (H.rowCells 2 rfl j (by omega)).2
      obtain ⟨v1, k1⟩ : ∃ v, w3.cell? ⟨g, j, none⟩ = some v := by
        rw [(H.rowCells 2 rfl j (by omega)).1]
        exact ⟨_, List.getElem?_eq_getElem (by rw [HCL1.out]; exact hlt)⟩
      have hgl : g < w3.heap.size := Item.lt (H.at 2 rfl) (k := g) rfl
      go_upto_region 6 with fail
      generalize hwb : World.setCell _ _ _ = w8
      have H9 := HS.eqW hwb (H.rowSet 2 rfl j (Sv.v ⟨sx, xn, cx⟩))
      clear H C hwb k1 k1f hgl hg9 hgx
      simp only [List.set_cons_succ, List.set_cons_zero] at H9
      rw [HCS.out] at H9
      have H8 := HS.anyOf (L := [_, _, _, _]) H9 rfl
      have H7 := HS.merge (L := [_, _, _]) H8
      have H6 := HS.weak (L := [_, _, _]) H7 (K' := fun w => ∀ i, i < j + 1 → BytesAt w (ys ++ [⟨sx, xn, cx⟩])[i]! ws[i]!) (fun w' ⟨a1, a2⟩ i hi => by
        by_cases e : i < j
        · rw [app_get1 (by rw [HYL.out]; exact e)]; exact HKF.out w' a1 i e
        · obtain rfl : i = j := by omega
          rw [← HYL.out, app_get2, HYL.out]
          exact HBY.out _ _ _ a2)
      obtain ⟨F6, H6⟩ : ∃ F6, HS NoD w [.blk bX #[.int .i64 id, .slice (some ⟨g, 0, none⟩) vs.length c2] 32, .blk bR #[.int .i64 0, .slice none 0 0] 32, .row (.slice (some ⟨g, 0, none⟩) vs.length c2) 46 1 vs.length ((ys ++ [(⟨sx, xn, cx⟩ : Sv)] ++ vs.drop (j + 1)).flatMap svC), .any F6 (fun w => ∀ i, i < j + 1 → BytesAt w (ys ++ [(⟨sx, xn, cx⟩ : Sv)])[i]! ws[i]!)] w8 := ⟨_, H6⟩
      go_wp2_with fail
      go_roundw
      case rel =>
        exact ⟨j + 1, ys ++ [(⟨sx, xn, cx⟩ : Sv)], F6, by go_num, by omega, by rw [List.length_append, HYL.out]; rfl, H6⟩
      case measure => simp [intOf]; omega
    · obtain rfl : j = vs.length := by omega
      rw [List.drop_length, List.append_nil] at H
      have HYL := Lib.hid hyl
      clear hyl
      skip
      go_wp2_with fail
      generalize hwb : (wr.setCell _ _).setCell _ _ = w4
      replace H := HS.eqW hwb (H.putAll (i := 1) rfl (vs := [.int .i64 id, .slice s2 vs.length c2]) rfl rfl)
      simp only [List.nil_append, List.cons_append, List.append_assoc, List.set_cons_succ, List.set_cons_zero] at H
      clear hwb
      try clear C
      try clear wr
      have C := H.cells
      try simp only [cellsOf, cellsM, apartOf, apartM, and_true] at C
      refine bodyPost_ret (by simp [results, Try.results26, go_sem, C]; try rfl) rfl ?_
      have H9 := HS.less (L' := [.row (.slice s2 vs.length c2) 46 1 vs.length (ys.flatMap svC), .any F (fun w => ∀ i, i < vs.length → BytesAt w ys[i]! ws[i]!)]) H (by repeat (first | exact .slnil | refine .cons_cons _ ?_ | refine .cons _ ?_))
      have H8 := H9.permu (L' := [.any F (fun w => ∀ i, i < vs.length → BytesAt w ys[i]! ws[i]!), .row (.slice s2 vs.length c2) 46 1 vs.length (ys.flatMap svC)]) (List.Perm.swap _ _ [])
      rw [HVL.out] at H8
      have H7 := HS.wordsOf (L := []) H8 (by rw [HYL.out, HVL.out]) (by rw [HYL.out, HVL.out])
      refine ⟨⟨id, ⟨s2, vs.length, c2⟩⟩, _, rfl, HS.weak (L := []) H7 fun w' h => ⟨rfl, ?_⟩⟩
      rw [HVL.out]
      exact h
end Go.Proofs.Ytheccfiidollpaa
