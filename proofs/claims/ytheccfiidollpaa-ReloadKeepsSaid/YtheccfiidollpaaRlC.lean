/- reload.Copy: a copy of a store. -/
import Derived.Test.YtheccfiidollpaaRlB
namespace Go.Proofs.Ytheccfiidollpaa
set_option linter.unusedSimpArgs false
set_option linter.unusedVariables false
open Go.RowKit
set_option maxRecDepth 100000
attribute [local irreducible] wpX wpF Calls

abbrev rowB (s : Option Addr) (n c : Nat) (qs : List Bv) : Item := .row (.slice s n c) 32 2 n (qs.flatMap bvC)
abbrev anyB (F : Nat → Prop) (qs : List Bv) (l : List Bm) : Item := .any F (fun w => ∀ i, i < l.length → BlobAt w qs[i]! l[i]!)
/-- A call that hands back a store that shares nothing. -/
def GivesStore (l : List Bm) (w : World) (e : Ending) (w' : World) : Prop := ∃ (s : Option Addr) (c : Nat) (qs : List Bv) (F : Nat → Prop), qs.length = l.length ∧ e = .returned (.slice s l.length c) ∧ HS NoD w [rowB s l.length c qs, anyB F qs l] w'
theorem storeAt_of {w : World} {s : Option Addr} {n c : Nat} {qs : List Bv} {l : List Bm} (hr : w.ownsRow 0 32 2 (.slice s n c) n (qs.flatMap bvC)) (hn : n = l.length) (hq : qs.length = l.length) (h : ∀ i, i < l.length → BlobAt w qs[i]! l[i]!) : StoreAt w ⟨s, n, c⟩ l := by
  subst hn
  exact ⟨qs, hq, hq.symm, row_capOk hr, by rw [hq]; exact ownsRow_lies bvC_len hq.symm hr, h⟩
theorem bv_set : ∀ (qs : List Bv) (j : Nat) (q : Bv), j < qs.length → ((qs.flatMap bvC).set (j * 2) (.int .i64 q.id)).set (j * 2 + 1) (.slice q.x.sa q.x.n q.x.c) = (qs.set j q).flatMap bvC
  | [], j, q, h => absurd h (Nat.not_lt_zero _)
  | x :: qs, 0, q, h => by simp [bvC]
  | x :: qs, j + 1, q, h => by
    have := bv_set qs j q (by simpa using h)
    rw [List.set_cons_succ, List.flatMap_cons, List.flatMap_cons, ← this]
    rw [show (j + 1) * 2 = j * 2 + 2 by omega, show j * 2 + 2 + 1 = (j * 2 + 1) + 2 by omega]
    simp [bvC]
def SmallS (l : List Bm) : Prop := l.length ≤ 1000 ∧ ∀ j, j < l.length → SmallB l[j]!
set_option maxHeartbeats 8000000 in
theorem rcopy_any (x : Sv) (l : List Bm) (hs : SmallS l) (w : World) (h : StoreAt w x l) : Calls Try.prog 22 #[x.v] w (GivesStore l w) := by
  obtain ⟨sa, n, c⟩ := x
  obtain ⟨q0, hql, hn, hcap, hl, hb⟩ := h
  dsimp only at hn hcap hl
  subst hn
  have hq1000 : q0.length ≤ 1000 := by rw [hql]; exact hs.1
  have HB := Lib.hid hb
  have HSM := Lib.hid hs.2
  have HQL := Lib.hid hql
  have HL := Lib.hid hl
  have HCL := Lib.hid (fun wx hx => cloneBb (sa := sa) c (xs := q0) hq1000 (bvC_one q0) wx hx)
  clear hb hs hql hcap hl
  show Calls Try.prog 22 #[.slice sa q0.length c] w _
  go_enter Try.func22, Try.ntmps22
  have H := HS.start NoD w
  go_wp2_with fail
  refine (HCL.out _ (H.liesUp HL.out)).mono ?_
  rintro _ w2 ⟨s2, c2, rfl, hr, hb2⟩
  replace H := H.getsRow hb2 hr
  clear hr hb2 HCL
  have hn1 := H.anyNil
  clear H
  have H := hn1
  clear hn1
  try simp only [List.nil_append, List.cons_append] at H
  skip
  try clear C
  try simp only [World.size_alloc, List.nil_append, List.cons_append, List.append_assoc] at H
  have C := H.cells
  try simp only [cellsOf, cellsM, apartOf, apartM, and_true] at C
  dsimp only
  go_wp2_with fail
  go_loopw [4, 9] (fun _ jj wr => ∃ (j : Nat) (ys : List Bv) (F : Nat → Prop), jj = .int .i64 j ∧ j ≤ q0.length ∧ ys.length = j ∧ HS NoD w [rowB s2 q0.length c2 (ys ++ q0.drop j), .any F (fun w => ∀ i, i < j → BlobAt w ys[i]! l[i]!)] wr) (fun _ jj _ => q0.length - (intOf jj).toNat)
  case atStart =>
    refine ⟨0, [], fun _ => False, rfl, Nat.zero_le _, rfl, ?_⟩
    rw [List.drop_zero, List.nil_append]
    exact HS.weak (L := [_]) H (fun _ _ i hi => absurd hi (Nat.not_lt_zero _))
  case round =>
    clear H
    obtain ⟨j, ys, F, rfl, hj, hyl, H⟩ := hrel
    skip
    try clear C
    try simp only [World.size_alloc, List.nil_append, List.cons_append, List.append_assoc] at H
    have C := H.cells
    try simp only [cellsOf, cellsM, apartOf, apartM, and_true] at C
    by_cases hlt : j < q0.length
    · obtain ⟨g, cap, hv, -, -⟩ := World.ownsRow.form (H.at 0 rfl) (by omega)
      obtain ⟨rfl, -, rfl⟩ := Value.slice.inj hv
      clear hv
      have HYL := Lib.hid hyl
      have HMS := Lib.hid (fun x => (bv_set (ys ++ q0.drop j) j x (by rw [List.length_append, List.length_drop]; omega)).trans (by rw [mid_set hlt hyl x]))
      have hcells : ∀ m u, (bvC q0[j]!)[m]? = some u → wr.cell? ⟨g, j * 2 + m, none⟩ = some u ∧ wr.frozen? ⟨g, j * 2 + m, none⟩ = false := fun m u hu => by
        have hm : m < 2 := (List.getElem?_eq_some_iff.1 hu).1
        have h1 := H.rowCells 0 rfl (j * 2 + m) (by omega)
        refine ⟨h1.1.trans (flat_get bvC_len (ys ++ q0.drop j) j m u (by rw [List.length_append, List.length_drop]; omega) ?_), h1.2⟩
        rw [mid_get hlt hyl]; exact hu
      have HBJ := Lib.hid (HB.out j (by rw [← HQL.out]; exact hlt))
      have HOW := Lib.hid (fun wx hx => owned_any q0[j]! l[j]! (HSM.out j (by rw [← HQL.out]; exact hlt)) wx hx)
      generalize q0[j]! = x at hcells HBJ HOW
      obtain ⟨xi, xa, xn, xc⟩ := x
      have k0 : wr.cell? ⟨g, j * 2, none⟩ = some (.int .i64 xi) := (hcells 0 _ rfl).1
      have k0f : wr.frozen? ⟨g, j * 2, none⟩ = false := (hcells 0 _ rfl).2
      have k1 : wr.cell? ⟨g, j * 2 + 1, none⟩ = some (.slice xa xn xc) := (hcells 1 _ rfl).1
      have k1f : wr.frozen? ⟨g, j * 2 + 1, none⟩ = false := (hcells 1 _ rfl).2
      have HOW2 := Lib.hid (fun wx hx => (show Calls Try.prog 26 #[.agg #[.int .i64 xi, .slice xa xn xc]] wx (GivesBlob l[j]! wx) from HOW.out wx hx))
      have hgl : g < wr.heap.size := Item.lt (H.at 0 rfl) (k := g) rfl
      have q1 : (g = wr.heap.size) = False := eq_false (by omega)
      have q2 : (wr.heap.size = g) = False := eq_false (by omega)
      have HFL := Lib.hid (flat_len bvC_len (ys ++ q0.drop j))
      clear hyl hcells HOW
      have hcw : (Value.agg #[.int .i64 xi, .slice xa xn xc]) = (Value.agg #[.int .i64 xi, .slice xa xn xc]) := rfl
      clear hcw
      go_wp2_with fail
      refine (HOW2.out _ (HBJ.out.up H.done)).mono ?_
      rintro _ w8 ⟨q, G, rfl, K⟩
      replace H := H.join K (one_low rfl)
      clear K k0 k1 k0f k1f hgl q1 q2 HOW2
      try simp only [List.nil_append, List.cons_append] at H
      obtain ⟨qi, qa, qn, qc⟩ := q
      have hln : (ys ++ q0.drop j).length = q0.length := by rw [List.length_append, List.length_drop, HYL.out]; omega
      have hk : ∀ m, m < 2 → ∃ u, w8.cell? ⟨g, j * 2 + m, none⟩ = some u ∧ w8.frozen? ⟨g, j * 2 + m, none⟩ = false := fun m hm => by
        have h1 := H.rowCells 0 rfl (j * 2 + m) (by omega)
        exact ⟨_, h1.1.trans (List.getElem?_eq_getElem (by rw [HFL.out, hln]; omega)), h1.2⟩
      obtain ⟨u0, k0, k0f⟩ : ∃ u, w8.cell? ⟨g, j * 2, none⟩ = some u ∧ w8.frozen? ⟨g, j * 2, none⟩ = false := hk 0 (by omega)
      obtain ⟨u1, k1, k1f⟩ : ∃ u, w8.cell? ⟨g, j * 2 + 1, none⟩ = some u ∧ w8.frozen? ⟨g, j * 2 + 1, none⟩ = false := hk 1 (by omega)
      clear hk hln
      have hgl : g < w8.heap.size := Item.lt (H.at 0 rfl) (k := g) rfl
      skip
      try clear C
      try simp only [World.size_alloc, List.nil_append, List.cons_append, List.append_assoc] at H
      have C := H.cells
      try simp only [cellsOf, cellsM, apartOf, apartM, and_true] at C
      dsimp only [vBv]
      go_upto_region 6 with fail
      generalize hwb : World.setCell _ _ _ = w9
      have H9 := HS.eqW hwb ((H.rowSet 0 rfl (j * 2) (.int .i64 qi)).rowSet 0 rfl (j * 2 + 1) (.slice qa qn qc))
      clear H hwb k0 k1 k0f k1f hgl
      simp only [List.set_cons_succ, List.set_cons_zero] at H9
      rw [HMS.out ⟨qi, qa, qn, qc⟩] at H9
      have H7 := HS.merge (L := [_]) H9
      have H6 := HS.weak (L := [_]) H7 (K' := fun w => ∀ i, i < j + 1 → BlobAt w (ys ++ [(⟨qi, qa, qn, qc⟩ : Bv)])[i]! l[i]!) (fun w' ⟨a1, a2⟩ i hi => by
        by_cases e : i < j
        · rw [app_get1 (by rw [HYL.out]; exact e)]; exact a1 i e
        · obtain rfl : i = j := by omega
          rw [← HYL.out, app_get2, HYL.out]
          exact a2)
      obtain ⟨F6, H6⟩ : ∃ F6, HS NoD w [rowB (some ⟨g, 0, none⟩) q0.length c2 (ys ++ [(⟨qi, qa, qn, qc⟩ : Bv)] ++ q0.drop (j + 1)), .any F6 (fun w => ∀ i, i < j + 1 → BlobAt w (ys ++ [(⟨qi, qa, qn, qc⟩ : Bv)])[i]! l[i]!)] w9 := ⟨_, H6⟩
      go_wp2_with fail
      go_roundw
      case rel => exact ⟨j + 1, ys ++ [(⟨qi, qa, qn, qc⟩ : Bv)], F6, by go_num, by omega, by rw [List.length_append, HYL.out]; rfl, H6⟩
      case measure => simp [intOf]; omega
    · obtain rfl : j = q0.length := by omega
      rw [List.drop_length, List.append_nil] at H
      have HYL := Lib.hid hyl
      clear hyl
      skip
      go_wp2_with fail
      go_ret
      rw [HQL.out] at H HYL ⊢
      exact ⟨s2, c2, ys, F, HYL.out, rfl, H⟩
end Go.Proofs.Ytheccfiidollpaa
