/- reload.Drop. -/
import Derived.Test.YtheccfiidollpaaRlN
namespace Go.Proofs.Ytheccfiidollpaa
set_option linter.unusedSimpArgs false
set_option linter.unusedVariables false
open Go.RowKit
set_option maxRecDepth 100000
attribute [local irreducible] wpX wpF Calls

/-- A call that turns a slice of one's own in place. -/
theorem HS.turnRow {D : Nat → Prop} {W w w' : World} {L : List Item} (h : HS D W L w) (i : Nat) {g n n' c c' k : Nat} {e : TypeId} {xs ys : List Value} (hi : L[i]? = some (.row (.slice (some ⟨g, 0, none⟩) n c) e k n xs)) (K : HS (OneD g) w [.row (.slice (some ⟨g, 0, none⟩) n' c') e k n' ys] w') : HS D W (L.set i (.row (.slice (some ⟨g, 0, none⟩) n' c') e k n' ys)) w' := by
  have hg : Chg g w w' := K.doneDice
  have hv : (Value.slice (some ⟨g, 0, none⟩) n c).ownBlock = some g := rfl
  refine h.grownAt i hi ⟨hg.os, hg.tape, hg.output, hg.size, fun k hk hne => hg.block k hk (fun e => hne (by rw [hv, e]))⟩ (.inr ⟨K.at 0 rfl, fun k hk => .inl hk⟩)
theorem erase_get {α : Type} [Inhabited α] (xs : List α) {i k : Nat} (hk : k < (xs.eraseIdx i).length) : (xs.eraseIdx i)[k]! = if k < i then xs[k]! else xs[k + 1]! := by
  rw [getElem!_pos _ k hk, List.getElem_eraseIdx]
  rw [List.length_eraseIdx] at hk
  by_cases h : k < i
  · rw [dif_pos h, if_pos h, getElem!_pos xs k (by split at hk <;> omega)]
  · rw [dif_neg h, if_neg h, getElem!_pos xs (k + 1) (by split at hk <;> omega)]
theorem GoodS.ne {size : Nat} {l : List Bm} (h : GoodS size l) {i j : Nat} (hi : i < l.length) (hj : j < l.length) (hij : i ≠ j) : (l[i]!).id ≠ (l[j]!).id := by
  rcases Nat.lt_or_gt_of_ne hij with h1 | h1
  · have := h.lt (j - i) i (by omega); rw [show i + (j - i) = j by omega] at this; omega
  · have := h.lt (i - j) j (by omega); rw [show j + (i - j) = i by omega] at this; omega
set_option maxHeartbeats 8000000 in
theorem rdrop_any (size : Nat) (h32 : size ≤ 32) (x : Sv) (l : List Bm) (hg : GoodS size l) (id : Int) (w : World) (h : StoreAt w x l) : Calls Try.prog 15 #[x.v, .int .i64 id] w (GivesStore (dropAt l id) w) := by
  have HCP := Lib.hid (fun w h => rcopy_any x l (hg.small h32) w h)
  have HST := Lib.hid h
  have HG := Lib.hid hg
  have hl64 := hg.len
  clear h hg
  obtain ⟨sa, n, c⟩ := x
  have HCP2 := Lib.hid (fun w h => (show Calls Try.prog 22 #[.slice sa n c] w _ from HCP.out w h))
  clear HCP
  show Calls Try.prog 15 #[.slice sa n c, .int .i64 id] w _
  go_enter Try.func15, Try.ntmps15
  have H := HS.start NoD w
  go_upto_region 1 with fail
  generalize hwb : w.alloc _ = w1
  replace H := HS.eqW hwb H.alloc
  try simp only [World.size_alloc, List.nil_append, List.cons_append, List.append_assoc] at H
  clear hwb
  generalize w.heap.size = bI at H ⊢
  try clear C
  have C := H.cells
  try simp only [cellsOf, cellsM, apartOf, apartM, and_true] at C
  go_wp2_with fail
  refine (HCP2.out _ (HST.out.up H.done)).mono ?_
  rintro _ w2 ⟨s2, c2, qs, F, hql, rfl, K⟩
  replace H := H.join K (fun A hA => by simp only [List.mem_cons, List.mem_nil_iff, or_false] at hA; rcases hA with rfl | rfl <;> rfl)
  clear K HCP2 HST
  simp only [List.nil_append, List.cons_append] at H
  have HIDS := Lib.hid (fun i (hi : i < l.length) => ((H.says 2 rfl) i hi).1)
  have HQL := Lib.hid hql
  skip
  by_cases hex : ∃ i, i < l.length ∧ (l[i]!).id = id
  · obtain ⟨i, hi, hid⟩ := hex
    obtain ⟨g, cap, hv, -, -⟩ := World.ownsRow.form (H.at 1 rfl) (by omega)
    obtain ⟨rfl, -, rfl⟩ := Value.slice.inj hv
    clear hv
    have hne : ∀ j, j < l.length → j ≠ i → (l[j]!).id ≠ id := fun j hj hji => by rw [← hid]; exact HG.out.ne hj hi hji
    have HDR := Lib.hid (drop_some hi hid hne)
    have hbg : bI ≠ g := fun e => H.apart (i := 0) (j := 1) rfl rfl (by decide) rfl (by show some g = some bI; rw [e])
    have hdf := delf_one 29 (fun _ _ => rfl) #[.pointer (some ⟨bI, 0, none⟩)] (fun q => decide (q.id = id)) (g := g) (c := c2) (i := i) (qs := qs) (n := l.length) hql.symm (by omega) (by rw [hql]; exact hi) (by rw [HIDS.out i hi]; simpa using hid) (fun j hj hji => by rw [hql] at hj; rw [HIDS.out j hj]; simpa using hne j hj hji) _ (H.at 1 rfl) (fun W x ho hb hs => by
      have hB : Blk w2 bI #[.int .i64 id] 3 := H.at 0 rfl
      have hB2 : Blk W bI #[.int .i64 id] 3 := (hb bI hB.lt hbg).trans hB
      exact rdrop1_any x id bI W hB2.cell hB2.lt)
    have HDF := Lib.hid hdf
    clear hdf hql hbg
    try clear C
    try simp only [World.size_alloc, List.nil_append, List.cons_append, List.append_assoc] at H
    have C := H.cells
    try simp only [cellsOf, cellsM, apartOf, apartM, and_true] at C
    dsimp only
    go_wp2_with fail
    refine HDF.out.mono ?_
    rintro _ w3 ⟨rfl, K⟩
    have H9 := HS.turnRow H 1 rfl K
    clear K HDF H
    simp only [List.set_cons_succ, List.set_cons_zero] at H9
    have H8 := HS.less (L' := [_, _]) H9 (.cons _ (List.Sublist.refl _))
    have hel : (l.eraseIdx i).length = l.length - 1 := by rw [List.length_eraseIdx, if_pos hi]
    have heq : (qs.eraseIdx i).length = l.length - 1 := by rw [List.length_eraseIdx, if_pos (by rw [HQL.out]; exact hi), HQL.out]
    have H7 := HS.weak (L := [_]) H8 (K' := fun w => ∀ k, k < (l.eraseIdx i).length → BlobAt w (qs.eraseIdx i)[k]! (l.eraseIdx i)[k]!) (fun w' a1 k hk => by
      rw [erase_get qs (by rw [heq, ← hel]; exact hk), erase_get l hk]
      rw [hel] at hk
      by_cases e : k < i
      · rw [if_pos e, if_pos e]; exact a1 k (by omega)
      · rw [if_neg e, if_neg e]; exact a1 (k + 1) (by omega))
    skip
    dsimp only
    go_wp2_with fail
    go_ret
    rw [HDR.out]
    refine ⟨some ⟨g, 0, none⟩, c2, qs.eraseIdx i, F, by rw [heq, hel], by rw [hel]; rfl, ?_⟩
    rw [hel] at H7 ⊢
    unfold anyB
    rw [hel]
    exact H7
  · have hno : ∀ j, j < l.length → (l[j]!).id ≠ id := fun j hj e => hex ⟨j, hj, e⟩
    have HDR := Lib.hid (drop_none hno)
    have hdf := delf_none 29 (fun _ _ => rfl) #[.pointer (some ⟨bI, 0, none⟩)] (fun q => decide (q.id = id)) (sa := s2) (c := c2) (qs := qs) (by omega) (fun j hj => by rw [hql] at hj; rw [HIDS.out j hj]; simpa using hno j hj) w2 (by have := H.rowLies 1 bvC_len (xs := qs) rfl hql.symm; rw [hql]; exact this) (fun W x hb => rdrop1_any x id bI W ((Blk.below (H.at 0 rfl) hb).cell) (Blk.below (H.at 0 rfl) hb).lt)
    rw [hql] at hdf
    have HDF := Lib.hid hdf
    clear hdf hql hno hex
    try clear C
    try simp only [World.size_alloc, List.nil_append, List.cons_append, List.append_assoc] at H
    have C := H.cells
    try simp only [cellsOf, cellsM, apartOf, apartM, and_true] at C
    dsimp only
    go_wp2_with fail
    refine (HDF.out).mono ?_
    rintro _ w2 ⟨rfl, hb⟩
    replace H := H.below hb
    clear hb
    try clear C
    try simp only [World.size_alloc, List.nil_append, List.cons_append, List.append_assoc] at H
    try clear w3
    have C := H.cells
    try simp only [cellsOf, cellsM, apartOf, apartM, and_true] at C
    dsimp only
    go_wp2_with fail
    go_ret
    rw [HDR.out]
    exact ⟨s2, c2, qs, F, HQL.out, rfl, HS.less H (by repeat (first | exact .slnil | refine .cons_cons _ ?_ | refine .cons _ ?_))⟩
end Go.Proofs.Ytheccfiidollpaa
