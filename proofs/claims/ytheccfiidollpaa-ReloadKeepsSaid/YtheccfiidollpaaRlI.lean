/- reload.Put: of what is valid. -/
import Derived.Test.YtheccfiidollpaaRlH
namespace Go.Proofs.Ytheccfiidollpaa
set_option linter.unusedSimpArgs false
set_option linter.unusedVariables false
open Go.RowKit
set_option maxRecDepth 100000
attribute [local irreducible] wpX wpF Calls

theorem flatTakeR {α : Type} {enc : α → List Value} {k : Nat} (hk : ∀ x, (enc x).length = k) : ∀ (xs : List α) (i : Nat), (xs.flatMap enc).take (i * k) = (xs.take i).flatMap enc
  | [], i => by simp
  | x :: xs, 0 => by simp
  | x :: xs, i + 1 => by
    rw [List.flatMap_cons, List.take_succ_cons, List.flatMap_cons, Nat.succ_mul, Nat.add_comm, ← flatTakeR hk xs i]
    rw [List.take_append, hk, List.take_of_length_le (by rw [hk]; omega), Nat.add_sub_cancel_left]
theorem flatDropR {α : Type} {enc : α → List Value} {k : Nat} (hk : ∀ x, (enc x).length = k) : ∀ (xs : List α) (i : Nat), (xs.flatMap enc).drop (i * k) = (xs.drop i).flatMap enc
  | [], i => by simp
  | x :: xs, 0 => by simp
  | x :: xs, i + 1 => by
    rw [List.flatMap_cons, List.drop_succ_cons, Nat.succ_mul, Nat.add_comm, ← flatDropR hk xs i]
    rw [List.drop_append, hk, List.drop_eq_nil_of_le (by rw [hk]; omega), Nat.add_sub_cancel_left, List.nil_append]
theorem ins_get {α : Type} [Inhabited α] (xs : List α) (x : α) {i : Nat} (hi : i ≤ xs.length) (k : Nat) (hk : k < xs.length + 1) : (xs.take i ++ x :: xs.drop i)[k]! = if k < i then xs[k]! else if k = i then x else xs[k - 1]! := by
  have hlen : (xs.take i ++ x :: xs.drop i).length = xs.length + 1 := by rw [List.length_append, List.length_take, List.length_cons, List.length_drop]; omega
  have htl : (xs.take i).length = i := by rw [List.length_take]; omega
  rw [getElem!_pos _ k (by omega)]
  by_cases h1 : k < i
  · rw [if_pos h1, List.getElem_append_left (by omega), List.getElem_take, getElem!_pos xs k (by omega)]
  · rw [if_neg h1, List.getElem_append_right (by omega)]
    by_cases h2 : k = i
    · subst h2; rw [if_pos rfl]; simp [htl]
    · rw [if_neg h2, getElem!_pos xs (k - 1) (by omega), List.getElem_cons, dif_neg (by omega), List.getElem_drop]
      congr 1; omega
theorem ins_len {α : Type} (xs : List α) (x : α) {i : Nat} (hi : i ≤ xs.length) : (xs.take i ++ x :: xs.drop i).length = xs.length + 1 := by rw [List.length_append, List.length_take, List.length_cons, List.length_drop]; omega
theorem set_get {α : Type} [Inhabited α] (xs : List α) (x : α) (i k : Nat) (hk : k < xs.length) : (xs.set i x)[k]! = if k = i then x else xs[k]! := by
  rw [getElem!_pos _ k (by rw [List.length_set]; exact hk), List.getElem_set]
  by_cases h : i = k
  · rw [if_pos h, if_pos h.symm]
  · rw [if_neg h, if_neg (fun e => h e.symm), getElem!_pos xs k hk]
/-- Where a blob belongs. -/
structure PosOf (l : List Bm) (id : Int) (i : Nat) : Prop where
  le : i ≤ l.length
  low : ∀ k, k < i → (l[k]!).id < id
  high : ∀ k, i ≤ k → k < l.length → id ≤ (l[k]!).id
def putAt (l : List Bm) (i : Nat) (b : Bm) : List Bm := if i < l.length ∧ (l[i]!).id = b.id then l.set i b else l.take i ++ b :: l.drop i
/-- A store handed back with OK. -/
def GivesPut (l : List Bm) (b : Bm) (w : World) (e : Ending) (w' : World) : Prop := ∃ (i : Nat) (r : List Bm) (s : Option Addr) (c : Nat) (qs : List Bv) (F : Nat → Prop), PosOf l b.id i ∧ r = putAt l i b ∧ qs.length = r.length ∧ e = .returned (.tuple #[.slice s r.length c, .int .i64 0]) ∧ HS NoD w [rowB s r.length c qs, anyB F qs r] w'
theorem pw_of {qs : List Bv} {l : List Bm} {size : Nat} (hg : GoodS size l) (hq : qs.length = l.length) (h : ∀ i, i < l.length → (qs[i]!).id = (l[i]!).id) : qs.Pairwise fun x y => x.id < y.id := by
  rw [List.pairwise_iff_getElem]
  intro i j hi hj hij
  rw [← getElem!_pos qs i hi, ← getElem!_pos qs j hj, h i (by omega), h j (by omega)]
  have := hg.lt (j - i) i (by omega)
  rw [show i + (j - i) = j by omega] at this
  omega
set_option maxHeartbeats 8000000 in
theorem rput_any (size : Nat) (h1 : 1 ≤ size) (h32 : size ≤ 32) (x : Sv) (l : List Bm) (hg : GoodS size l) (q : Bv) (b : Bm) (hb : GoodB size b) (w : World) (h : StoreAt w x l) (hbl : BlobAt w q b) : Calls Try.prog 12 #[.int .i64 size, x.v, vBv q] w (GivesPut l b w) := by
  have HV := Lib.hid (fun w h => rvalid34_any size h1 h32 x l hg w h)
  have HW := Lib.hid (fun w h => whole_any size q b hb w h)
  have HCP := Lib.hid (fun w h => rcopy_any x l (hg.small h32) w h)
  have HOW := Lib.hid (fun w h => owned_any q b (hb.small h32) w h)
  have HKN := Lib.hid (fun w => rknown_any q.id w)
  rw [decide_eq_true (show 1 ≤ q.id ∧ q.id ≤ 64 by rw [hbl.1]; exact ⟨hb.1, hb.2.1⟩)] at HKN
  have HST := Lib.hid h
  have HBL := Lib.hid hbl
  have HID := Lib.hid hbl.1
  have HG := Lib.hid hg
  have hl64 := hg.len
  clear h hbl hg hb h1 h32
  obtain ⟨sa, n, c⟩ := x
  obtain ⟨qi, ⟨qa, qn, qc⟩⟩ := q
  dsimp only at HKN HID
  have HV2 := Lib.hid (fun w h => (show Calls Try.prog 17 #[.int .i64 size, .slice sa n c] w _ from HV.out w h))
  have HCP2 := Lib.hid (fun w h => (show Calls Try.prog 22 #[.slice sa n c] w _ from HCP.out w h))
  have HW2 := Lib.hid (fun w h => (show Calls Try.prog 21 #[.int .i64 size, .agg #[.int .i64 qi, .slice qa qn qc]] w _ from HW.out w h))
  have HOW2 := Lib.hid (fun w h => (show Calls Try.prog 26 #[.agg #[.int .i64 qi, .slice qa qn qc]] w (GivesBlob b w) from HOW.out w h))
  clear HV HCP HW HOW
  show Calls Try.prog 12 #[.int .i64 size, .slice sa n c, .agg #[.int .i64 qi, .slice qa qn qc]] w _
  go_enter Try.func12, Try.ntmps12
  have H := HS.start NoD w
  go_upto_region 1 with fail
  generalize hwb : w.alloc _ = w1
  replace H := HS.eqW hwb H.alloc
  try simp only [World.size_alloc, List.nil_append, List.cons_append, List.append_assoc] at H
  clear hwb
  generalize w.heap.size = bQ at H ⊢
  try clear C
  have C := H.cells
  try simp only [cellsOf, cellsM, apartOf, apartM, and_true] at C
  go_wp2_with fail
  refine (HV2.out _ (HST.out.up H.done)).mono ?_
  rintro _ w2 ⟨rfl, hb⟩
  replace H := H.below hb
  clear hb
  try clear C
  try simp only [World.size_alloc, List.nil_append, List.cons_append, List.append_assoc] at H
  try clear w1
  have C := H.cells
  try simp only [cellsOf, cellsM, apartOf, apartM, and_true] at C
  dsimp only
  go_wp2_with fail
  refine (HKN.out _).mono ?_
  rintro _ w3 ⟨rfl, hb⟩
  replace H := H.below hb
  clear hb
  try clear C
  try simp only [World.size_alloc, List.nil_append, List.cons_append, List.append_assoc] at H
  try clear w2
  have C := H.cells
  try simp only [cellsOf, cellsM, apartOf, apartM, and_true] at C
  dsimp only
  go_wp2_with fail
  refine (HW2.out _ (HBL.out.up H.done)).mono ?_
  rintro _ w4 ⟨rfl, hb⟩
  replace H := H.below hb
  clear hb
  try clear C
  try simp only [World.size_alloc, List.nil_append, List.cons_append, List.append_assoc] at H
  try clear w3
  have C := H.cells
  try simp only [cellsOf, cellsM, apartOf, apartM, and_true] at C
  dsimp only
  go_wp2_with fail
  refine (HCP2.out _ (HST.out.up H.done)).mono ?_
  rintro _ w2 ⟨s2, c2, qs, F, hql, rfl, K⟩
  replace H := H.join K (fun A hA => by simp only [List.mem_cons, List.mem_nil_iff, or_false] at hA; rcases hA with rfl | rfl <;> rfl)
  clear K HCP2 HV2 HW2 HKN HST
  simp only [List.nil_append, List.cons_append] at H
  have HIDS := Lib.hid (fun i (hi : i < l.length) => ((H.says 2 rfl) i hi).1)
  have HQL := Lib.hid hql
  have HBS := Lib.hid (fun wx hx => bsearchBb (sa := s2) qi c2 (xs := qs) (by omega) (pw_of HG.out hql HIDS.out) wx hx)
  rw [hql] at HBS
  clear hql
  skip
  try clear C
  try simp only [World.size_alloc, List.nil_append, List.cons_append, List.append_assoc] at H
  have C := H.cells
  try simp only [cellsOf, cellsM, apartOf, apartM, and_true] at C
  dsimp only
  have hbs := HBS.out _ (H.rowLies 1 bvC_len (xs := qs) rfl HQL.out.symm)
  have HBS2 := Lib.hid hbs
  clear hbs HBS
  go_wp2_with fail
  refine (HBS2.out).mono ?_
  rintro _ w3 ⟨i, hi, hlo, hhi, rfl, hb3⟩
  replace H := H.below hb3
  clear hb3 HBS2
  rw [HQL.out] at hi hhi
  have HPO := Lib.hid (show PosOf l b.id i from ⟨hi, fun k hk => by rw [← HIDS.out k (by omega), ← HID.out]; exact hlo k hk, fun k h1 h2 => by rw [← HIDS.out k h2, ← HID.out]; exact hhi k h1 h2⟩)
  clear hlo hhi
  skip
  try clear C
  try simp only [World.size_alloc, List.nil_append, List.cons_append, List.append_assoc] at H
  have C := H.cells
  try simp only [cellsOf, cellsM, apartOf, apartM, and_true] at C
  dsimp only
  by_cases hex : i < qs.length ∧ (qs[i]!).id = qi
  · rw [decide_eq_true hex]
    obtain ⟨hil, hqe⟩ := hex
    rw [HQL.out] at hil
    have HPA := Lib.hid (show putAt l i b = l.set i b from by unfold putAt; rw [if_pos ⟨hil, by rw [← HIDS.out i hil, hqe, HID.out]⟩])
    clear hqe
    have hii : (i : Int) < l.length := by omega
    obtain ⟨g, cap, hv, -, -⟩ := World.ownsRow.form (H.at 1 rfl) (by omega)
    obtain ⟨rfl, -, rfl⟩ := Value.slice.inj hv
    clear hv
    have HFL := Lib.hid (show (qs.flatMap bvC).length = l.length * 2 by rw [flat_len bvC_len, HQL.out])
    have HST2 := Lib.hid (fun (q' : Bv) => bv_set qs i q' (by rw [HQL.out]; exact hil))
    go_wp2_with fail
    refine (HOW2.out _ (HBL.out.up H.done)).mono ?_
    rintro _ w4 ⟨q', G, rfl, K⟩
    replace H := H.join K (one_low rfl)
    clear K HOW2 HBL
    try simp only [List.nil_append, List.cons_append] at H
    obtain ⟨ri, ra, rn, rc⟩ := q'
    have hk : ∀ m, m < 2 → ∃ u, w4.cell? ⟨g, i * 2 + m, none⟩ = some u ∧ w4.frozen? ⟨g, i * 2 + m, none⟩ = false := fun m hm => by
      have h1 := H.rowCells 1 rfl (i * 2 + m) (by omega)
      exact ⟨_, h1.1.trans (List.getElem?_eq_getElem (by rw [HFL.out]; omega)), h1.2⟩
    obtain ⟨u0, k0, k0f⟩ : ∃ u, w4.cell? ⟨g, i * 2, none⟩ = some u ∧ w4.frozen? ⟨g, i * 2, none⟩ = false := hk 0 (by omega)
    obtain ⟨u1, k1, k1f⟩ : ∃ u, w4.cell? ⟨g, i * 2 + 1, none⟩ = some u ∧ w4.frozen? ⟨g, i * 2 + 1, none⟩ = false := hk 1 (by omega)
    clear hk
    have hgl : g < w4.heap.size := Item.lt (H.at 1 rfl) (k := g) rfl
    skip
    try clear C
    try simp only [World.size_alloc, List.nil_append, List.cons_append, List.append_assoc] at H
    have C := H.cells
    try simp only [cellsOf, cellsM, apartOf, apartM, and_true] at C
    dsimp only [vBv]
    go_upto_region 11 with fail
    generalize hwb : World.setCell _ _ _ = w9
    have H9 := HS.eqW hwb ((H.rowSet 1 rfl (i * 2) (.int .i64 ri)).rowSet 1 rfl (i * 2 + 1) (.slice ra rn rc))
    clear H C hwb k0 k1 k0f k1f hgl
    simp only [List.set_cons_succ, List.set_cons_zero] at H9
    rw [HST2.out ⟨ri, ra, rn, rc⟩] at H9
    have H8 := HS.less (L' := [_, _, _]) H9 (.cons _ (List.Sublist.refl _))
    have H7 := HS.merge (L := [_]) H8
    have H6 := HS.weak (L := [_]) H7 (K' := fun w => ∀ k, k < (l.set i b).length → BlobAt w (qs.set i ⟨ri, ra, rn, rc⟩)[k]! (l.set i b)[k]!) (fun w' ⟨a1, a2⟩ k hk => by
      rw [List.length_set] at hk
      rw [set_get _ _ _ _ (by rw [HQL.out]; exact hk), set_get _ _ _ _ hk]
      by_cases e : k = i
      · rw [if_pos e, if_pos e]; exact a2
      · rw [if_neg e, if_neg e]; exact a1 k hk)
    obtain ⟨F6, H6⟩ : ∃ F6, HS NoD w [rowB (some ⟨g, 0, none⟩) l.length c2 (qs.set i ⟨ri, ra, rn, rc⟩), anyB F6 (qs.set i ⟨ri, ra, rn, rc⟩) (l.set i b)] w9 := ⟨_, H6⟩
    go_wp2_with fail
    go_ret2
    refine ⟨i, l.set i b, some ⟨g, 0, none⟩, c2, qs.set i ⟨ri, ra, rn, rc⟩, F6, HPO.out, HPA.out.symm, by rw [List.length_set, List.length_set, HQL.out], by rw [List.length_set]; rfl, ?_⟩
    rw [List.length_set]
    exact H6
  · rw [decide_eq_false hex]
    have HPA := Lib.hid (show putAt l i b = l.take i ++ b :: l.drop i from by
      unfold putAt
      rw [if_neg (fun h => hex ⟨by rw [HQL.out]; exact h.1, by rw [HIDS.out i h.1, h.2, HID.out]⟩)])
    clear hex
    have hii : (i : Int) ≤ l.length := by omega
    have HFT := Lib.hid (fun (q' : Bv) => show (qs.flatMap bvC).take (i * 2) ++ [.int .i64 q'.id, .slice q'.x.sa q'.x.n q'.x.c] ++ (qs.flatMap bvC).drop (i * 2) = (qs.take i ++ q' :: qs.drop i).flatMap bvC by
      rw [flatTakeR bvC_len, flatDropR bvC_len, List.flatMap_append, List.flatMap_cons]; simp [bvC])
    go_wp2_with fail
    refine (HOW2.out _ (HBL.out.up H.done)).mono ?_
    rintro _ w4 ⟨q', G, rfl, K⟩
    replace H := H.join K (one_low rfl)
    clear K HOW2 HBL
    try simp only [List.nil_append, List.cons_append] at H
    obtain ⟨ri, ra, rn, rc⟩ := q'
    skip
    try clear C
    try simp only [World.size_alloc, List.nil_append, List.cons_append, List.append_assoc] at H
    have C := H.cells
    try simp only [cellsOf, cellsM, apartOf, apartM, and_true] at C
    dsimp only [vBv]
    go_wp2_with fail
    refine (insert_anyBb (cs := qs.flatMap bvC) (X := [.int .i64 ri, .slice ra rn rc]) rfl (fun u hu => bvC_one [⟨ri, ra, rn, rc⟩] u (by simpa [bvC] using hu)) hi (by omega) (fun g e => ?hne) (bvC_one qs) _ (H.alloc.at 1 rfl) (H.alloc.at 4 rfl)).mono ?_
    case hne =>
      subst e
      have hgl := (World.ownsRow.lt (H.at 1 rfl) g rfl).2
      omega
    rintro _ w9 ⟨g9, c9, rfl, h2, h3, h4⟩
    replace H := H.alloc.grewAt 1 rfl h2 h3 h4
    clear h2 h3 h4 C
    simp only [List.nil_append, List.cons_append, List.append_assoc, List.set_cons_succ, List.set_cons_zero] at H
    have hft := HFT.out ⟨ri, ra, rn, rc⟩
    simp only [List.append_assoc, List.cons_append, List.nil_append] at hft H
    rw [hft] at H
    clear hft
    have H8 := HS.less (L' := [_, _, _]) H (.cons _ (.cons_cons _ (.cons_cons _ (.cons_cons _ (.cons _ .slnil)))))
    have H7 := HS.merge (L := [_]) H8
    have H6 := HS.weak (L := [_]) H7 (K' := fun w => ∀ k, k < (l.take i ++ b :: l.drop i).length → BlobAt w (qs.take i ++ (⟨ri, ra, rn, rc⟩ : Bv) :: qs.drop i)[k]! (l.take i ++ b :: l.drop i)[k]!) (fun w' ⟨a1, a2⟩ k hk => by
      rw [ins_len _ _ hi] at hk
      rw [ins_get _ _ (by rw [HQL.out]; exact hi) k (by rw [HQL.out]; exact hk), ins_get _ _ hi k hk]
      by_cases e1 : k < i
      · rw [if_pos e1, if_pos e1]; exact a1 k (by omega)
      · rw [if_neg e1, if_neg e1]
        by_cases e : k = i
        · rw [if_pos e, if_pos e]; exact a2
        · rw [if_neg e, if_neg e]; exact a1 (k - 1) (by omega))
    obtain ⟨F6, H6⟩ : ∃ F6, HS NoD w [rowB (some ⟨g9, 0, none⟩) (l.length + 1) c9 (qs.take i ++ (⟨ri, ra, rn, rc⟩ : Bv) :: qs.drop i), anyB F6 (qs.take i ++ (⟨ri, ra, rn, rc⟩ : Bv) :: qs.drop i) (l.take i ++ b :: l.drop i)] w9 := ⟨_, H6⟩
    skip
    dsimp only
    go_wp2_with fail
    go_ret2
    refine ⟨i, l.take i ++ b :: l.drop i, some ⟨g9, 0, none⟩, c9, qs.take i ++ (⟨ri, ra, rn, rc⟩ : Bv) :: qs.drop i, F6, HPO.out, HPA.out.symm, by rw [ins_len _ _ hi, ins_len _ _ (by rw [HQL.out]; exact hi), HQL.out], by rw [ins_len _ _ hi]; rfl, ?_⟩
    rw [ins_len _ _ hi]
    exact H6
end Go.Proofs.Ytheccfiidollpaa
