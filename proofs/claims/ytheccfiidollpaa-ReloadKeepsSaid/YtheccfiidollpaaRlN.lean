/- slices.DeleteFunc of one blob; reload.Drop. -/
import Derived.Test.YtheccfiidollpaaRlL
import Derived.Lib.SliceRun
namespace Go.Proofs.Ytheccfiidollpaa
set_option linter.unusedSimpArgs false
set_option linter.unusedVariables false
open Go.RowKit
set_option maxRecDepth 100000
attribute [local irreducible] wpX wpF Calls

/-- 'clear' of one element of any size. -/
theorem run_clear_1 {P : Program} (w : World) (t e ty : TypeId) (z : Value) (zs : List Value) (ht : P.underlying t = some (.slice e)) (hv : ∀ w, (zeroValue e).run P w = .ok z w) (hz : z.cells.toList = zs) (h1 : ∀ v ∈ zs, v.oneCell' = true) (b o c : Nat)
    (hc : ∀ j, j < zs.length → (w.cell? ⟨b, o + j, none⟩).isSome = true) (hf : ∀ j, j < zs.length → w.frozen? ⟨b, o + j, none⟩ = false) :
    (Builtin.clear_ #[t] ty #[.slice (some ⟨b, o, none⟩) 1 c]).run P w = .ok (.tuple #[]) (w.setCells b o zs) := by
  have hzc : (Builtin.zeroCells z.cells 1).toList = zs := by
    rw [← hz]
    simp [Builtin.zeroCells]
    apply List.ext_getElem
    · simp
    · intro i h1 h2
      have : i < z.cells.size := by simpa using h2
      simp [Nat.mod_eq_of_lt this]
      rw [getElem!_pos z.cells i this]
  have hst := run_storeCells_cells (P := P) b o zs 0 w (by simpa using hc) (by simpa using hf) h1
  simp only [Nat.add_zero] at hst
  simp [Builtin.clear_, run_underlying ht, hv, hzc, hst]
theorem HS.startRow {w : World} {g n c k : Nat} {e : TypeId} {xs : List Value} (h : w.ownsRow 0 e k (.slice (some ⟨g, 0, none⟩) n c) n xs) : HS (OneD g) w [.row (.slice (some ⟨g, 0, none⟩) n c) e k n xs] w :=
  ⟨rfl, rfl, rfl, Nat.le_refl _, fun _ _ _ => rfl, fun A hA => (by cases List.mem_singleton.1 hA; exact h), fun A hA k hk => (by
    cases List.mem_singleton.1 hA
    have hk' : (Value.slice (some ⟨g, 0, none⟩) n c).ownBlock = some k := hk
    have h9 : g = k := by simpa [Value.ownBlock] using hk'
    exact .inr h9.symm),
   fun A hA => by cases List.mem_singleton.1 hA; exact ⟨Nat.zero_le _, fun k hk => absurd hk (Nat.not_lt_zero _)⟩, List.pairwise_singleton _ _⟩
theorem ownsRow_shrink {w : World} {B g n c k m : Nat} {e : TypeId} {xs : List Value} (h : w.ownsRow B e k (.slice (some ⟨g, 0, none⟩) n c) n xs) (hm : m ≤ n) : w.ownsRow B e k (.slice (some ⟨g, 0, none⟩) m c) m (xs.take (m * k)) := by
  obtain ⟨hl, ⟨h2, -⟩ | ⟨g', cap, cur, hv, hg, hh, hnc, hcm, hcs, htk⟩⟩ := h
  · cases h2
  · obtain ⟨he, -, rfl⟩ := Value.slice.inj hv
    have hmk : m * k ≤ n * k := Nat.mul_le_mul_right _ hm
    refine ⟨by rw [List.length_take, hl]; omega, .inr ⟨g', c, cur, by rw [he], hg, hh, by omega, hcm, hcs, ?_⟩⟩
    rw [← htk, List.take_take, Nat.min_eq_left hmk]
theorem HS.shrinkAt {D : Nat → Prop} {W w : World} {L : List Item} (h : HS D W L w) (i : Nat) {g n c k m : Nat} {e : TypeId} {xs : List Value} (hi : L[i]? = some (.row (.slice (some ⟨g, 0, none⟩) n c) e k n xs)) (hm : m ≤ n) : HS D W (L.set i (.row (.slice (some ⟨g, 0, none⟩) m c) e k m (xs.take (m * k)))) w := by
  have hr : w.ownsRow 0 e k (.slice (some ⟨g, 0, none⟩) n c) n xs := h.at i hi
  rw [set_at _ hi]
  rw [split_at hi] at h
  exact h.swap (X := .row (.slice (some ⟨g, 0, none⟩) n c) e k n xs) (Y := .row (.slice (some ⟨g, 0, none⟩) m c) e k m (xs.take (m * k))) rfl rfl rfl (Nat.le_refl _) (fun k hk hn => rfl) (ownsRow_shrink hr hm) (fun k hk => .inl hk) (.inr rfl)
theorem erase_eq {qs ys : List Bv} {i : Nat} (hi : i < qs.length) (hl : ys.length = qs.length) (h : ∀ k, k < qs.length → ys[k]! = if k < i then qs[k]! else if k + 1 < qs.length then qs[k + 1]! else qs[k]!) : ys.take (qs.length - 1) = qs.eraseIdx i := by
  apply List.ext_getElem
  · rw [List.length_take, List.length_eraseIdx, if_pos hi]; omega
  · intro k h1 h2
    rw [List.length_take] at h1
    rw [List.getElem_take, List.getElem_eraseIdx]
    have hk := h k (by omega)
    rw [getElem!_pos ys k (by omega)] at hk
    rw [hk]
    by_cases e : k < i
    · rw [if_pos e, dif_pos e, getElem!_pos qs k (by omega)]
    · rw [if_neg e, dif_neg e, if_pos (by omega), getElem!_pos qs (k + 1) (by omega)]
set_option maxHeartbeats 8000000 in
theorem delf_one (g0 : Nat) (eg : ∀ args w, (callFunc g0 args).run Try.prog w = .ok (.enter g0 args) w) (lb : Array Value) (p : Bv → Bool) {g n c i : Nat} {qs : List Bv} (hq : n = qs.length) (hn : n ≤ 1000) (hi : i < qs.length) (hpi : p qs[i]! = true) (hpn : ∀ j, j < qs.length → j ≠ i → p qs[j]! = false) (w : World) (hr : w.ownsRow 0 32 2 (.slice (some ⟨g, 0, none⟩) n c) n (qs.flatMap bvC))
    (hp : ∀ W x, W.os = w.os → (∀ k, k < w.heap.size → k ≠ g → W.heap[k]? = w.heap[k]?) → w.heap.size ≤ W.heap.size → Calls Try.prog g0 (#[.agg (bvC x).toArray] ++ lb) W (Gives (.bool (p x)) W)) :
    Calls Try.prog 28 #[.slice (some ⟨g, 0, none⟩) n c, .func (.func g0) #[] lb] w (fun e w' => e = .returned (.slice (some ⟨g, 0, none⟩) (n - 1) c) ∧ HS (OneD g) w [.row (.slice (some ⟨g, 0, none⟩) (n - 1) c) 32 2 (n - 1) ((qs.eraseIdx i).flatMap bvC)] w') := by
  subst hq
  have hcap := row_capOk hr
  have hnc : qs.length ≤ c := hcap.1
  have HP := Lib.hid hp
  have HPI := Lib.hid hpi
  have HPN := Lib.hid hpn
  have HR := Lib.hid hr
  have hasks : AsksBb g0 lb p w := fun W x hb => hp W x hb.os (fun k hk _ => hb.block k hk) hb.size
  have HF := Lib.hid (findBb g0 eg lb p c (by omega) w (ownsRow_lies bvC_len rfl hr) hasks)
  clear hp hpi hpn hr hasks hcap
  go_enter Try.func28, Try.ntmps28
  have H := HS.start NoD w
  clear H
  have H := HS.startRow HR.out
  have C := H.cells
  simp only [cellsOf, cellsM, apartOf, apartM, and_true] at C
  go_wp2_with fail
  refine HF.out.mono ?_
  rintro _ w2 ⟨r, rfl, hr, hb⟩
  replace H := H.below hb
  have hri : r = i := by
    rcases hr with ⟨h1, h2⟩ | ⟨i', h1, h2, h3, h4⟩
    · have := h2 i hi; rw [HPI.out] at this; cases this
    · by_cases e : i' = i
      · rw [h2, e]
      · rw [HPN.out i' h1 e] at h3; cases h3
  subst hri
  clear hr hb HF
  have hiw : IntKind.i64.wrap ((i : Int) + 1) = ((i + 1 : Nat) : Int) := by rw [IntWalk.i64_in _ (by omega)]; omega
  have him : ¬ (i : Int) = -1 := by omega
  have himb : ((i : Int) == -1) = false := beq_eq_false_iff_ne.2 him
  skip
  try clear C
  try simp only [World.size_alloc, List.nil_append, List.cons_append, List.append_assoc] at H
  have C := H.cells
  try simp only [cellsOf, cellsM, apartOf, apartM, and_true] at C
  dsimp only
  go_wp2_with fail
  go_loopw [5, 6] (fun ii jj wr => ∃ (j : Nat) (ys : List Bv), jj = .int .i64 j ∧ ii = .int .i64 ((j - 1 : Nat) : Int) ∧ i + 1 ≤ j ∧ j ≤ qs.length ∧ ys.length = qs.length ∧ Hid (∀ k, k < qs.length → ys[k]! = if k < i then qs[k]! else if k + 1 < j then qs[k + 1]! else qs[k]!) ∧ HS (OneD g) w [.row (.slice (some ⟨g, 0, none⟩) qs.length c) 32 2 qs.length (ys.flatMap bvC)] wr) (fun _ jj _ => qs.length - (intOf jj).toNat)
  case atStart => exact ⟨i + 1, qs, rfl, by go_num, Nat.le_refl _, by omega, rfl, (show Hid _ from fun k hk => by
    split
    · rfl
    · rw [if_neg (by omega)]), H⟩
  case round =>
    clear H C
    obtain ⟨j, ys, rfl, rfl, hij, hj, hyl, HY, H⟩ := hrel
    have HYL := Lib.hid hyl
    clear hyl
    skip
    try clear C
    try simp only [World.size_alloc, List.nil_append, List.cons_append, List.append_assoc] at H
    have C := H.cells
    try simp only [cellsOf, cellsM, apartOf, apartM, and_true] at C
    skip
    by_cases hlt : j < qs.length
    · have hcells : ∀ m u, (bvC qs[j]!)[m]? = some u → wr.cell? ⟨g, j * 2 + m, none⟩ = some u := fun m u hu => by
        have hm : m < 2 := (List.getElem?_eq_some_iff.1 hu).1
        have h1 := H.rowCells 0 rfl (j * 2 + m) (by omega)
        refine h1.1.trans (flat_get bvC_len ys j m u (by rw [HYL.out]; exact hlt) ?_)
        rw [HY.out j hlt, if_neg (by omega), if_neg (by omega)]; exact hu
      have HPJ := Lib.hid (HPN.out j hlt (by omega))
      have HCA := Lib.hid (fun (W : World) (h : HS (OneD g) w [] W) => HP.out W qs[j]! h.os (fun k hk hn => h.old k hk hn) h.size)
      rw [HPJ.out] at HCA
      obtain ⟨x, hx⟩ : ∃ x, x = qs[j]! := ⟨_, rfl⟩
      have HXJ := Lib.hid hx
      rw [← hx] at hcells HCA
      clear hx
      obtain ⟨xi, xa, xn, xc⟩ := x
      have c0 : wr.cell? ⟨g, j * 2, none⟩ = some (.int .i64 xi) := hcells 0 _ rfl
      have c1 : wr.cell? ⟨g, j * 2 + 1, none⟩ = some (.slice xa xn xc) := hcells 1 _ rfl
      have HCA2 := Lib.hid (fun (W : World) (h : HS (OneD g) w [] W) => (show Calls Try.prog g0 (#[.agg #[.int .i64 xi, .slice xa xn xc]] ++ lb) W (Gives (.bool false) W) from HCA.out W h))
      have hgl : g < wr.heap.size := Item.lt (H.at 0 rfl) (k := g) rfl
      have q1 : (g = wr.heap.size) = False := eq_false (by omega)
      have q2 : (wr.heap.size = g) = False := eq_false (by omega)
      have hjw : IntKind.i64.wrap ((j : Int) + 1) = ((j + 1 : Nat) : Int) := by rw [IntWalk.i64_in _ (by omega)]; omega
      have hj1w : IntKind.i64.wrap (((j - 1 : Nat) : Int) + 1) = ((j : Nat) : Int) := by rw [IntWalk.i64_in _ (by omega)]; omega
      have hj1 : j - 1 < qs.length := by omega
      have hj1i : ((j - 1 : Nat) : Int) < qs.length := by omega
      clear hcells HCA HPJ
      go_upto_region 8 with fail
      clear c0 c1 q1 q2 hgl
      generalize hwb : wr.alloc _ = w1
      replace H := HS.eqW hwb H.alloc
      try simp only [World.size_alloc, List.nil_append, List.cons_append, List.append_assoc] at H
      clear hwb
      generalize wr.heap.size = bV at H ⊢
      try clear C
      try clear wr
      have C := H.cells
      try simp only [cellsOf, cellsM, apartOf, apartM, and_true] at C
      go_wp2_with fail
      have hca := HCA2.out _ (HS.less H (List.nil_sublist _))
      refine hca.mono ?_
      rintro _ w8 ⟨rfl, hb8⟩
      replace H := H.below hb8
      clear hca hb8
      have hk : ∀ m, m < 2 → ∃ u, w8.cell? ⟨g, (j - 1) * 2 + m, none⟩ = some u ∧ w8.frozen? ⟨g, (j - 1) * 2 + m, none⟩ = false := fun m hm => by
        have h1 := H.rowCells 0 rfl ((j - 1) * 2 + m) (by omega)
        exact ⟨_, h1.1.trans (List.getElem?_eq_getElem (by rw [flat_len bvC_len, HYL.out]; omega)), h1.2⟩
      obtain ⟨u0, k0, k0f⟩ : ∃ u, w8.cell? ⟨g, (j - 1) * 2, none⟩ = some u ∧ w8.frozen? ⟨g, (j - 1) * 2, none⟩ = false := hk 0 (by omega)
      obtain ⟨u1, k1, k1f⟩ : ∃ u, w8.cell? ⟨g, (j - 1) * 2 + 1, none⟩ = some u ∧ w8.frozen? ⟨g, (j - 1) * 2 + 1, none⟩ = false := hk 1 (by omega)
      have hgl : g < w8.heap.size := Item.lt (H.at 0 rfl) (k := g) rfl
      clear hk
      skip
      try clear C
      try simp only [World.size_alloc, List.nil_append, List.cons_append, List.append_assoc] at H
      have C := H.cells
      try simp only [cellsOf, cellsM, apartOf, apartM, and_true] at C
      dsimp only
      go_upto_region 10 with fail
      generalize hwb : World.setCell _ _ _ = w9
      have H9 := HS.eqW hwb ((H.rowSet 0 rfl ((j - 1) * 2) (.int .i64 xi)).rowSet 0 rfl ((j - 1) * 2 + 1) (.slice xa xn xc))
      clear H C hwb k0 k1 k0f k1f hgl
      simp only [List.set_cons_succ, List.set_cons_zero] at H9
      rw [bv_set ys (j - 1) ⟨xi, xa, xn, xc⟩ (by rw [HYL.out]; exact hj1)] at H9
      have H8 := HS.less (L' := [_]) H9 (.cons_cons _ (List.nil_sublist _))
      have HY2 := Lib.hid (show ∀ k, k < qs.length → (ys.set (j - 1) (⟨xi, xa, xn, xc⟩ : Bv))[k]! = if k < i then qs[k]! else if k + 1 < j + 1 then qs[k + 1]! else qs[k]! from fun k hk => by
        rw [set_get _ _ _ _ (by rw [HYL.out]; exact hk), HY.out k hk]
        by_cases e : k = j - 1
        · subst e
          rw [if_pos rfl, if_neg (by omega), if_pos (by omega), show j - 1 + 1 = j by omega]
          exact HXJ.out
        · rw [if_neg e]
          by_cases e1 : k < i
          · rw [if_pos e1, if_pos e1]
          · rw [if_neg e1, if_neg e1]
            by_cases e2 : k + 1 < j
            · rw [if_pos e2, if_pos (by omega)]
            · rw [if_neg e2, if_neg (by omega)])
      have H8 := Lib.hid H8
      clear H9
      go_wp2_with fail
      go_roundw
      case rel => exact ⟨j + 1, ys.set (j - 1) (⟨xi, xa, xn, xc⟩ : Bv), by go_num, by go_num, by omega, by omega, by rw [List.length_set]; exact HYL.out, HY2, H8.out⟩
      case measure => simp [intOf]; omega
    · obtain rfl : j = qs.length := by omega
      have HEQ := Lib.hid (erase_eq hi HYL.out HY.out)
      obtain ⟨m, hm⟩ : ∃ m, qs.length = m + 1 := ⟨qs.length - 1, by omega⟩
      have HMM := Lib.hid hm
      rw [show qs.length - 1 = m by omega] at HEQ ⊢
      rw [hm] at H hnc ⊢
      have hcl2 : ∀ ty d, (Builtin.clear_ #[27] ty #[.slice (some ⟨g, m * 2, none⟩) 1 d]).run Try.prog wr = .ok (.tuple #[]) (wr.setCells g (m * 2) [.int .i64 0, .slice none 0 0]) := fun ty d =>
        run_clear_1 wr _ 32 ty (.agg #[.int .i64 0, .slice none 0 0]) [.int .i64 0, .slice none 0 0] Try.underlying27 (fun w => by kernel_rfl) rfl (fun v hv => by simp only [List.mem_cons, List.mem_nil_iff, or_false] at hv; rcases hv with rfl | rfl <;> rfl) g (m * 2) d
          (fun j hj => by
            have : j < 2 := hj
            rw [(H.rowCells 0 rfl (m * 2 + j) (by omega)).1, List.getElem?_eq_getElem (by rw [flat_len bvC_len, HYL.out, hm]; omega)]; rfl)
          (fun j hj => (H.rowCells 0 rfl (m * 2 + j) (by have : j < 2 := hj; omega)).2)
      have hm1 : (m : Int) ≤ ((m + 1 : Nat) : Int) := by omega
      have hm2 : m ≤ m + 1 := by omega
      have hmc : (m : Int) ≤ c := by omega
      have hmc2 : m ≤ c := by omega
      have hmn : ¬ c = m := by omega
      have hm3 : m + 1 - m = 1 := by omega
      clear hm
      skip
      go_wp2_with fail
      go_ret
      have H9 := (H.rowSet 0 rfl (m * 2) (.int .i64 0)).rowSet 0 rfl (m * 2 + 1) (.slice none 0 0)
      simp only [List.set_cons_succ, List.set_cons_zero] at H9
      rw [bv_set ys m ⟨0, ⟨none, 0, 0⟩⟩ (by rw [HYL.out, HMM.out]; omega)] at H9
      have H8 := H9.shrinkAt 0 rfl (m := m) (by omega)
      simp only [List.set_cons_zero] at H8
      rw [flatTakeR bvC_len, List.take_set_of_le (Nat.le_refl _), HEQ.out] at H8
      rw [show qs.length - 1 = m by have := HMM.out; omega]
      exact ⟨rfl, H8⟩
/-- The store without a number. -/
def dropAt (l : List Bm) (id : Int) : List Bm := l.filter fun b => !decide (b.id = id)
theorem drop_none {l : List Bm} {id : Int} (h : ∀ i, i < l.length → (l[i]!).id ≠ id) : dropAt l id = l := by
  unfold dropAt
  rw [List.filter_eq_self]
  intro b hb
  obtain ⟨i, hi, rfl⟩ := List.getElem_of_mem hb
  have := h i hi
  rw [getElem!_pos l i hi] at this
  simp [this]
theorem drop_some : ∀ {l : List Bm} {id : Int} {i : Nat}, i < l.length → (l[i]!).id = id → (∀ j, j < l.length → j ≠ i → (l[j]!).id ≠ id) → dropAt l id = l.eraseIdx i
  | [], _, _, hi, _, _ => absurd hi (Nat.not_lt_zero _)
  | b :: l, id, 0, _, he, hn => by
    have he' : b.id = id := he
    have h1 : dropAt l id = l := drop_none fun i hi => by
      have := hn (i + 1) (by simpa using hi) (by omega)
      simpa using this
    unfold dropAt at h1 ⊢
    rw [List.filter_cons, if_neg (by simp [he']), h1]
    rfl
  | b :: l, id, i + 1, hi, he, hn => by
    have h0 : b.id ≠ id := hn 0 (by simp) (by omega)
    have h1 : dropAt l id = l.eraseIdx i := drop_some (by simpa using hi) (by simpa using he) fun j hj hji => by
      have := hn (j + 1) (by simpa using hj) (by omega)
      simpa using this
    unfold dropAt at h1 ⊢
    rw [List.filter_cons, if_pos (by simp [h0]), h1]
    rfl
theorem rdrop1_any (x : Bv) (id : Int) (bI : Nat) (w : World) (hc : ∀ o, w.cell? ⟨bI, o, none⟩ = #[Value.int .i64 id][o]?) (hl : bI < w.heap.size) : Calls Try.prog 29 (#[.agg (bvC x).toArray] ++ #[.pointer (some ⟨bI, 0, none⟩)]) w (Gives (.bool (decide (x.id = id))) w) := by
  obtain ⟨xi, xa, xn, xc⟩ := x
  show Calls Try.prog 29 #[.agg #[.int .i64 xi, .slice xa xn xc], .pointer (some ⟨bI, 0, none⟩)] w _
  have n1 : (bI = w.heap.size) = False := eq_false (by omega)
  have n2 : (w.heap.size = bI) = False := eq_false (by omega)
  by_cases h : xi = id
  · subst h
    go_enter Try.func29, Try.ntmps29
    have H := HS.start NoD w
    go_wp2_with fail
    go_ret
    exact ⟨by simp, H.skipAlloc.done⟩
  · have hb : (xi == id) = false := beq_eq_false_iff_ne.2 h
    go_enter Try.func29, Try.ntmps29
    have H := HS.start NoD w
    go_wp2_with fail
    go_ret
    exact ⟨by simp [h], H.skipAlloc.done⟩
/-- DeleteFunc where nothing is to go. -/
theorem delf_none (g0 : Nat) (eg : ∀ args w, (callFunc g0 args).run Try.prog w = .ok (.enter g0 args) w) (lb : Array Value) (p : Bv → Bool) {sa : Option Addr} {c : Nat} {qs : List Bv} (hn : qs.length ≤ 1000) (hpn : ∀ j, j < qs.length → p qs[j]! = false) (w : World) (hl : Lies w w.heap.size sa 2 qs.length (fun j => bvC qs[j]!)) (hp : AsksBb g0 lb p w) :
    Calls Try.prog 28 #[.slice sa qs.length c, .func (.func g0) #[] lb] w (Gives (.slice sa qs.length c) w) := by
  have HF := Lib.hid (findBb g0 eg lb p c (by omega) w hl hp)
  have HPN := Lib.hid hpn
  clear hl hp hpn
  go_enter Try.func28, Try.ntmps28
  have H := HS.start NoD w
  go_wp2_with fail
  refine HF.out.mono ?_
  rintro _ w2 ⟨r, rfl, hr, hb⟩
  replace H := H.below hb
  have hri : r = -1 := by
    rcases hr with ⟨h1, h2⟩ | ⟨i', h1, h2, h3, h4⟩
    · exact h1
    · rw [HPN.out i' h1] at h3; cases h3
  subst hri
  clear hr hb HF
  skip
  dsimp only
  go_wp2_with fail
  go_ret
  exact ⟨rfl, H.done⟩
end Go.Proofs.Ytheccfiidollpaa
