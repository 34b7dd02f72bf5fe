/- slices.SortFunc at uses of one's own: the sorted list. -/
import Derived.Test.YthpoanlmaafanaaPgK
import Derived.Test.YthpoanlmaafanaaPgL
namespace Go.Proofs.Ythpoanlmaafanaa
set_option linter.unusedSimpArgs false
set_option linter.unusedVariables false
open Go.RowKit Go.Sort Go.Lib
set_option maxRecDepth 100000
attribute [local irreducible] wpX wpF Calls

theorem compareInt_eq (a b : Int) : Lib.compareInt a b = if a < b then -1 else if b < a then 1 else 0 := by
  unfold Lib.compareInt
  by_cases h1 : a < b
  · simp [h1]
  · by_cases h2 : b < a <;> simp [h1, h2]
theorem cmpU_lt (x y : Int × Int) : cmpU x y < 0 ↔ lexU x y := by
  unfold cmpU lexU
  rw [compareInt_eq, compareInt_eq]
  by_cases h1 : x.1 < y.1
  · simp [h1]
  · by_cases h2 : y.1 < x.1
    · simp [h1, h2]; omega
    · by_cases h3 : x.2 < y.2
      · simp [h1, h2, h3]; omega
      · by_cases h4 : y.2 < x.2 <;> simp [h1, h2, h3, h4]
theorem ltU (x y : Int × Int) : (ltOf cmpU) x y = true ↔ lexU x y := by
  unfold ltOf
  rw [decide_eq_true_iff]
  exact cmpU_lt x y
theorem ltU_f (x y : Int × Int) : (ltOf cmpU) x y = false ↔ ¬ lexU x y := by
  rw [← ltU, Bool.not_eq_true]
theorem swoU : SWO (ltOf cmpU) where
  irrefl x := by rw [ltU_f]; exact lexU_irr x
  trans x y z h1 h2 := by rw [ltU] at *; unfold lexU at *; omega
  ntrans x y z h1 h2 := by rw [ltU_f] at *; unfold lexU at *; omega
theorem totU (x y : Int × Int) (h1 : (ltOf cmpU) x y = false) (h2 : (ltOf cmpU) y x = false) : x = y := by
  rw [ltU_f] at *
  unfold lexU at *
  refine Prod.ext ?_ ?_ <;> omega
theorem flatU (us : List (Int × Int)) : (flatK encU 2 us.toArray).toList = us.flatMap encU := by
  apply List.ext_getElem?
  intro t
  by_cases ht : t < us.length * 2
  · have h1 : t / 2 < us.length := by omega
    have h2 := flat_get encU_len us (t / 2) (t % 2) ((encU us[t / 2]!)[t % 2]!) h1 (by
      have : t % 2 = 0 ∨ t % 2 = 1 := by omega
      rcases this with e | e <;> rw [e] <;> rfl)
    rw [show t / 2 * 2 + t % 2 = t by omega] at h2
    rw [h2, Array.getElem?_toList, Array.getElem?_eq_getElem (by simpa using ht)]
    have h3 := get_flatK encU 2 us.toArray t (by simpa using ht)
    rw [getElem!_pos _ t (by simpa using ht)] at h3
    rw [h3]
    simp
  · rw [List.getElem?_eq_none (by simp; omega), List.getElem?_eq_none (by rw [flat_len encU_len]; omega)]
theorem holdsU {w : World} {g : Nat} {us : List (Int × Int)} (h : ∀ j, j < us.length * 2 → w.cell? ⟨g, j, none⟩ = (us.flatMap encU)[j]? ∧ w.frozen? ⟨g, j, none⟩ = false) : HoldsK encU 2 w g 0 us.toArray := by
  intro j hj
  have hj' : j < us.length * 2 := by simpa using hj
  obtain ⟨h1, h2⟩ := h j hj'
  rw [Nat.zero_add]
  refine ⟨?_, h2⟩
  rw [h1, ← flatU, Array.getElem?_toList, Array.getElem?_eq_getElem hj, getElem!_pos _ j hj]
  rfl
theorem heap_sortedU {w : World} {g n : Nat} {os : Array Obj} {cur : Array Value} {e : TypeId} {fr : Nat × Nat} (d : Array Value) (hb : w.heap[g]? = some (.cells cur e fr)) :
    (grow (putRow id (Sort.ahead w n) g 0 d) os).heap[g]? = some (.cells (putCells id 0 d cur) e fr) := by
  have hg : g < w.heap.size := (Array.getElem?_eq_some_iff.1 hb).1
  rw [heap_grow_old _ _ (by simpa using hg)]
  simp [putRow, mapBlock, Sort.ahead, Array.getElem?_modify, hb, onCells]
theorem grownBy_sortedU {w : World} {g n : Nat} {os : Array Obj} (d : Array Value) : w.grownBy (grow (putRow id (Sort.ahead w n) g 0 d) os) (some g) := by
  refine ⟨rfl, rfl, rfl, by simp, fun k hk hne => ?_⟩
  rw [heap_grow_old _ _ (by simpa using hk)]
  have : g ≠ k := fun e => hne (by rw [e])
  simp [putRow, mapBlock, Sort.ahead, Array.getElem?_modify, this]
theorem take_putCellsU (cur : Array Value) (d : Array Value) (h : d.size ≤ cur.size) : (putCells id 0 d cur).toList.take d.size = d.toList := by
  apply List.ext_getElem?
  intro j
  by_cases hj : j < d.size
  · rw [List.getElem?_take_of_lt hj, Array.getElem?_toList]
    simp [putCells, hj, show j < cur.size by omega]
  · rw [List.getElem?_take_eq_none (by omega), List.getElem?_eq_none (by simp; omega)]
def SortPostU (sa : Option Addr) (c : Nat) (us : List (Int × Int)) (w : World) (e : Ending) (w' : World) : Prop :=
  e = .returned (.tuple #[]) ∧ ∃ ts : List (Int × Int), ts.Perm us ∧ ts.Pairwise (fun x y => ¬ lexU y x) ∧ w'.ownsRow 0 40 2 (.slice sa us.length c) us.length (ts.flatMap encU) ∧ w.grownBy w' (Value.slice sa us.length c).ownBlock
theorem sortUse_any {sa : Option Addr} {c : Nat} {us : List (Int × Int)} (hx : us.length ≤ 1000000) (w : World) (hr : w.ownsRow 0 40 2 (.slice sa us.length c) us.length (us.flatMap encU)) :
    Calls Try.prog 26 #[.slice sa us.length c, .func (.func 27) #[] #[]] w (SortPostU sa c us w) := by
  have hr0 := hr
  rcases hr.2 with ⟨h2, h3⟩ | ⟨g, cap, cur, hv, hg, hb, h1, h2, h3, h4⟩
  · injection h2 with e1 e2 e3
    have hxs : us = [] := List.length_eq_zero_iff.1 e2
    subst hxs e1 e3
    have h : Calls Try.prog 26 #[.slice none 0 0, .func (.func 27) #[] #[]] w (fun e w' => e = .returned (.tuple #[]) ∧ w' = w) :=
      AnyF.slices_SortFunc_none Try.sortUse none 0 _ w
    refine h.mono ?_
    rintro e w' ⟨rfl, rfl⟩
    exact ⟨rfl, [], List.Perm.refl _, .nil, hr0, rfl, rfl, rfl, Nat.le_refl _, fun _ _ _ => rfl⟩
  · injection hv with e1 e2 e3
    subst e1 e3
    have eg : ∀ args w, (callFunc 27 args).run Try.prog w = .ok (.enter 27 args) w := fun _ _ => rfl
    have hcells : ∀ j, j < us.length * 2 → w.cell? ⟨g, j, none⟩ = (us.flatMap encU)[j]? ∧ w.frozen? ⟨g, j, none⟩ = false := fun j hj => ⟨World.ownsRow.cellAt hr j hj, Blk.free (show Blk w g cur 40 from hb) _⟩
    have hcon := AnyQ.slices_SortFunc_total Try.sortUse 2 (fun w => by kernel_rfl) (fun w => by kernel_rfl) encU encU_len (fun x v hv => by simp [encU] at hv; rcases hv with rfl | rfl <;> rfl) cmpU swoU 27 #[] g 0 c us.toArray w eg
      (fun m os dk hs x y => closeU x y _) (holdsU hcells) (Array.getElem?_eq_some_iff.1 hb).1 (by simp; omega) totU
    rw [List.size_toArray] at hcon
    refine Calls.mono (show Calls Try.prog 26 _ w _ from hcon) ?_
    rintro e w' ⟨rfl, n, os, rfl⟩
    obtain ⟨ts, hts⟩ : ∃ ts, ts = us.mergeSort (fun x y => !(ltOf cmpU) y x) := ⟨_, rfl⟩
    have hperm : ts.Perm us := by rw [hts]; exact List.mergeSort_perm _ _
    have hsort : ts.Pairwise (fun x y => ¬ lexU y x) := by
      rw [hts]
      refine (List.pairwise_mergeSort (le := fun x y => !(ltOf cmpU) y x) (fun a b c h1 h2 => ?_) (fun a b => ?_) us).imp fun h => ?_
      · simp only [Bool.not_eq_true', ltU_f] at *
        unfold lexU at *; omega
      · by_cases h : lexU b a
        · have h9 := lexU_asymm h
          rw [Bool.or_eq_true, Bool.not_eq_true', Bool.not_eq_true', ltU_f, ltU_f]
          exact .inr h9
        · rw [Bool.or_eq_true, Bool.not_eq_true', Bool.not_eq_true', ltU_f, ltU_f]
          exact .inl h
      · simpa only [Bool.not_eq_true', ltU_f] using h
    have hlen : ts.length = us.length := hperm.length_eq
    have hw : sortWorldK encU 2 w g 0 n (us.toArray.toList.mergeSort fun x y => !(ltOf cmpU) y x).toArray os = grow (putRow id (Sort.ahead w n) g 0 (flatK encU 2 ts.toArray)) os := by rw [hts]; rfl
    rw [hw]
    refine ⟨rfl, ts, hperm, hsort, ⟨?_, .inr ⟨g, c, _, rfl, Nat.zero_le _, heap_sortedU _ hb, h1, h2, by simp [putCells, h3], ?_⟩⟩, grownBy_sortedU _⟩
    · rw [flat_len encU_len, hlen]
    · have h5 := take_putCellsU cur (flatK encU 2 ts.toArray) (by simp only [size_flatK, List.size_toArray]; rw [h3, hlen]; exact Nat.mul_le_mul_right _ h1)
      rw [flatU] at h5
      rw [← h5, size_flatK, List.size_toArray, hlen]
end Go.Proofs.Ythpoanlmaafanaa
