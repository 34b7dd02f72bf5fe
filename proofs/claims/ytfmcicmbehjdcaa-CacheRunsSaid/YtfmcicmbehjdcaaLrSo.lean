/- slices.SortFunc at lines of one's own, by address. -/
import Derived.Test.YtfmcicmbehjdcaaLrA
import Derived.Shelf.SlSortCmp.NoneTotal
import Derived.Shelf.SlicesG.Cmp
import Derived.Shelf.Lay
import Derived.Ground.SlsfProg
import Derived.Ground.SlgcProg
namespace Go.Proofs
open Go.Shelf
shelf_lay_g SlLaysF0.n6 Slsf 6 at Try 48 as Try.sortLine
shelf_lay_g SlLaysC2.n5 Slgc 5 at Try 50 as Try.cmpInt
end Go.Proofs
namespace Go.Proofs.Ytfmcicmbehjdcaa
set_option linter.unusedSimpArgs false
set_option linter.unusedVariables false
open Go.RowKit Go.Sort Go.Lib
set_option maxRecDepth 100000
attribute [local irreducible] wpX wpF Calls

def cmpL (x y : Lm × Sv) : Int := Lib.compareInt x.1.ad y.1.ad
set_option maxHeartbeats 1000000 in
theorem closeL (x y : Lm × Sv) (W : World) : Calls Try.prog 49 #[.agg (lnC x).toArray, .agg (lnC y).toArray] W fun e w' => e = .returned (.int .i64 (cmpL x y)) ∧ ∃ q os', w' = grow (W.drewN q) os' := by
  obtain ⟨⟨a, bs, d, p⟩, ⟨xa, xn, xc⟩⟩ := x
  obtain ⟨⟨c, bs2, d2, p2⟩, ⟨ya, yn, yc⟩⟩ := y
  have H1 := Lib.hid (show ∀ W', Calls Try.prog 50 #[.int .i64 a, .int .i64 c] W' (fun e w' => e = .returned (.int .i64 (cmpL (⟨a, bs, d, p⟩, ⟨xa, xn, xc⟩) (⟨c, bs2, d2, p2⟩, ⟨ya, yn, yc⟩))) ∧ w' = W') from fun W' => AnyG.cmp_Compare_int Try.cmpInt a c W')
  generalize cmpL (⟨a, bs, d, p⟩, ⟨xa, xn, xc⟩) (⟨c, bs2, d2, p2⟩, ⟨ya, yn, yc⟩) = r at H1
  show Calls Try.prog 49 #[.agg #[.int .i64 a, .slice xa xn xc, .bool d, .bool p], .agg #[.int .i64 c, .slice ya yn yc, .bool d2, .bool p2]] W _
  go_enter Try.func49, Try.ntmps49
  go_wp2_with fail
  refine (H1.out _).mono ?_
  rintro _ _ ⟨rfl, rfl⟩
  go_wp2_with fail
  go_ret
  exact ⟨rfl, 0, _, by simp only [alloc_eq_grow, grow_grow]; rfl⟩
theorem cmpL_lt (x y : Lm × Sv) : (ltOf cmpL) x y = true ↔ x.1.ad < y.1.ad := by
  unfold ltOf
  rw [decide_eq_true_iff]
  unfold cmpL Lib.compareInt
  by_cases h1 : x.1.ad < y.1.ad
  · simp [h1]
  · by_cases h2 : y.1.ad < x.1.ad <;> simp [h1, h2]
theorem cmpL_f (x y : Lm × Sv) : (ltOf cmpL) x y = false ↔ ¬ x.1.ad < y.1.ad := by
  rw [← cmpL_lt, Bool.not_eq_true]
theorem swoL : SWO (ltOf cmpL) where
  irrefl x := by rw [cmpL_f]; omega
  trans x y z h1 h2 := by rw [cmpL_lt] at *; omega
  ntrans x y z h1 h2 := by rw [cmpL_f] at *; omega
theorem flatL9 (us : List (Lm × Sv)) : (flatK lnC 4 us.toArray).toList = us.flatMap lnC := by
  apply List.ext_getElem?
  intro t
  by_cases ht : t < us.length * 4
  · have h1 : t / 4 < us.length := by omega
    have h2 := flat_get lnC_len us (t / 4) (t % 4) ((lnC us[t / 4]!)[t % 4]!) h1 (by
      have : t % 4 = 0 ∨ t % 4 = 1 ∨ t % 4 = 2 ∨ t % 4 = 3 := by omega
      rcases this with e | e | e | e <;> rw [e] <;> rfl)
    rw [show t / 4 * 4 + t % 4 = t by omega] at h2
    rw [h2, Array.getElem?_toList, Array.getElem?_eq_getElem (by simpa using ht)]
    have h3 := get_flatK lnC 4 us.toArray t (by simpa using ht)
    rw [getElem!_pos _ t (by simpa using ht)] at h3
    rw [h3]
    simp
  · rw [List.getElem?_eq_none (by simp; omega), List.getElem?_eq_none (by rw [flat_len lnC_len]; omega)]
theorem holdsL9 {w : World} {g : Nat} {us : List (Lm × Sv)} (h : ∀ j, j < us.length * 4 → w.cell? ⟨g, j, none⟩ = (us.flatMap lnC)[j]? ∧ w.frozen? ⟨g, j, none⟩ = false) : HoldsK lnC 4 w g 0 us.toArray := by
  intro j hj
  have hj' : j < us.length * 4 := by simpa using hj
  obtain ⟨h1, h2⟩ := h j hj'
  rw [Nat.zero_add]
  refine ⟨?_, h2⟩
  rw [h1, ← flatL9, Array.getElem?_toList, Array.getElem?_eq_getElem hj, getElem!_pos _ j hj]
  rfl
theorem heap_sortedL9 {w : World} {g n : Nat} {os : Array Obj} {cur : Array Value} {e : TypeId} {fr : Nat × Nat} (d : Array Value) (hb : w.heap[g]? = some (.cells cur e fr)) :
    (grow (putRow id (Sort.ahead w n) g 0 d) os).heap[g]? = some (.cells (putCells id 0 d cur) e fr) := by
  have hg : g < w.heap.size := (Array.getElem?_eq_some_iff.1 hb).1
  rw [heap_grow_old _ _ (by simpa using hg)]
  simp [putRow, mapBlock, Sort.ahead, Array.getElem?_modify, hb, onCells]
theorem grownBy_sortedL9 {w : World} {g n : Nat} {os : Array Obj} (d : Array Value) : w.grownBy (grow (putRow id (Sort.ahead w n) g 0 d) os) (some g) := by
  refine ⟨rfl, rfl, rfl, by simp, fun k hk hne => ?_⟩
  rw [heap_grow_old _ _ (by simpa using hk)]
  have : g ≠ k := fun e => hne (by rw [e])
  simp [putRow, mapBlock, Sort.ahead, Array.getElem?_modify, this]
theorem take_putCellsL9 (cur : Array Value) (d : Array Value) (h : d.size ≤ cur.size) : (putCells id 0 d cur).toList.take d.size = d.toList := by
  apply List.ext_getElem?
  intro j
  by_cases hj : j < d.size
  · rw [List.getElem?_take_of_lt hj, Array.getElem?_toList]
    simp [putCells, hj, show j < cur.size by omega]
  · rw [List.getElem?_take_eq_none (by omega), List.getElem?_eq_none (by simp; omega)]
def SortPostL (sa : Option Addr) (c : Nat) (us : List (Lm × Sv)) (w : World) (e : Ending) (w' : World) : Prop :=
  e = .returned (.tuple #[]) ∧ ∃ ts : List (Lm × Sv), ts.Perm us ∧ ts.Pairwise (fun x y => ¬ y.1.ad < x.1.ad) ∧ w'.ownsRow 0 35 4 (.slice sa us.length c) us.length (ts.flatMap lnC) ∧ w.grownBy w' (Value.slice sa us.length c).ownBlock
theorem sortLine_any {sa : Option Addr} {c : Nat} {us : List (Lm × Sv)} (hx : us.length ≤ 1000000) (w : World) (hr : w.ownsRow 0 35 4 (.slice sa us.length c) us.length (us.flatMap lnC)) :
    Calls Try.prog 48 #[.slice sa us.length c, .func (.func 49) #[] #[]] w (SortPostL sa c us w) := by
  have hr0 := hr
  rcases hr.2 with ⟨h2, h3⟩ | ⟨g, cap, cur, hv, hg, hb, h1, h2, h3, h4⟩
  · injection h2 with e1 e2 e3
    have hxs : us = [] := List.length_eq_zero_iff.1 e2
    subst hxs e1 e3
    have h : Calls Try.prog 48 #[.slice none 0 0, .func (.func 49) #[] #[]] w (fun e w' => e = .returned (.tuple #[]) ∧ w' = w) :=
      AnyF.slices_SortFunc_none Try.sortLine none 0 _ w
    refine h.mono ?_
    rintro e w' ⟨rfl, rfl⟩
    exact ⟨rfl, [], List.Perm.refl _, .nil, hr0, rfl, rfl, rfl, Nat.le_refl _, fun _ _ _ => rfl⟩
  · injection hv with e1 e2 e3
    subst e1 e3
    have eg : ∀ args w, (callFunc 49 args).run Try.prog w = .ok (.enter 49 args) w := fun _ _ => rfl
    have hcells : ∀ j, j < us.length * 4 → w.cell? ⟨g, j, none⟩ = (us.flatMap lnC)[j]? ∧ w.frozen? ⟨g, j, none⟩ = false := fun j hj => ⟨World.ownsRow.cellAt hr j hj, Blk.free (show Blk w g cur 35 from hb) _⟩
    have hcon := AnyQ.slices_SortFunc Try.sortLine 4 (fun w => by kernel_rfl) (fun w => by kernel_rfl) lnC lnC_len (fun x v hv => by simp [lnC] at hv; rcases hv with rfl | rfl | rfl | rfl <;> rfl) cmpL swoL 49 #[] g 0 c us.toArray w eg
      (fun m os dk hs x y => closeL x y _) (holdsL9 hcells) (Array.getElem?_eq_some_iff.1 hb).1 (by simp; omega)
    rw [List.size_toArray] at hcon
    refine Calls.mono (show Calls Try.prog 48 _ w _ from hcon) ?_
    rintro e w' ⟨rfl, d', n, os, hP, hSo, rfl⟩
    obtain ⟨hsz, _, hperm⟩ := hP
    have hsz' : d'.size = us.length := by simpa using hsz
    have e1 : d'.extract 0 us.length = d' := by rw [← hsz']; exact Array.extract_size
    have hpl : d'.toList.Perm us := by
      have e2 : us.toArray.extract 0 us.length = us.toArray := by
        have := Array.extract_size (xs := us.toArray)
        rwa [List.size_toArray] at this
      rw [e1, e2] at hperm
      exact hperm
    obtain ⟨ts, hts⟩ : ∃ ts, ts = d'.toList := ⟨_, rfl⟩
    have hd : d' = ts.toArray := by rw [hts]
    subst hd
    have hsort : ts.Pairwise (fun x y => ¬ y.1.ad < x.1.ad) := by
      rw [List.pairwise_iff_getElem]
      intro i j hi hj hij
      have hi' : i < ts.toArray.size := by simpa using hi
      have hj' : j < ts.toArray.size := by simpa using hj
      have := hSo i j (Nat.zero_le _) hij (by rw [← hsz']; exact hj')
      rw [getElem!_pos ts.toArray j hj', getElem!_pos ts.toArray i hi', cmpL_f] at this
      simpa using this
    have hlen : ts.length = us.length := by simpa using hsz'
    have hw : sortWorldK lnC 4 w g 0 n ts.toArray os = grow (putRow id (Sort.ahead w n) g 0 (flatK lnC 4 ts.toArray)) os := rfl
    rw [hw]
    refine ⟨rfl, ts, by simpa using hpl, hsort, ⟨?_, .inr ⟨g, c, _, rfl, Nat.zero_le _, heap_sortedL9 _ hb, h1, h2, by simp [putCells, h3], ?_⟩⟩, grownBy_sortedL9 _⟩
    · rw [flat_len lnC_len, hlen]
    · have h5 := take_putCellsL9 cur (flatK lnC 4 ts.toArray) (by simp only [size_flatK, List.size_toArray]; rw [h3, hlen]; exact Nat.mul_le_mul_right _ h1)
      rw [flatL9] at h5
      rw [← h5, size_flatK, List.size_toArray, hlen]
end Go.Proofs.Ytfmcicmbehjdcaa
