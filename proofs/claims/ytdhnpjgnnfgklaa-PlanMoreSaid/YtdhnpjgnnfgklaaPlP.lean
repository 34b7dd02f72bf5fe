/- Plan (chapter 39): the order of ranks (plan.compare), slices.SortFunc at places of one's own. -/
import Derived.Test.YtdhnpjgnnfgklaaPlO
import Derived.Shelf.SlSortCmp.NoneTotal
import Derived.Ground.SlsfProg
import Derived.StillTailTactics
namespace Go.Proofs
open Go.Shelf
shelf_lay_g SlLaysF0.n6 Slsf 6 at Try 26 as Try.sortPl
end Go.Proofs
namespace Go.Proofs.Ytdhnpjgnnfgklaa
set_option linter.unusedSimpArgs false
set_option linter.unusedVariables false
open Go.RowKit
set_option maxRecDepth 100000
attribute [local irreducible] wpX wpF Calls
attribute [local go_sem] run_mkMapG
open Go.Sort Go.Lib
def orI (x y z : Int) : Int := if x ≠ 0 then x else if y ≠ 0 then y else z
def cmpR (x y : P6) : Int := orI (compareInt x.a y.a) (compareInt x.b y.b) (compareInt x.c y.c)
theorem orI_any (x y z : Int) (b : Nat) (w : World) (hc : ∀ o, w.cell? ⟨b, o, none⟩ = #[Value.int .i64 x, .int .i64 y, .int .i64 z][o]?) :
    Calls Try.prog 50 #[.slice (some ⟨b, 0, none⟩) 3 3] w (fun e w' => e = .returned (.int .i64 (orI x y z)) ∧ w' = w) := by
  go_enter Try.func50, Try.ntmps50
  have H := HS.start NoD w
  clear H
  go_wp2_with fail
  go_loopw [8] (fun j wr => ∃ (k : Nat), j = .int .i64 k ∧ k ≤ 3 ∧ (0 < k → x = 0) ∧ (1 < k → y = 0) ∧ (2 < k → z = 0) ∧ wr = w) (fun j _ => 3 - (intOf j).toNat)
  case atStart => exact ⟨0, rfl, by omega, fun h => by omega, fun h => by omega, fun h => by omega, rfl⟩
  case round =>
    obtain ⟨k, rfl, hk, h1, h2, h3, rfl⟩ := hrel
    by_cases e0 : k = 0
    · subst e0
      by_cases hx : x = 0
      · subst hx
        go_wp2_with fail
        go_roundw
        case rel => exact ⟨1, by go_num, by omega, by simp, fun h => by omega, fun h => by omega, trivial⟩
        case measure => simp [intOf]
      · have hxb : (x != 0) = true := bne_iff_ne.2 hx
        go_wp2_with fail
        go_ret
        exact ⟨by unfold orI; rw [if_pos hx]; rfl, rfl⟩
    · by_cases e1 : k = 1
      · subst e1
        by_cases hy : y = 0
        · subst hy
          have hx := h1 (by omega)
          go_wp2_with fail
          go_roundw
          case rel => exact ⟨2, by go_num, by omega, fun _ => hx, by simp, fun h => by omega, trivial⟩
          case measure => simp [intOf]
        · have hyb : (y != 0) = true := bne_iff_ne.2 hy
          have hx := h1 (by omega)
          go_wp2_with fail
          go_ret
          exact ⟨by unfold orI; rw [if_neg (by simp [hx]), if_pos hy]; rfl, rfl⟩
      · by_cases e2 : k = 2
        · subst e2
          by_cases hz : z = 0
          · subst hz
            have hx := h1 (by omega)
            have hy := h2 (by omega)
            go_wp2_with fail
            go_roundw
            case rel => exact ⟨3, by go_num, by omega, fun _ => hx, fun h => hy, by simp, trivial⟩
            case measure => simp [intOf]
          · have hzb : (z != 0) = true := bne_iff_ne.2 hz
            have hx := h1 (by omega)
            have hy := h2 (by omega)
            go_wp2_with fail
            go_ret
            exact ⟨by unfold orI; rw [if_neg (by simp [hx]), if_neg (by simp [hy])]; rfl, rfl⟩
        · obtain rfl : k = 3 := by omega
          have hx := h1 (by omega)
          have hy := h2 (by omega)
          have hz := h3 (by omega)
          go_wp2_with fail
          go_ret
          exact ⟨by unfold orI; rw [if_neg (by simp [hx]), if_neg (by simp [hy]), hz]; rfl, rfl⟩
set_option maxHeartbeats 4000000 in
theorem compare_ex (x y : P6) (W : World) : Calls Try.prog 27 #[.agg (pC x).toArray, .agg (pC y).toArray] W fun e w' => e = .returned (.int .i64 (cmpR x y)) ∧ ∃ q os', w' = grow (W.drewN q) os' := by
  obtain ⟨a, b, c, d, e, f⟩ := x
  obtain ⟨a', b', c', d', e', f'⟩ := y
  have C1 := Lib.hid (fun W' => (show Calls Try.prog 51 #[.int .i64 a, .int .i64 a'] W' (fun e w' => e = .returned (.int .i64 (compareInt a a')) ∧ w' = W') from AnyG.cmp_Compare_int Try.cmpInt a a' W'))
  have C2 := Lib.hid (fun W' => (show Calls Try.prog 51 #[.int .i64 b, .int .i64 b'] W' (fun e w' => e = .returned (.int .i64 (compareInt b b')) ∧ w' = W') from AnyG.cmp_Compare_int Try.cmpInt b b' W'))
  have C3 := Lib.hid (fun W' => (show Calls Try.prog 51 #[.int .i64 c, .int .i64 c'] W' (fun e w' => e = .returned (.int .i64 (compareInt c c')) ∧ w' = W') from AnyG.cmp_Compare_int Try.cmpInt c c' W'))
  show Calls Try.prog 27 #[v6 a b c d e f, v6 a' b' c' d' e' f'] W fun e w' => e = .returned (.int .i64 (orI (compareInt a a') (compareInt b b') (compareInt c c'))) ∧ ∃ q os', w' = grow (W.drewN q) os'
  generalize compareInt a a' = x at C1 ⊢
  generalize compareInt b b' = y at C2 ⊢
  generalize compareInt c c' = z at C3 ⊢
  go_enter Try.func27, Try.ntmps27
  go_upto_region 1 with fail
  generalize hw2 : World.alloc _ _ = w2
  have H := HS.eqW hw2 (HS.start NoD W).alloc.alloc
  simp only [World.size_alloc, List.nil_append, List.cons_append] at H
  have C := H.cells
  simp only [cellsOf, cellsM, apartOf, apartM, and_true] at C
  obtain ⟨d1, -, -, -, -, -, d2, -⟩ := C
  clear H
  go_still_tail 15, (by kernel_rfl)
  still_call (C1.out _)
  repeat still_step
  still_call (C2.out _)
  repeat still_step
  still_call (C3.out _)
  repeat still_step
  try refine wpStill_nil ?_
  change wpList _ _ _ _ _ w2.drew
  clear d1 d2 C1 C2 C3
  generalize hw3 : w2.drew = w3
  go_wp2_with fail
  refine (orI_any x y z _ _ (fun o => by simp)).mono ?_
  rintro _ _ ⟨rfl, rfl⟩
  go_wp2_with fail
  go_ret
  have e : ∀ (A B E : Obj), World.alloc (World.drew (World.alloc (World.alloc W A) B)) E = grow (grow (grow (W.drewN 1) #[A]) #[B]) #[E] := fun A B E => by simp only [alloc_eq_grow]; rfl
  exact ⟨rfl, 1, _, by rw [← hw3, ← hw2, e, grow_grow, grow_grow]⟩
theorem cmpR_lt (x y : P6) : (ltOf cmpR) x y = true ↔ befP x y = true := by
  unfold ltOf
  rw [decide_eq_true_iff, befP_iff]
  unfold cmpR orI compareInt
  by_cases h1 : x.a < y.a
  · simp [h1]
  · by_cases h2 : y.a < x.a
    · have : ¬ x.a = y.a := by omega
      simp [h1, h2, this]
    · have e : x.a = y.a := by omega
      by_cases h3 : x.b < y.b
      · simp [e, h3]
      · by_cases h4 : y.b < x.b
        · have : ¬ x.b = y.b := by omega
          simp [e, h3, h4, this]
        · have e2 : x.b = y.b := by omega
          by_cases h5 : x.c < y.c
          · simp [e, e2, h5]
          · by_cases h6 : y.c < x.c <;> simp [e, e2, h5, h6]
theorem cmpR_f (x y : P6) : (ltOf cmpR) x y = false ↔ befP x y = false := by
  rw [← Bool.not_eq_true, ← Bool.not_eq_true, cmpR_lt]
theorem swoP : SWO (ltOf cmpR) where
  irrefl x := by rw [cmpR_f, befP_irrefl]
  trans x y z h1 h2 := by rw [cmpR_lt] at *; exact befP_trans h1 h2
  ntrans x y z h1 h2 := by
    rw [cmpR_f] at *
    rw [← Bool.not_eq_true, befP_iff] at *
    omega
theorem flatP9 (us : List P6) : (flatK pC 6 us.toArray).toList = us.flatMap pC := by
  apply List.ext_getElem?
  intro t
  by_cases ht : t < us.length * 6
  · have h1 : t / 6 < us.length := by omega
    have h2 := flat_get pC_len us (t / 6) (t % 6) ((pC us[t / 6]!)[t % 6]!) h1 (by
      have : t % 6 = 0 ∨ t % 6 = 1 ∨ t % 6 = 2 ∨ t % 6 = 3 ∨ t % 6 = 4 ∨ t % 6 = 5 := by omega
      rcases this with e | e | e | e | e | e <;> rw [e] <;> rfl)
    rw [show t / 6 * 6 + t % 6 = t by omega] at h2
    rw [h2, Array.getElem?_toList, Array.getElem?_eq_getElem (by simpa using ht)]
    have h3 := get_flatK pC 6 us.toArray t (by simpa using ht)
    rw [getElem!_pos _ t (by simpa using ht)] at h3
    rw [h3]
    simp
  · rw [List.getElem?_eq_none (by simp; omega), List.getElem?_eq_none (by rw [flat_len pC_len]; omega)]
theorem holdsP9 {w : World} {g : Nat} {us : List P6} (h : ∀ j, j < us.length * 6 → w.cell? ⟨g, j, none⟩ = (us.flatMap pC)[j]? ∧ w.frozen? ⟨g, j, none⟩ = false) : HoldsK pC 6 w g 0 us.toArray := by
  intro j hj
  have hj' : j < us.length * 6 := by simpa using hj
  obtain ⟨h1, h2⟩ := h j hj'
  rw [Nat.zero_add]
  refine ⟨?_, h2⟩
  rw [h1, ← flatP9, Array.getElem?_toList, Array.getElem?_eq_getElem hj, getElem!_pos _ j hj]
  rfl
theorem heap_sortedP9 {w : World} {g n : Nat} {os : Array Obj} {cur : Array Value} {e : TypeId} {fr : Nat × Nat} (d : Array Value) (hb : w.heap[g]? = some (.cells cur e fr)) :
    (grow (putRow id (Sort.ahead w n) g 0 d) os).heap[g]? = some (.cells (putCells id 0 d cur) e fr) := by
  have hg : g < w.heap.size := (Array.getElem?_eq_some_iff.1 hb).1
  rw [heap_grow_old _ _ (by simpa using hg)]
  simp [putRow, mapBlock, Sort.ahead, Array.getElem?_modify, hb, onCells]
theorem grownBy_sortedP9 {w : World} {g n : Nat} {os : Array Obj} (d : Array Value) : w.grownBy (grow (putRow id (Sort.ahead w n) g 0 d) os) (some g) := by
  refine ⟨rfl, rfl, rfl, by simp, fun k hk hne => ?_⟩
  rw [heap_grow_old _ _ (by simpa using hk)]
  have : g ≠ k := fun e => hne (by rw [e])
  simp [putRow, mapBlock, Sort.ahead, Array.getElem?_modify, this]
theorem take_putCellsP9 (cur : Array Value) (d : Array Value) (h : d.size ≤ cur.size) : (putCells id 0 d cur).toList.take d.size = d.toList := by
  apply List.ext_getElem?
  intro j
  by_cases hj : j < d.size
  · rw [List.getElem?_take_of_lt hj, Array.getElem?_toList]
    simp [putCells, hj, show j < cur.size by omega]
  · rw [List.getElem?_take_eq_none (by omega), List.getElem?_eq_none (by simp; omega)]
def SortPostP (sa : Option Addr) (c : Nat) (us : List P6) (w : World) (e : Ending) (w' : World) : Prop :=
  e = .returned (.tuple #[]) ∧ ∃ ts : List P6, ts.Perm us ∧ ts.Pairwise (fun x y => befP y x = false) ∧ w'.ownsRow 0 39 6 (.slice sa us.length c) us.length (ts.flatMap pC) ∧ w.grownBy w' (Value.slice sa us.length c).ownBlock
theorem sortPl_any {sa : Option Addr} {c : Nat} {us : List P6} (hx : us.length ≤ 1000000) (w : World) (hr : w.ownsRow 0 39 6 (.slice sa us.length c) us.length (us.flatMap pC)) :
    Calls Try.prog 26 #[.slice sa us.length c, .func (.func 27) #[] #[]] w (SortPostP sa c us w) := by
  have hr0 := hr
  rcases hr.2 with ⟨h2, h3⟩ | ⟨g, cap, cur, hv, hg, hb, h1, h2, h3, h4⟩
  · injection h2 with e1 e2 e3
    have hxs : us = [] := List.length_eq_zero_iff.1 e2
    subst hxs e1 e3
    have h : Calls Try.prog 26 #[.slice none 0 0, .func (.func 27) #[] #[]] w (fun e w' => e = .returned (.tuple #[]) ∧ w' = w) :=
      AnyF.slices_SortFunc_none Try.sortPl none 0 _ w
    refine h.mono ?_
    rintro e w' ⟨rfl, rfl⟩
    exact ⟨rfl, [], List.Perm.refl _, .nil, hr0, rfl, rfl, rfl, Nat.le_refl _, fun _ _ _ => rfl⟩
  · injection hv with e1 e2 e3
    subst e1 e3
    have eg : ∀ args w, (callFunc 27 args).run Try.prog w = .ok (.enter 27 args) w := fun _ _ => rfl
    have hcells : ∀ j, j < us.length * 6 → w.cell? ⟨g, j, none⟩ = (us.flatMap pC)[j]? ∧ w.frozen? ⟨g, j, none⟩ = false := fun j hj => ⟨World.ownsRow.cellAt hr j hj, Blk.free (show Blk w g cur 39 from hb) _⟩
    have hcon := AnyQ.slices_SortFunc Try.sortPl 6 (fun w => by kernel_rfl) (fun w => by kernel_rfl) pC pC_len (fun x v hv => by simp [pC] at hv; rcases hv with rfl | rfl | rfl | rfl | rfl | rfl <;> rfl) cmpR swoP 27 #[] g 0 c us.toArray w eg
      (fun m os dk hs x y => compare_ex x y _) (holdsP9 hcells) (Array.getElem?_eq_some_iff.1 hb).1 (by simp; omega)
    rw [List.size_toArray] at hcon
    refine Calls.mono (show Calls Try.prog 26 _ w _ from hcon) ?_
    rintro e w' ⟨rfl, d', n, os, hP, hSo, rfl⟩
    obtain ⟨hsz, _, hperm⟩ := hP
    have hsz' : d'.size = us.length := by simpa using hsz
    have e1 : d'.extract 0 us.length = d' := by rw [← hsz']; exact Array.extract_size
    have hpl : d'.toList.Perm us := by
      have e2 : us.toArray.extract 0 us.length = us.toArray := by
        have := Array.extract_size (xs := us.toArray)
        rwa [List.size_toArray] at this
      rw [e1, e2] at hperm
      exact hperm
    obtain ⟨ts, hts⟩ : ∃ ts, ts = d'.toList := ⟨_, rfl⟩
    have hd : d' = ts.toArray := by rw [hts]
    subst hd
    have hsort : ts.Pairwise (fun x y => befP y x = false) := by
      rw [List.pairwise_iff_getElem]
      intro i j hi hj hij
      have hi' : i < ts.toArray.size := by simpa using hi
      have hj' : j < ts.toArray.size := by simpa using hj
      have := hSo i j (Nat.zero_le _) hij (by rw [← hsz']; exact hj')
      rw [getElem!_pos ts.toArray j hj', getElem!_pos ts.toArray i hi', cmpR_f] at this
      simpa using this
    have hlen : ts.length = us.length := by simpa using hsz'
    have hw : sortWorldK pC 6 w g 0 n ts.toArray os = grow (putRow id (Sort.ahead w n) g 0 (flatK pC 6 ts.toArray)) os := rfl
    rw [hw]
    refine ⟨rfl, ts, by simpa using hpl, hsort, ⟨?_, .inr ⟨g, c, _, rfl, Nat.zero_le _, heap_sortedP9 _ hb, h1, h2, by simp [putCells, h3], ?_⟩⟩, grownBy_sortedP9 _⟩
    · rw [flat_len pC_len, hlen]
    · have h5 := take_putCellsP9 cur (flatK pC 6 ts.toArray) (by simp only [size_flatK, List.size_toArray]; rw [h3, hlen]; exact Nat.mul_le_mul_right _ h1)
      rw [flatP9] at h5
      rw [← h5, size_flatK, List.size_toArray, hlen]
end Go.Proofs.Ytdhnpjgnnfgklaa
