/- slices.Sort and slices.Compact at ints of one's own. -/
import Derived.Test.YtedbpmckgiifpaaGreatFrLaw
import Derived.Shelf.Lay
import Derived.Shelf.Sort.Plain
import Derived.Shelf.Slices.In.SortNone
import Derived.Sort.OwnSortedInts
namespace Go.Proofs
open Go.Shelf
shelf_lay Lays.n189 Nm 189 at Tryz as Tryz.lays189
end Go.Proofs
namespace Go.Proofs.YtedbpmckgiifpaaGreat
set_option linter.unusedSimpArgs false
set_option linter.unusedVariables false
open Go.RowKit Go.Sort
set_option maxRecDepth 100000
attribute [local go_sem] lt_more ne_more ne_more'
attribute [local irreducible] wpX wpF Calls

def sortI (xs : List Int) : List Int := xs.mergeSort fun x y => decide (x ≤ y)
theorem sortI_perm (xs : List Int) : (sortI xs).Perm xs := List.mergeSort_perm _ _
theorem sortI_le (xs : List Int) : (sortI xs).Pairwise (· ≤ ·) :=
  (List.pairwise_mergeSort (le := fun x y : Int => decide (x ≤ y)) (fun a b c h1 h2 => by simp at h1 h2 ⊢; omega) (fun a b => by simp; omega) xs).imp fun h => of_decide_eq_true h
def SortPost (sa : Option Addr) (c : Nat) (xs : List Int) (w : World) (e : Ending) (w' : World) : Prop :=
  e = .returned (.tuple #[]) ∧ w'.ownsRow 0 3 1 (.slice sa xs.length c) xs.length ((sortI xs).flatMap iC) ∧ w.grownBy w' (Value.slice sa xs.length c).ownBlock
theorem grownBy_self (w : World) (o : Option Nat) : w.grownBy w o := ⟨rfl, rfl, rfl, Nat.le_refl _, fun _ _ _ => rfl⟩
theorem osort_any {sa : Option Addr} {c : Nat} {xs : List Int} (hx : xs.length ≤ 1000) (w : World) (hr : w.ownsRow 0 3 1 (.slice sa xs.length c) xs.length (xs.flatMap iC)) :
    Calls Tryz.prog 83 #[.slice sa xs.length c] w (SortPost sa c xs w) := by
  have hr0 := hr
  rcases hr.2 with ⟨h2, h3⟩ | ⟨g, cap, cur, hv, hg, hb, h1, h2, h3, h4⟩
  · injection h2 with e1 e2 e3
    have hxs : xs = [] := List.length_eq_zero_iff.1 e2
    subst hxs e1 e3
    have h : Calls Tryz.prog 83 #[.slice none 0 0] w (fun e w' => e = .returned (.tuple #[]) ∧ w' = w) :=
      calls_of_every_depth fun D => AnyS.slices_Sort_int_none_alone Tryz.lays189 D none 0 w
    refine h.mono ?_
    rintro e w' ⟨rfl, rfl⟩
    exact ⟨rfl, by simpa [sortI] using hr0, grownBy_self _ _⟩
  · injection hv with e1 e2 e3
    subst e1 e3
    rw [iC_flat, Nat.mul_one] at h4
    have h := Any.slices_Sort_int Tryz.lays189 g 0 c xs w (holds_of_blockI hb h4) (Array.getElem?_eq_some_iff.1 hb).1 (by omega)
    refine Calls.mono (show Calls Tryz.prog 83 _ w _ from h) ?_
    rintro e w' ⟨rfl, n, os, rfl⟩
    refine ⟨rfl, ?_, grownBy_sortedI _⟩
    rw [iC_flat]
    exact ownsRow_sortedI (ss := xs) (by simp) (Nat.zero_le _) hb h1 h2 h3
theorem HS.sortAt {D : Nat → Prop} {W w w' : World} {L : List Item} (h : HS D W L w) (i : Nat) {sa : Option Addr} {c : Nat} {xs : List Int} (hi : L[i]? = some (.row (.slice sa xs.length c) 3 1 xs.length (xs.flatMap iC))) (hr : w'.ownsRow 0 3 1 (.slice sa xs.length c) xs.length ((sortI xs).flatMap iC)) (hg : w.grownBy w' (Value.slice sa xs.length c).ownBlock) :
    HS D W (L.set i (.row (.slice sa xs.length c) 3 1 xs.length ((sortI xs).flatMap iC))) w' :=
  h.grownAt i hi hg (.inr ⟨hr, fun k hk => .inl hk⟩)
set_option maxHeartbeats 4000000 in
theorem ocompact_any {sa : Option Addr} (c : Nat) {xs : List Int} (hx : xs.length ≤ 1000) (hs : xs.Pairwise (· < ·)) (w : World) (hl : Lies w w.heap.size sa 1 xs.length (fun j => iC xs[j]!)) :
    Calls Tryz.prog 84 #[.slice sa xs.length c] w (Gives (.slice sa xs.length c) w) := by
  have HL := Lib.hid hl
  have HSO := Lib.hid hs
  clear hl hs
  by_cases h2 : xs.length < 2
  · have h2i : (xs.length : Int) < 2 := by omega
    go_enter Tryz.func84, Tryz.ntmps84
    have H := HS.start NoD w
    go_wp2_with fail
    go_ret
    exact ⟨rfl, H.done⟩
  · have h2i : ¬ (xs.length : Int) < 2 := by omega
    go_enter Tryz.func84, Tryz.ntmps84
    have H := HS.start NoD w
    go_wp2_with fail
    go_loopw [3] (fun kk wr => ∃ (k : Nat), kk = .int .i64 k ∧ 1 ≤ k ∧ k ≤ xs.length ∧ HS NoD w [] wr) (fun kk _ => xs.length - (intOf kk).toNat)
    case atStart => exact ⟨1, rfl, Nat.le_refl _, by omega, H⟩
    case round =>
      clear H
      obtain ⟨k, rfl, hk1, hk, H⟩ := hrel
      skip
      try clear C
      try simp only [World.size_alloc, List.nil_append, List.cons_append, List.append_assoc] at H
      have C := H.cells
      try simp only [cellsOf, cellsM, apartOf, apartM, and_true] at C
      by_cases hlt : k < xs.length
      · obtain ⟨m, rfl⟩ : ∃ m, k = m + 1 := ⟨k - 1, by omega⟩
        have hlt2 := List.pairwise_iff_getElem.1 HSO.out m (m + 1) (by omega) hlt (by omega)
        rw [← getElem!_pos xs m (by omega), ← getElem!_pos xs (m + 1) hlt] at hlt2
        obtain ⟨b, o, e0, hb0, hc0⟩ := HL.out.at hlt
        subst e0
        clear hb0 hc0
        go_upto_region 6 with fail
        refine wp_region_xH (by kernel_rfl) (by kernel_rfl) (by kernel_rfl) (by kernel_rfl) (fun _ => False) (H) ?_
        clear H; intro w1 H hz0 hs0
        try clear C
        try simp only [World.size_alloc, List.nil_append, List.cons_append, List.append_assoc] at H hz0
        clear hz0
        try clear wr
        have C := H.cells
        try simp only [cellsOf, cellsM, apartOf, apartM, and_true] at C
        have Z := H.zs
        try simp only [ltsOf, ltsM, and_true] at Z
        have hz0 := Nat.le_refl w1.heap.size
        obtain ⟨b', o', e, hb, hc⟩ := (H.lies HL.out).at hlt
        obtain ⟨rfl, rfl⟩ : b = b' ∧ o = o' := by simpa using e
        obtain ⟨b', o', e', hb', hc'⟩ := (H.lies HL.out).at (show m < xs.length by omega)
        obtain ⟨rfl, rfl⟩ : b = b' ∧ o = o' := by simpa using e'
        have c0 : w1.cell? ⟨b, o + (m + 1), none⟩ = some (.int .i64 xs[m + 1]!) := by simpa using hc 0 _ rfl
        have c1 : w1.cell? ⟨b, o + m, none⟩ = some (.int .i64 xs[m]!) := by simpa using hc' 0 _ rfl
        generalize xs[m + 1]! = x1 at c0 hlt2
        generalize xs[m]! = x0 at c1 hlt2
        have hne : (x1 == x0) = false := by simp; omega
        have hbw : b < w1.heap.size := Nat.lt_of_lt_of_le hb H.size
        clear hc hc' e e'
        repeat (first | (refine wpX_skip rfl ?_; go_simp) | (refine wpX_free rfl rfl rfl (fun K hK => ?_); go_step; refine hK _ _ ?_; clear hK K) | (refine wpX_load rfl rfl rfl (by simp [Stay, OneD, NoD, *]) hs0 (by simp [*]) (fun K hK => ?_); go_step; refine hK _ _ ?_; clear hK K))
        (refine wpX_nil ?_; go_step)
        go_wp2_with fail
        go_roundw
        case rel => exact ⟨m + 2, by go_num, by omega, by omega, H⟩
        case measure => simp [intOf]; omega
      · go_wp2_with fail
        go_ret
        exact ⟨rfl, H.done⟩
end Go.Proofs.YtedbpmckgiifpaaGreat
