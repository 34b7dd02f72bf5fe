/- reload.owned, reload.Copy: copies that share nothing. -/
import Derived.Test.YtfmcicmbehjdcaaRlA
import Derived.Test.YtfmcicmbehjdcaaKj
namespace Go.Proofs.Ytfmcicmbehjdcaa
set_option linter.unusedSimpArgs false
set_option linter.unusedVariables false
open Go.RowKit
set_option maxRecDepth 100000
attribute [local irreducible] wpX wpF Calls

theorem sv_map (xs : List Sv) : xs.flatMap svC = xs.map Sv.v := by induction xs with
  | nil => rfl
  | cons x xs ih => rw [List.flatMap_cons, ih]; rfl
theorem sv_set (xs : List Sv) (j : Nat) (x : Sv) : (xs.flatMap svC).set j x.v = (xs.set j x).flatMap svC := by rw [sv_map, sv_map, List.map_set]
theorem mid_set {α : Type} [Inhabited α] {vs ys : List α} {j : Nat} (hj : j < vs.length) (hy : ys.length = j) (x : α) : (ys ++ vs.drop j).set j x = ys ++ [x] ++ vs.drop (j + 1) := by
  subst hy
  rw [List.set_append_right _ _ (Nat.le_refl _), Nat.sub_self, List.drop_eq_getElem_cons hj, List.set_cons_zero]
  simp
theorem mid_get {α : Type} [Inhabited α] {vs ys : List α} {j : Nat} (hj : j < vs.length) (hy : ys.length = j) : (ys ++ vs.drop j)[j]! = vs[j]! := by
  subst hy
  rw [getElem!_pos (ys ++ vs.drop ys.length) ys.length (by rw [List.length_append, List.length_drop]; omega), getElem!_pos vs ys.length hj, List.getElem_append_right (Nat.le_refl _)]
  simp
theorem app_get1 {α : Type} [Inhabited α] {l : List α} {i : Nat} (h : i < l.length) (k : List α) : (l ++ k)[i]! = l[i]! := by
  rw [getElem!_pos _ _ (by simp; omega), getElem!_pos l i h, List.getElem_append_left h]
theorem app_get2 {α : Type} [Inhabited α] (l : List α) (x : α) : (l ++ [x])[l.length]! = x := by
  rw [getElem!_pos _ _ (by simp)]; simp
section
variable {D : Nat → Prop} {W w : World} {L : List Item}
/-- Words that nobody writes to any more. -/
theorem HS.wordsOf {F : Nat → Prop} {ys : List Sv} {ws : List (List Int)} {s : Option Addr} {n c : Nat} (h : HS D W (L ++ [.any F (fun w => ∀ i, i < ws.length → BytesAt w ys[i]! ws[i]!), .row (.slice s n c) 33 1 n (ys.flatMap svC)]) w) (hn : n = ys.length) (hl : ys.length = ws.length) : HS D W (L ++ [.any (fun k => F k ∨ (Value.slice s n c).ownBlock = some k) (fun w => WordsAt w ⟨s, n, c⟩ ws)]) w := by
  have h1 := HS.anyOf (L := L ++ [.any F (fun w => ∀ i, i < ws.length → BytesAt w ys[i]! ws[i]!)]) (A := .row (.slice s n c) 33 1 n (ys.flatMap svC)) (by rwa [List.append_assoc]) rfl
  rw [List.append_assoc] at h1
  have h2 := HS.merge (L := L) h1
  refine HS.weak h2 fun w' ⟨k1, k2⟩ => ?_
  have hr : w'.ownsRow 0 33 1 (.slice s n c) n (ys.flatMap svC) := k2
  subst hn
  exact ⟨ys, hl, rfl, row_capOk hr, ownsRow_lies svC_len rfl hr, k1⟩
end
/-- A call that hands back a blob that shares nothing. -/
def GivesBlob (b : Bm) (w : World) (e : Ending) (w' : World) : Prop := ∃ (q : Bv) (F : Nat → Prop), e = .returned (vBv q) ∧ HS NoD w [.any F (fun w => BlobAt w q b)] w'
def SmallB (b : Bm) : Prop := b.ws.length ≤ 1000 ∧ ∀ j, j < b.ws.length → (b.ws[j]!).length ≤ 1000
end Go.Proofs.Ytfmcicmbehjdcaa
