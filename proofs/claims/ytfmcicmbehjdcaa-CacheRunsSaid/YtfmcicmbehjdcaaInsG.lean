/- What slices.Insert needs at any kind of element: copy, cells stored one after the other. -/
import Derived.Test.YtfmcicmbehjdcaaK1
import Derived.Test.YtfmcicmbehjdcaaK2
import Derived.Shelf.Spec.SlicesInsert
import Derived.Lib.AppendZerosOnto
namespace Go.Proofs.Ytfmcicmbehjdcaa
set_option linter.unusedSimpArgs false
set_option linter.unusedVariables false
open Go.RowKit
set_option maxRecDepth 100000

/-- 'copy' of elements of any size. -/
theorem run_copy_sized {P : Program} (w : World) (dT sT ty elem : TypeId) (k b o dLen dCap : Nat) (a : Addr) (sLen sCap : Nat) (cs : List Value)
    (hu : P.underlying dT = some (.slice elem)) {i : TypeInfo} (hi : P.info? elem = some i) (hs : i.size = k) (hn : cs.length = Nat.min sLen dLen * k)
    (hsrc : ∀ j v, cs[j]? = some v → w.cell? (a.add j) = some v) (hc : ∀ j, j < cs.length → (w.cell? ⟨b, o + j, none⟩).isSome = true) (hf : ∀ j, j < cs.length → w.frozen? ⟨b, o + j, none⟩ = false) (h1 : ∀ v ∈ cs, v.oneCell' = true) :
    (Builtin.copy_ #[dT, sT] ty #[.slice (some ⟨b, o, none⟩) dLen dCap, .slice (some a) sLen sCap]).run P w = .ok (goInt (Nat.min sLen dLen)) (w.setCells b o cs) := by
  have hl := run_loadCells_list (P := P) w a cs hsrc
  have hst := run_storeCells_cells (P := P) b o cs 0 w (by simpa using hc) (by simpa using hf) h1
  simp [Builtin.copy_, run_underlying hu, Builtin.lenOf, Builtin.firstCells, sizeOf, typeInfo, hi, hs, ← hn, hl, hst]
theorem Blk.setCells {b : Nat} {t : TypeId} : ∀ (vs : List Value) (o : Nat) {w : World} {cs : Array Value}, Blk w b cs t → o + vs.length ≤ cs.size → ∃ cs', Blk (w.setCells b o vs) b cs' t ∧ cs'.toList = cs.toList.take o ++ vs ++ cs.toList.drop (o + vs.length)
  | [], o, w, cs, h, _ => ⟨cs, h, by simp⟩
  | v :: r, o, w, cs, h, hl => by
    obtain ⟨cs', h1, h2⟩ := Blk.setCells r (o + 1) (h.set o v) (by simp at hl ⊢; omega)
    refine ⟨cs', h1, ?_⟩
    have ho : o < cs.toList.length := by simp at hl ⊢; omega
    rw [h2, Array.toList_setIfInBounds]
    have e1 : (cs.toList.set o v).take (o + 1) = cs.toList.take o ++ [v] := by
      rw [List.take_add_one, List.take_set_of_le (Nat.le_refl _), List.getElem?_set_self ho]; rfl
    have e2 : (cs.toList.set o v).drop (o + 1 + r.length) = cs.toList.drop (o + 1 + r.length) := by
      rw [List.drop_set_of_lt (by omega)]
    rw [e1, e2, List.length_cons, show o + 1 + r.length = o + (r.length + 1) by omega]
    simp
theorem below_cells {b : Nat} : ∀ (vs : List Value) (o : Nat) (w : World), (w.setCells b o vs).os = w.os ∧ (w.setCells b o vs).tape = w.tape ∧ (w.setCells b o vs).output = w.output ∧ (w.setCells b o vs).heap.size = w.heap.size ∧ ∀ k, k ≠ b → (w.setCells b o vs).heap[k]? = w.heap[k]?
  | [], _, _ => ⟨rfl, rfl, rfl, rfl, fun _ _ => rfl⟩
  | v :: r, o, w => by
    obtain ⟨h1, h2, h3, h4, h5⟩ := below_cells r (o + 1) (w.setCell ⟨b, o, none⟩ v)
    exact ⟨h1, h2, h3, h4.trans (by simp [World.setCell]), fun k hk => (h5 k hk).trans (Below.heap_setCell _ _ _ _ hk)⟩
/-- A slice of one's own has grown, in place or anew. -/
def GrewPost (v : Value) (e : TypeId) (k n : Nat) (ys : List Value) (w : World) (x : Ending) (w' : World) : Prop :=
  ∃ g cap, x = .returned (.slice (some ⟨g, 0, none⟩) n cap) ∧ w'.ownsRow 0 e k (.slice (some ⟨g, 0, none⟩) n cap) n ys ∧ w.grownBy w' v.ownBlock ∧ (v.ownBlock = some g ∨ g = w.heap.size)
theorem HS.grewAt {D : Nat → Prop} {W w w' : World} {L : List Item} (h : HS D W L w) (i : Nat) {v : Value} {e : TypeId} {s n n' g cap : Nat} {xs ys : List Value} (hi : L[i]? = some (.row v e s n xs)) (h2 : w'.ownsRow 0 e s (.slice (some ⟨g, 0, none⟩) n' cap) n' ys) (h3 : w.grownBy w' v.ownBlock) (h4 : v.ownBlock = some g ∨ g = w.heap.size) :
    HS D W (L.set i (.row (.slice (some ⟨g, 0, none⟩) n' cap) e s n' ys)) w' := grown_row h i hi h2 h3 h4

end Go.Proofs.Ytfmcicmbehjdcaa
