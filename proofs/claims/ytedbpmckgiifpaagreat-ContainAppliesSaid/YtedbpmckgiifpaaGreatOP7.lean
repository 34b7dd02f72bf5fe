/- Package owner: Fork. -/
import Derived.Test.YtedbpmckgiifpaaGreatOP6
import Derived.Test.YtedbpmckgiifpaaGreatJ6
namespace Go.Proofs.YtedbpmckgiifpaaGreat
set_option linter.unusedSimpArgs false
set_option linter.unusedVariables false
open Go.RowKit
set_option maxRecDepth 100000
attribute [local go_sem] lt_more ne_more ne_more'
attribute [local irreducible] wpX wpF Calls

def shr (x : Pg) : Pg := { x with s := true }
theorem HS.shutB {D : Nat → Prop} {W w : World} {L : List Item} {rs : List Pv} {i : Nat} (q : Pv) (h : HS D W (L ++ [pagesR q, toldR q, Item.many (restB rs i)]) w) (hi : i < rs.length) : HS D W (L ++ [Item.many ((rs.set i q).flatMap innerR)]) w := by
  have h1 : HS D W ((L ++ [pagesR q, toldR q]) ++ [Item.many (restB rs i)]) w := by simpa using h
  have h2 := h1.ofMany
  have h3 : HS D W (L ++ (pagesR q :: toldR q :: restB rs i)) w := by simpa using h2
  exact (h3.permu ((inner_set_permB hi q).symm.append_left _)).toMany inner_low
theorem pos_pr {qs : List Pv} {o : Int} (hs : qs.Pairwise (·.p.id < ·.p.id)) {i : Nat} (h0 : i ≤ qs.length) (h1 : ∀ k, k < i → (qs[k]!).p.id < o) (h2 : ∀ k, i ≤ k → k < qs.length → o ≤ (qs[k]!).p.id) : decide (i < qs.length ∧ (qs[i]!).p.id = o) = (qs.map (·.p)).any (fun p => decide (p.id = o)) := by
  rw [Bool.eq_iff_iff, decide_eq_true_eq, List.any_eq_true]
  constructor
  · rintro ⟨a, b⟩
    exact ⟨_, List.mem_map.2 ⟨_, mem_at a, rfl⟩, decide_eq_true b⟩
  · rintro ⟨x, hx, h⟩
    obtain ⟨q, hq, rfl⟩ := List.mem_map.1 hx
    obtain ⟨m, hm, rfl⟩ := List.getElem_of_mem hq
    have h := of_decide_eq_true h
    rw [← getElem!_pos qs m hm] at h
    have hmi : i ≤ m := by
      refine Nat.le_of_not_lt fun hlt => ?_
      have := h1 m hlt; omega
    have hlt : i < qs.length := by omega
    refine ⟨hlt, ?_⟩
    rcases Nat.lt_or_eq_of_le hmi with h4 | rfl
    · have h5 := List.pairwise_iff_getElem.1 hs i m hlt hm h4
      rw [← getElem!_pos qs m hm, ← getElem!_pos qs i hlt] at h5
      have := h2 i (Nat.le_refl _) hlt
      omega
    · exact h
end Go.Proofs.YtedbpmckgiifpaaGreat
