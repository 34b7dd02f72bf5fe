/- A slice of one's own turned in place by a call (as RlN's and RlO's, for any seat). -/
import Derived.Test.YtfmcicmbehjdcaaK2
import Derived.Test.YtfmcicmbehjdcaaK1
namespace Go.Proofs.Ytfmcicmbehjdcaa
set_option linter.unusedSimpArgs false
set_option linter.unusedVariables false
open Go.RowKit
theorem HS.startOwn {w : World} {g n c k : Nat} {e : TypeId} {xs : List Value} (h : w.ownsRow 0 e k (.slice (some ⟨g, 0, none⟩) n c) n xs) : HS (OneD g) w [.row (.slice (some ⟨g, 0, none⟩) n c) e k n xs] w :=
  ⟨rfl, rfl, rfl, Nat.le_refl _, fun _ _ _ => rfl, fun A hA => (by cases List.mem_singleton.1 hA; exact h), fun A hA k hk => (by
    cases List.mem_singleton.1 hA
    have hk' : (Value.slice (some ⟨g, 0, none⟩) n c).ownBlock = some k := hk
    have h9 : g = k := by simpa [Value.ownBlock] using hk'
    exact .inr h9.symm),
   fun A hA => by cases List.mem_singleton.1 hA; exact ⟨Nat.zero_le _, fun k hk => absurd hk (Nat.not_lt_zero _)⟩, List.pairwise_singleton _ _⟩
/-- A call that turns a slice of one's own in place. -/
theorem HS.turnOwn {D : Nat → Prop} {W w w' : World} {L : List Item} (h : HS D W L w) (i : Nat) {g n n' c c' k : Nat} {e : TypeId} {xs ys : List Value} (hi : L[i]? = some (.row (.slice (some ⟨g, 0, none⟩) n c) e k n xs)) (K : HS (OneD g) w [.row (.slice (some ⟨g, 0, none⟩) n' c') e k n' ys] w') : HS D W (L.set i (.row (.slice (some ⟨g, 0, none⟩) n' c') e k n' ys)) w' := by
  have hg : Chg g w w' := K.doneDice
  have hv : (Value.slice (some ⟨g, 0, none⟩) n c).ownBlock = some g := rfl
  refine h.grownAt i hi ⟨hg.os, hg.tape, hg.output, hg.size, fun k hk hne => hg.block k hk (fun e => hne (by rw [hv, e]))⟩ (.inr ⟨K.at 0 rfl, fun k hk => .inl hk⟩)
end Go.Proofs.Ytfmcicmbehjdcaa
