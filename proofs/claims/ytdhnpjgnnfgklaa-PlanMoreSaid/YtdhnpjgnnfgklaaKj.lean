/- A region that draws its order: a call that hands back things of its own. -/
import Derived.Test.YtdhnpjgnnfgklaaK2
namespace Go.Proofs.Ytdhnpjgnnfgklaa
set_option linter.unusedSimpArgs false
set_option linter.unusedVariables false
open Go.RowKit

section
variable {P : Program} {ops : Array Oper} {St D : Nat → Prop} {W w0 : World} {F : Fl} {L R : List Item}
theorem ClH.joinDiceH {w w' : World} (h : ClH St D W w0 F L w) (hst : ∀ k, St k → k < w0.heap.size) (i : Nat) {B b : Nat} (hi : L[i]? = some (.dice B b)) (hX : ¬ St b) (K : HS (OneD b) w (.dice B b :: R) w') (h0 : ∀ A ∈ R, A.low = 0) : ClH St D W w0 F (L ++ R) w' ∧ KeepL L (L ++ R) w0 w w' := by
  have hg : Chg b w w' := K.doneDice
  have hd := List.pairwise_cons.1 K.dis
  have hmem : Item.dice B b ∈ L := List.mem_of_getElem? hi
  have fresh : ∀ Y ∈ R, ∀ k, Y.fp k → w.heap.size ≤ k := fun Y hY k hk => by
    rcases K.own Y (by simp [hY]) k hk with h | h
    · exact h
    · exact absurd hk (hd.1 Y hY k h)
  refine ⟨⟨fun k hk => (hg.block k (Nat.lt_of_lt_of_le (hst k hk) h.size) (fun e => hX (e ▸ hk))).trans (h.same k hk), h.hs.joinDice i hi K h0, Nat.le_trans h.size hg.size, fun c x hx => ?_⟩, fun k _ hk hn => hg.block k hk (fun e => hn _ hmem e), fun A hA k hk => ?_⟩
  · obtain ⟨g1, g2, g3⟩ := h.laid c x hx
    refine ⟨g1, g2.chg hg (fun e => g3 _ hmem e), fun A hA hf => ?_⟩
    rcases List.mem_append.1 hA with hA | hA
    · exact g3 A hA hf
    · have h1 := fresh A hA c hf
      have h2 := g2.lt
      omega
  · rcases List.mem_append.1 hA with hA | hA
    · exact .inl ⟨A, hA, hk⟩
    · exact .inr (fresh A hA k hk)
theorem one_low {A : Item} (h : A.low = 0) : ∀ X ∈ [A], X.low = 0 := fun X hX => by cases List.mem_singleton.1 hX; exact h
end
end Go.Proofs.Ytdhnpjgnnfgklaa
