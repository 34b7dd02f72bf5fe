/- Things in memory that nobody writes to any more: one item for many, said by whatever they mean. Slices of bytes, slices of such slices. -/
import Derived.Test.YtfmcicmbehjdcaaMany
import Derived.Test.YtfmcicmbehjdcaaRowSet
namespace Go.Proofs.Ytfmcicmbehjdcaa
set_option linter.unusedSimpArgs false
set_option linter.unusedVariables false
open Go.RowKit

section
variable {D : Nat → Prop} {W w : World} {L : List Item}
/-- The last thing, said by what it means. -/
theorem HS.anyOf {A : Item} (h : HS D W (L ++ [A]) w) (hl : A.low = 0) : HS D W (L ++ [.any A.fp A.ok]) w := by
  have hd := List.pairwise_append.1 h.dis
  have hA : A.ok w := h.ok A (by simp)
  refine ⟨h.os, h.tape, h.output, h.size, h.old, fun X hX => ?_, fun X hX k hk => ?_, fun X hX => ?_, List.pairwise_append.2 ⟨hd.1, List.pairwise_singleton _ _, fun X hX Y hY k hk hk' => ?_⟩⟩
  · rcases List.mem_append.1 hX with hX | hX
    · exact h.ok X (by simp [hX])
    · cases List.mem_singleton.1 hX
      exact ⟨hA, fun k hk => Item.lt hA hk, fun w' hw => Item.keep hA hw (fun k hk => absurd hk (by rw [hl]; exact Nat.not_lt_zero _))⟩
  · rcases List.mem_append.1 hX with hX | hX
    · exact h.own X (by simp [hX]) k hk
    · cases List.mem_singleton.1 hX; exact h.own A (by simp) k hk
  · rcases List.mem_append.1 hX with hX | hX
    · exact h.low X (by simp [hX])
    · cases List.mem_singleton.1 hX; exact ⟨Nat.zero_le _, fun k hk => absurd hk (Nat.not_lt_zero _)⟩
  · cases List.mem_singleton.1 hY
    exact hd.2.2 X hX A (by simp) k hk hk'
/-- The last two as one. -/
theorem HS.merge {F G : Nat → Prop} {K J : World → Prop} (h : HS D W (L ++ [.any F K, .any G J]) w) : HS D W (L ++ [.any (fun k => F k ∨ G k) (fun w => K w ∧ J w)]) w := by
  have hd := List.pairwise_append.1 h.dis
  obtain ⟨a1, a2, a3⟩ := (show K w ∧ (∀ k, F k → k < w.heap.size) ∧ ∀ w', (∀ k, F k → w'.heap[k]? = w.heap[k]?) → K w' from h.ok (.any F K) (by simp))
  obtain ⟨b1, b2, b3⟩ := (show J w ∧ (∀ k, G k → k < w.heap.size) ∧ ∀ w', (∀ k, G k → w'.heap[k]? = w.heap[k]?) → J w' from h.ok (.any G J) (by simp))
  refine ⟨h.os, h.tape, h.output, h.size, h.old, fun X hX => ?_, fun X hX k hk => ?_, fun X hX => ?_, List.pairwise_append.2 ⟨hd.1, List.pairwise_singleton _ _, fun X hX Y hY k hk hk' => ?_⟩⟩
  · rcases List.mem_append.1 hX with hX | hX
    · exact h.ok X (by simp [hX])
    · cases List.mem_singleton.1 hX
      exact ⟨⟨a1, b1⟩, fun k hk => hk.elim (a2 k) (b2 k), fun w' hw => ⟨a3 w' fun k hk => hw k (.inl hk), b3 w' fun k hk => hw k (.inr hk)⟩⟩
  · rcases List.mem_append.1 hX with hX | hX
    · exact h.own X (by simp [hX]) k hk
    · cases List.mem_singleton.1 hX
      exact hk.elim (h.own (.any F K) (by simp) k) (h.own (.any G J) (by simp) k)
  · rcases List.mem_append.1 hX with hX | hX
    · exact h.low X (by simp [hX])
    · cases List.mem_singleton.1 hX; exact ⟨Nat.zero_le _, fun k hk => absurd hk (Nat.not_lt_zero _)⟩
  · cases List.mem_singleton.1 hY
    exact hk'.elim (hd.2.2 X hX (.any F K) (by simp) k hk) (hd.2.2 X hX (.any G J) (by simp) k hk)
/-- The last one, said more weakly. -/
theorem HS.weak {F : Nat → Prop} {K K' : World → Prop} (h : HS D W (L ++ [.any F K]) w) (hk : ∀ w, K w → K' w) : HS D W (L ++ [.any F K']) w := by
  have hd := List.pairwise_append.1 h.dis
  obtain ⟨a1, a2, a3⟩ := (show K w ∧ (∀ k, F k → k < w.heap.size) ∧ ∀ w', (∀ k, F k → w'.heap[k]? = w.heap[k]?) → K w' from h.ok (.any F K) (by simp))
  refine ⟨h.os, h.tape, h.output, h.size, h.old, fun X hX => ?_, fun X hX k hk => ?_, fun X hX => ?_, List.pairwise_append.2 ⟨hd.1, List.pairwise_singleton _ _, fun X hX Y hY k hk hk' => ?_⟩⟩
  · rcases List.mem_append.1 hX with hX | hX
    · exact h.ok X (by simp [hX])
    · cases List.mem_singleton.1 hX
      exact ⟨hk w a1, a2, fun w' hw => hk w' (a3 w' hw)⟩
  · rcases List.mem_append.1 hX with hX | hX
    · exact h.own X (by simp [hX]) k hk
    · cases List.mem_singleton.1 hX; exact h.own (.any F K) (by simp) k hk
  · rcases List.mem_append.1 hX with hX | hX
    · exact h.low X (by simp [hX])
    · cases List.mem_singleton.1 hX; exact ⟨Nat.zero_le _, fun k hk => absurd hk (Nat.not_lt_zero _)⟩
  · cases List.mem_singleton.1 hY
    exact hd.2.2 X hX (.any F K) (by simp) k hk hk'
/-- Nothing yet. -/
theorem HS.anyNil (h : HS D W L w) : HS D W (L ++ [.any (fun _ => False) (fun _ => True)]) w := by
  refine ⟨h.os, h.tape, h.output, h.size, h.old, fun X hX => ?_, fun X hX k hk => ?_, fun X hX => ?_, List.pairwise_append.2 ⟨h.dis, List.pairwise_singleton _ _, fun X hX Y hY k hk hk' => ?_⟩⟩
  · rcases List.mem_append.1 hX with hX | hX
    · exact h.ok X hX
    · cases List.mem_singleton.1 hX; exact ⟨trivial, fun k hk => hk.elim, fun _ _ => trivial⟩
  · rcases List.mem_append.1 hX with hX | hX
    · exact h.own X hX k hk
    · cases List.mem_singleton.1 hX; exact hk.elim
  · rcases List.mem_append.1 hX with hX | hX
    · exact h.low X hX
    · cases List.mem_singleton.1 hX; exact ⟨Nat.zero_le _, fun k hk => absurd hk (Nat.not_lt_zero _)⟩
  · cases List.mem_singleton.1 hY; exact hk'
/-- What an item of that kind says now. -/
theorem HS.says (h : HS D W L w) (i : Nat) {F : Nat → Prop} {K : World → Prop} (hi : L[i]? = some (.any F K)) : K w := (h.at i hi).1
end

theorem Lies.flatCells {α : Type} [Inhabited α] {enc : α → List Value} {k : Nat} (hk : ∀ x, (enc x).length = k) (hk0 : 0 < k) {w : World} {B b o : Nat} {xs : List α} (h : Lies w B (some ⟨b, o, none⟩) k xs.length (fun j => enc xs[j]!)) :
    ∀ m u, (xs.flatMap enc)[m]? = some u → w.cell? ⟨b, o + m, none⟩ = some u := fun m u hu => by
  have hm : m < xs.length * k := by rw [← flat_len hk]; exact (List.getElem?_eq_some_iff.1 hu).1
  have hq : m / k < xs.length := Nat.div_lt_of_lt_mul (by rw [Nat.mul_comm]; exact hm)
  have hr : m % k < k := Nat.mod_lt _ hk0
  have hmm : m / k * k + m % k = m := by rw [Nat.mul_comm]; exact Nat.div_add_mod m k
  obtain ⟨v, hv⟩ : ∃ v, (enc xs[m / k]!)[m % k]? = some v := ⟨_, List.getElem?_eq_getElem (by rw [hk]; exact hr)⟩
  have h1 := flat_get hk xs (m / k) (m % k) v hq hv
  rw [hmm, hu] at h1
  obtain ⟨b', o', e, -, h2⟩ := h (m / k) hq
  simp only [Option.some.injEq, Addr.mk.injEq, and_true] at e
  obtain ⟨rfl, rfl⟩ := e
  have := h2 (m % k) v hv
  rw [Nat.add_assoc, hmm] at this
  rw [this, h1]
/-- A slice's value, in parts. -/
structure Sv where
  sa : Option Addr
  n : Nat
  c : Nat
deriving Inhabited, DecidableEq
def Sv.v (x : Sv) : Value := .slice x.sa x.n x.c
def svC (x : Sv) : List Value := [.slice x.sa x.n x.c]
theorem svC_len (x : Sv) : (svC x).length = 1 := rfl
def bC1 (b : Int) : List Value := [.int .u8 b]
theorem bC1_len (b : Int) : (bC1 b).length = 1 := rfl
def CapOk (x : Sv) : Prop := x.n ≤ x.c ∧ (x.sa = none → x.c = 0)
/-- Bytes lie in memory. -/
structure BytesAt (w : World) (x : Sv) (bs : List Int) : Prop where
  len : x.n = bs.length
  cap : CapOk x
  lies : Lies w w.heap.size x.sa 1 bs.length (fun j => bC1 bs[j]!)
theorem Lies.up {w w' : World} {sa : Option Addr} {k n : Nat} {f : Nat → List Value} (h : Lies w w.heap.size sa k n f) (hb : Below w.heap.size w w') : Lies w' w'.heap.size sa k n f := ((HS.start NoD w).below hb).liesUp h
theorem BytesAt.up {w w' : World} {x : Sv} {bs : List Int} (h : BytesAt w x bs) (hb : Below w.heap.size w w') : BytesAt w' x bs := ⟨h.len, h.cap, h.lies.up hb⟩
/-- Words (slices of bytes) lie in memory. -/
def WordsAt (w : World) (x : Sv) (ws : List (List Int)) : Prop := ∃ vs : List Sv, vs.length = ws.length ∧ x.n = vs.length ∧ CapOk x ∧ Lies w w.heap.size x.sa 1 vs.length (fun j => svC vs[j]!) ∧ ∀ j, j < ws.length → BytesAt w vs[j]! ws[j]!
theorem WordsAt.up {w w' : World} {x : Sv} {ws : List (List Int)} (h : WordsAt w x ws) (hb : Below w.heap.size w w') : WordsAt w' x ws := by
  obtain ⟨vs, h1, h2, h3, h4, h5⟩ := h
  exact ⟨vs, h1, h2, h3, h4.up hb, fun j hj => (h5 j hj).up hb⟩
theorem row_capOk {w : World} {B k n c : Nat} {e : TypeId} {sa : Option Addr} {cs : List Value} (h : w.ownsRow B e k (.slice sa n c) n cs) : CapOk ⟨sa, n, c⟩ := by
  obtain ⟨sa', c', e1, h1⟩ := ownsRow_cap h
  injection e1 with e1 e2 e3
  subst e1 e3
  exact h1
theorem bytes_row {w : World} {B n c : Nat} {e : TypeId} {sa : Option Addr} {bs : List Int} (hn : n = bs.length) (h : w.ownsRow B e 1 (.slice sa n c) n (bs.flatMap bC1)) : BytesAt w ⟨sa, n, c⟩ bs := ⟨hn, row_capOk h, by subst hn; exact ownsRow_lies bC1_len rfl h⟩
end Go.Proofs.Ytfmcicmbehjdcaa
