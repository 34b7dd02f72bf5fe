/- An argument made of numbers and bools alone (structs and arrays of them, however nested), opened: its cells, each with its kind. -/
import Derived.Test.YtdhnpjgnnfgklaaK1
import Derived.ProofKit
import Derived.OpenShut
import Derived.WideShapes
namespace Go.Proofs.Ytdhnpjgnnfgklaa
set_option linter.unusedSimpArgs false
set_option linter.unusedVariables false
open Go.RowKit Go.WideShapes

inductive CellKind where
  | int (k : IntKind)
  | bool
/-- The cells are of these kinds. -/
def Kinds : List CellKind → List Value → Prop
  | [], cs => cs = []
  | .int k :: ks, cs => ∃ n cs', (Lit.int k n).wf = true ∧ cs = .int k n :: cs' ∧ Kinds ks cs'
  | .bool :: ks, cs => ∃ b cs', cs = .bool b :: cs' ∧ Kinds ks cs'
theorem Kinds.length : ∀ {ks : List CellKind} {cs : List Value}, Kinds ks cs → cs.length = ks.length
  | [], cs, h => by rw [show cs = [] from h]; rfl
  | .int k :: ks, cs, h => by obtain ⟨n, cs', _, rfl, h⟩ := h; simp [h.length]
  | .bool :: ks, cs, h => by obtain ⟨b, cs', rfl, h⟩ := h; simp [h.length]
theorem Kinds.append : ∀ {ks ks' : List CellKind} {cs cs' : List Value}, Kinds ks cs → Kinds ks' cs' → Kinds (ks ++ ks') (cs ++ cs')
  | [], ks', cs, cs', h, h' => by rw [show cs = [] from h]; exact h'
  | .int k :: ks, ks', cs, cs', h, h' => by obtain ⟨n, c, hw, rfl, h⟩ := h; exact ⟨n, c ++ cs', hw, rfl, h.append h'⟩
  | .bool :: ks, ks', cs, cs', h, h' => by obtain ⟨b, c, rfl, h⟩ := h; exact ⟨b, c ++ cs', rfl, h.append h'⟩

def kindsList (rec : TypeId → Option (List CellKind)) : List (TypeId × Nat) → Nat → Option (List CellKind)
  | [], _ => some []
  | (t, off) :: fs, at_ => match rec t, kindsList rec fs (at_ + ((rec t).getD []).length) with
    | some ks, some r => if off = at_ then some (ks ++ r) else none
    | _, _ => none
/-- The kinds of a type's cells; none if there is more than numbers and bools. -/
def kindsOf (P : Program) : Nat → TypeId → Option (List CellKind)
  | 0, _ => none
  | f + 1, t => match P.underlying t with
    | some (.int k) => some [.int k]
    | some .bool => some [.bool]
    | some (.struct fs) => kindsList (fun t => match kindsOf P f t with | some ks => if P.cellsOf t = ks.length then some ks else none | none => none) (fs.toList.map fun f => (f.type, f.offset)) 0
    | some (.array n e) => kindsList (fun t => match kindsOf P f t with | some ks => if P.cellsOf t = ks.length then some ks else none | none => none) ((List.range n).map fun i => (e, i * P.cellsOf e)) 0
    | _ => none

theorem take_add' {α : Type} (l : List α) (i j : Nat) : l.take (i + j) = l.take i ++ (l.drop i).take j := by
  induction l generalizing i with
  | nil => simp
  | cons x l ih =>
    cases i with
    | zero => simp
    | succ i => rw [show i + 1 + j = (i + j) + 1 by omega]; simp [ih]

theorem kindsList_ok {rec : TypeId → Option (List CellKind)} {cs : List Value} {size : TypeId → Nat} (hs : ∀ t ks, rec t = some ks → size t = ks.length) :
    ∀ (fs : List (TypeId × Nat)) (at_ : Nat) (ks : List CellKind), kindsList rec fs at_ = some ks → (∀ f ∈ fs, ∀ ks, rec f.1 = some ks → Kinds ks ((cs.drop f.2).take (size f.1))) → Kinds ks ((cs.drop at_).take ks.length) := by
  intro fs
  induction fs with
  | nil => intro at_ ks h _; simp [kindsList] at h; subst h; simp [Kinds]
  | cons f fs ih =>
    intro at_ ks h hall
    obtain ⟨t, off⟩ := f
    unfold kindsList at h
    cases hr : rec t with
    | none => rw [hr] at h; simp at h
    | some k =>
      rw [hr] at h
      simp only [Option.getD_some] at h
      cases hl : kindsList rec fs (at_ + k.length) with
      | none => rw [hl] at h; simp at h
      | some r =>
        rw [hl] at h
        simp only at h
        split at h
        · rename_i he
          cases h
          subst he
          have h1 := hall (t, off) (by simp) k hr
          have h2 := ih _ _ hl (fun f hf => hall f (by simp [hf]))
          simp only at h1
          rw [hs t k hr] at h1
          rw [List.length_append, take_add', List.drop_drop]
          exact h1.append h2
        · cases h

section
variable {H : Type} {enc : TypeId × Value → H} {P : Program} {w : World} {base : Nat} {sp : Nat → Bool} {held : Bool}
theorem kinds_trod : ∀ (f m : Nat) (t : TypeId) (ks : List CellKind) (cs : List Value) (x : DataW H × List MemPlace), kindsOf P f t = some ks → P.cellsOf t = ks.length → DataW.trod enc P w base sp held m t cs = some x → Kinds ks cs
  | 0, _, _, _, _, _, h, _, _ => by simp [kindsOf] at h
  | f + 1, m, t, ks, cs, x, h, hz, ht => by
    have hrec : ∀ t ks, (match kindsOf P f t with | some ks => if P.cellsOf t = ks.length then some ks else none | none => none) = some ks → kindsOf P f t = some ks ∧ P.cellsOf t = ks.length := fun t ks h => by
      cases hk : kindsOf P f t with
      | none => rw [hk] at h; cases h
      | some k =>
        rw [hk] at h
        simp only at h
        split at h
        · cases h; exact ⟨rfl, by assumption⟩
        · cases h
    unfold kindsOf at h
    split at h
    · rename_i k hu
      cases h
      obtain ⟨n, hc, _, hw⟩ := DataW.trod_int hu ht
      exact ⟨n, [], hw, hc, rfl⟩
    · rename_i hu
      cases h
      obtain ⟨b, hc, _⟩ := DataW.trod_bool hu ht
      exact ⟨b, [], hc, rfl⟩
    · rename_i fs hu
      obtain ⟨xs, n, _, _, hl, hlen, hall⟩ := DataW.trod_struct hu ht
      have := kindsList_ok (cs := cs) (size := P.cellsOf) (fun t ks h => (hrec t ks h).2) _ _ _ h (fun g hg ks' hk => by
        obtain ⟨fd, hfd, rfl⟩ := List.mem_map.1 hg
        obtain ⟨i, hi, he⟩ := List.getElem_of_mem hfd
        have h1 := hall i fd (by rw [← he]; simp)
        have hi' : i < xs.length := by rw [hlen]; simpa using hi
        rw [List.getElem?_eq_getElem hi'] at h1
        exact kinds_trod f n fd.type ks' _ _ (hrec _ _ hk).1 (hrec _ _ hk).2 h1)
      rw [List.drop_zero, List.take_of_length_le (by omega)] at this
      exact this
    · rename_i n e hu
      obtain ⟨xs, m', _, _, hl, hlen, hall⟩ := DataW.trod_array hu ht
      have := kindsList_ok (cs := cs) (size := P.cellsOf) (fun t ks h => (hrec t ks h).2) _ _ _ h (fun g hg ks' hk => by
        obtain ⟨i, hi, rfl⟩ := List.mem_map.1 hg
        have hi' : i < n := by simpa using hi
        have h1 := hall i hi'
        rw [List.getElem?_eq_getElem (by omega)] at h1
        exact kinds_trod f m' e ks' _ _ (hrec _ _ hk).1 (hrec _ _ hk).2 h1)
      rw [List.drop_zero, List.take_of_length_le (by omega)] at this
      exact this
    · cases h

end
end Go.Proofs.Ytdhnpjgnnfgklaa
