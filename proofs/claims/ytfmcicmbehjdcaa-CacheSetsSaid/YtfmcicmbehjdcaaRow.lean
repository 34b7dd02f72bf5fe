/- Slices of structs in memory: what lies there, read in a loop; slices of one's own that a call hands back. -/
import Derived.Test.YtfmcicmbehjdcaaOwn
import Derived.Test.YtfmcicmbehjdcaaPart
namespace Go.Proofs.Ytfmcicmbehjdcaa
set_option linter.unusedSimpArgs false
set_option linter.unusedVariables false
open Go.RowKit

/-- A slice's elements lie in memory below block B: the element j has the cells f j, k of them. -/
def Lies (w : World) (B : Nat) (sa : Option Addr) (k n : Nat) (f : Nat → List Value) : Prop :=
  ∀ j, j < n → ∃ b o, sa = some ⟨b, o, none⟩ ∧ b < B ∧ ∀ i u, (f j)[i]? = some u → w.cell? ⟨b, o + j * k + i, none⟩ = some u
theorem Lies.at {w : World} {B : Nat} {sa : Option Addr} {k n : Nat} {f : Nat → List Value} (h : Lies w B sa k n f) {j : Nat} (hj : j < n) : ∃ b o, sa = some ⟨b, o, none⟩ ∧ b < B ∧ ∀ i u, (f j)[i]? = some u → w.cell? ⟨b, o + j * k + i, none⟩ = some u := h j hj
theorem Lies.mono {w : World} {B B' : Nat} {sa : Option Addr} {k n : Nat} {f : Nat → List Value} (h : Lies w B sa k n f) (hb : B ≤ B') : Lies w B' sa k n f := fun j hj => by
  obtain ⟨b, o, e, h1, h2⟩ := h j hj
  exact ⟨b, o, e, by omega, h2⟩
theorem Lies.below {w w' : World} {B : Nat} {sa : Option Addr} {k n : Nat} {f : Nat → List Value} (h : Lies w B sa k n f) (hB : B ≤ w.heap.size) (hb : Below w.heap.size w w') : Lies w' B sa k n f := fun j hj => by
  obtain ⟨b, o, e, h1, h2⟩ := h j hj
  exact ⟨b, o, e, h1, fun i u hu => (hb.cell (p := ⟨b, o + j * k + i, none⟩) (by show b < _; omega)).trans (h2 i u hu)⟩
theorem HS.lies {W w : World} {L : List Item} (h : HS NoD W L w) {sa : Option Addr} {k n : Nat} {f : Nat → List Value} (hl : Lies W W.heap.size sa k n f) : Lies w W.heap.size sa k n f := fun j hj => by
  obtain ⟨b, o, e, hb, hc⟩ := hl j hj
  exact ⟨b, o, e, hb, fun i u hu => (h.was hb id).trans (hc i u hu)⟩
/-- What lay there before, as a callee wants it. -/
theorem HS.liesUp {W w : World} {L : List Item} (h : HS NoD W L w) {sa : Option Addr} {k n : Nat} {f : Nat → List Value} (hl : Lies W W.heap.size sa k n f) : Lies w w.heap.size sa k n f := (h.lies hl).mono h.size
theorem Lies.nil0 {w : World} {B : Nat} {sa : Option Addr} {k : Nat} {f : Nat → List Value} : Lies w B sa k 0 f := fun j hj => absurd hj (Nat.not_lt_zero _)

theorem flat_len {α : Type} {enc : α → List Value} {k : Nat} (hk : ∀ x, (enc x).length = k) : ∀ xs : List α, (xs.flatMap enc).length = xs.length * k
  | [] => by simp
  | x :: xs => by simp [hk, flat_len hk xs, Nat.succ_mul, Nat.add_comm]
theorem flat_get {α : Type} [Inhabited α] {enc : α → List Value} {k : Nat} (hk : ∀ x, (enc x).length = k) : ∀ (xs : List α) (j i : Nat) (u : Value), j < xs.length → (enc xs[j]!)[i]? = some u → (xs.flatMap enc)[j * k + i]? = some u
  | [], j, _, _, h, _ => by simp at h
  | x :: xs, 0, i, u, _, h => by
    have hi : i < (enc x).length := (List.getElem?_eq_some_iff.1 (by simpa using h)).1
    rw [List.flatMap_cons, Nat.zero_mul, Nat.zero_add, List.getElem?_append_left hi]
    simpa using h
  | x :: xs, j + 1, i, u, hj, h => by
    have := flat_get hk xs j i u (by simpa using hj) (by simpa using h)
    rw [List.flatMap_cons, List.getElem?_append_right (by rw [hk, Nat.succ_mul]; omega), hk]
    rw [show (j + 1) * k + i - k = j * k + i by rw [Nat.succ_mul]; omega]
    exact this
theorem ownsRow_slice {w : World} {B k n : Nat} {e : TypeId} {v : Value} {cs : List Value} (h : w.ownsRow B e k v n cs) : ∃ sa c, v = .slice sa n c := by
  obtain ⟨h1, h2⟩ := h
  rcases h2 with ⟨h2, h3⟩ | ⟨g, cap, cur, hv, r⟩
  · exact ⟨none, 0, by rw [h2, h3]⟩
  · exact ⟨_, _, hv⟩
theorem ownsRow_lies {α : Type} [Inhabited α] {enc : α → List Value} {k : Nat} (hk : ∀ x, (enc x).length = k) {w : World} {B n c : Nat} {e : TypeId} {sa : Option Addr} {xs : List α} (hn : n = xs.length) (h : w.ownsRow B e k (.slice sa n c) n (xs.flatMap enc)) :
    Lies w w.heap.size sa k n (fun j => enc xs[j]!) := fun j hj => by
  subst hn
  have h0 := h
  obtain ⟨h1, h2⟩ := h
  rcases h2 with ⟨h2, h3⟩ | ⟨g, cap, cur, hv, hg, hh, r⟩
  · omega
  · injection hv with e1 e2 e3
    subst e1 e3
    refine ⟨g, 0, rfl, lt_of_heap hh, fun i u hu => ?_⟩
    have hi : i < k := by rw [← hk xs[j]!]; exact (List.getElem?_eq_some_iff.1 hu).1
    have hjk : j * k + i < xs.length * k := by
      have : (j + 1) * k ≤ xs.length * k := Nat.mul_le_mul_right k (by omega)
      rw [Nat.succ_mul] at this; omega
    rw [Nat.zero_add, World.ownsRow.cellAt h0 (j * k + i) hjk]
    exact flat_get hk xs j i u hj hu
/-- A row in the bundle, as a callee reads it. -/
theorem HS.rowLies {D : Nat → Prop} {W w : World} {L : List Item} (h : HS D W L w) (i : Nat) {α : Type} [Inhabited α] {enc : α → List Value} {k : Nat} (hk : ∀ x, (enc x).length = k) {n c : Nat} {e : TypeId} {sa : Option Addr} {xs : List α} (hi : L[i]? = some (.row (.slice sa n c) e k n (xs.flatMap enc))) (hn : n = xs.length) :
    Lies w w.heap.size sa k n (fun j => enc xs[j]!) := ownsRow_lies hk hn (h.at i hi)
/-- A block's cells, read as a slice over it. -/
theorem HS.blkLies {D : Nat → Prop} {W w : World} {L : List Item} (h : HS D W L w) (i : Nat) {α : Type} [Inhabited α] {enc : α → List Value} {k : Nat} (hk : ∀ x, (enc x).length = k) {n b : Nat} {t : TypeId} {cs : Array Value} {xs : List α} (hi : L[i]? = some (.blk b cs t)) (hn : n = xs.length) (hcs : cs.toList = xs.flatMap enc) :
    Lies w w.heap.size (some ⟨b, 0, none⟩) k n (fun j => enc xs[j]!) := fun j hj => by
  have hb : Blk w b cs t := h.at i hi
  refine ⟨b, 0, rfl, hb.lt, fun i u hu => ?_⟩
  rw [Nat.zero_add, hb.cell]
  rw [← Array.getElem?_toList, hcs]
  exact flat_get hk xs j i u (by omega) hu
theorem HS.apart {D : Nat → Prop} {W w : World} {L : List Item} (h : HS D W L w) {i j : Nat} {A B : Item} (hi : L[i]? = some A) (hj : L[j]? = some B) (hij : i ≠ j) {k : Nat} (hA : A.fp k) : ¬ B.fp k := by
  obtain ⟨h1, rfl⟩ := List.getElem?_eq_some_iff.1 hi
  obtain ⟨h2, rfl⟩ := List.getElem?_eq_some_iff.1 hj
  have hd := List.pairwise_iff_getElem.1 h.dis
  rcases Nat.lt_or_gt_of_ne hij with hl | hl
  · exact hd i j h1 h2 hl k hA
  · exact fun hB => hd j i h2 h1 hl k hB hA
/-- A row's block is no other block. -/
theorem HS.rowApart {D : Nat → Prop} {W w : World} {L : List Item} (h : HS D W L w) (i j : Nat) {g n c k m b : Nat} {e t : TypeId} {xs : List Value} {cs : Array Value} (hi : L[i]? = some (.row (.slice (some ⟨g, 0, none⟩) n c) e k m xs)) (hj : L[j]? = some (.blk b cs t)) (hij : i ≠ j) : (g = b) = False ∧ (b = g) = False := by
  have : g ≠ b := fun e => h.apart hi hj hij (k := g) rfl e
  exact ⟨eq_false this, eq_false (Ne.symm this)⟩
theorem Lies.take {α : Type} [Inhabited α] {enc : α → List Value} {w : World} {B k : Nat} {sa : Option Addr} {xs : List α} (h : Lies w B sa k xs.length (fun j => enc xs[j]!)) {i : Nat} (hi : i ≤ xs.length) : Lies w B sa k (xs.take i).length (fun j => enc (xs.take i)[j]!) := fun j hj => by
  have hj' : j < i := by rw [List.length_take] at hj; omega
  obtain ⟨b, o, e, h1, h2⟩ := h j (by omega)
  refine ⟨b, o, e, h1, fun i' u hu => h2 i' u ?_⟩
  have e2 : (xs.take i)[j]! = xs[j]! := by rw [getElem!_pos _ j hj, getElem!_pos xs j (by omega), List.getElem_take]
  show (enc xs[j]!)[i']? = some u
  rw [← e2]
  exact hu
def iC (n : Int) : List Value := [.int .i64 n]
theorem iC_len (n : Int) : (iC n).length = 1 := rfl
/-- What a call hands back that holds a slice of its own. -/
def GivesS (mk : Value → Value) (e : TypeId) (k n : Nat) (cs : List Value) (w : World) (x : Ending) (w' : World) : Prop :=
  ∃ sa c, x = .returned (mk (.slice sa n c)) ∧ w'.ownsRow w.heap.size e k (.slice sa n c) n cs ∧ Below w.heap.size w w'
theorem HS.givesS {W w : World} {L : List Item} (h : HS NoD W L w) (i : Nat) {mk : Value → Value} {e : TypeId} {k n c : Nat} {sa : Option Addr} {cs : List Value} (hi : L[i]? = some (.row (.slice sa n c) e k n cs)) : GivesS mk e k n cs W (.returned (mk (.slice sa n c))) w :=
  ⟨sa, c, rfl, h.rowOut i hi, h.done⟩
end Go.Proofs.Ytfmcicmbehjdcaa
