/- Several texts in one: Row, RowSet, Many, Pgs, PSpec. -/
import Derived.Test.YtedbpmckgiifpaaGreatJ1
import Derived.Test.YtedbpmckgiifpaaGreatPart
import Derived.Deep.CutRange
import Derived.Deep.CutBlock
import Derived.Deep.RegionLaw
import Derived.Deep.RegionWith
/- Slices of structs in memory: what lies there, read in a loop; slices of one's own that a call hands back. -/
namespace Go.Proofs.YtedbpmckgiifpaaGreat
set_option linter.unusedSimpArgs false
set_option linter.unusedVariables false
open Go.RowKit

/-- A slice's elements lie in memory below block B: the element j has the cells f j, k of them. -/
def Lies (w : World) (B : Nat) (sa : Option Addr) (k n : Nat) (f : Nat → List Value) : Prop :=
  ∀ j, j < n → ∃ b o, sa = some ⟨b, o, none⟩ ∧ b < B ∧ ∀ i u, (f j)[i]? = some u → w.cell? ⟨b, o + j * k + i, none⟩ = some u
theorem Lies.at {w : World} {B : Nat} {sa : Option Addr} {k n : Nat} {f : Nat → List Value} (h : Lies w B sa k n f) {j : Nat} (hj : j < n) : ∃ b o, sa = some ⟨b, o, none⟩ ∧ b < B ∧ ∀ i u, (f j)[i]? = some u → w.cell? ⟨b, o + j * k + i, none⟩ = some u := h j hj
theorem Lies.mono {w : World} {B B' : Nat} {sa : Option Addr} {k n : Nat} {f : Nat → List Value} (h : Lies w B sa k n f) (hb : B ≤ B') : Lies w B' sa k n f := fun j hj => by
  obtain ⟨b, o, e, h1, h2⟩ := h j hj
  exact ⟨b, o, e, by omega, h2⟩
theorem Lies.below {w w' : World} {B : Nat} {sa : Option Addr} {k n : Nat} {f : Nat → List Value} (h : Lies w B sa k n f) (hB : B ≤ w.heap.size) (hb : Below w.heap.size w w') : Lies w' B sa k n f := fun j hj => by
  obtain ⟨b, o, e, h1, h2⟩ := h j hj
  exact ⟨b, o, e, h1, fun i u hu => (hb.cell (p := ⟨b, o + j * k + i, none⟩) (by show b < _; omega)).trans (h2 i u hu)⟩
theorem HS.lies {W w : World} {L : List Item} (h : HS NoD W L w) {sa : Option Addr} {k n : Nat} {f : Nat → List Value} (hl : Lies W W.heap.size sa k n f) : Lies w W.heap.size sa k n f := fun j hj => by
  obtain ⟨b, o, e, hb, hc⟩ := hl j hj
  exact ⟨b, o, e, hb, fun i u hu => (h.was hb id).trans (hc i u hu)⟩
/-- What lay there before, as a callee wants it. -/
theorem HS.liesUp {W w : World} {L : List Item} (h : HS NoD W L w) {sa : Option Addr} {k n : Nat} {f : Nat → List Value} (hl : Lies W W.heap.size sa k n f) : Lies w w.heap.size sa k n f := (h.lies hl).mono h.size
theorem Lies.nil0 {w : World} {B : Nat} {sa : Option Addr} {k : Nat} {f : Nat → List Value} : Lies w B sa k 0 f := fun j hj => absurd hj (Nat.not_lt_zero _)

theorem flat_len {α : Type} {enc : α → List Value} {k : Nat} (hk : ∀ x, (enc x).length = k) : ∀ xs : List α, (xs.flatMap enc).length = xs.length * k
  | [] => by simp
  | x :: xs => by simp [hk, flat_len hk xs, Nat.succ_mul, Nat.add_comm]
theorem flat_get {α : Type} [Inhabited α] {enc : α → List Value} {k : Nat} (hk : ∀ x, (enc x).length = k) : ∀ (xs : List α) (j i : Nat) (u : Value), j < xs.length → (enc xs[j]!)[i]? = some u → (xs.flatMap enc)[j * k + i]? = some u
  | [], j, _, _, h, _ => by simp at h
  | x :: xs, 0, i, u, _, h => by
    have hi : i < (enc x).length := (List.getElem?_eq_some_iff.1 (by simpa using h)).1
    rw [List.flatMap_cons, Nat.zero_mul, Nat.zero_add, List.getElem?_append_left hi]
    simpa using h
  | x :: xs, j + 1, i, u, hj, h => by
    have := flat_get hk xs j i u (by simpa using hj) (by simpa using h)
    rw [List.flatMap_cons, List.getElem?_append_right (by rw [hk, Nat.succ_mul]; omega), hk]
    rw [show (j + 1) * k + i - k = j * k + i by rw [Nat.succ_mul]; omega]
    exact this
theorem ownsRow_slice {w : World} {B k n : Nat} {e : TypeId} {v : Value} {cs : List Value} (h : w.ownsRow B e k v n cs) : ∃ sa c, v = .slice sa n c := by
  obtain ⟨h1, h2⟩ := h
  rcases h2 with ⟨h2, h3⟩ | ⟨g, cap, cur, hv, r⟩
  · exact ⟨none, 0, by rw [h2, h3]⟩
  · exact ⟨_, _, hv⟩
theorem ownsRow_lies {α : Type} [Inhabited α] {enc : α → List Value} {k : Nat} (hk : ∀ x, (enc x).length = k) {w : World} {B n c : Nat} {e : TypeId} {sa : Option Addr} {xs : List α} (hn : n = xs.length) (h : w.ownsRow B e k (.slice sa n c) n (xs.flatMap enc)) :
    Lies w w.heap.size sa k n (fun j => enc xs[j]!) := fun j hj => by
  subst hn
  have h0 := h
  obtain ⟨h1, h2⟩ := h
  rcases h2 with ⟨h2, h3⟩ | ⟨g, cap, cur, hv, hg, hh, r⟩
  · omega
  · injection hv with e1 e2 e3
    subst e1 e3
    refine ⟨g, 0, rfl, lt_of_heap hh, fun i u hu => ?_⟩
    have hi : i < k := by rw [← hk xs[j]!]; exact (List.getElem?_eq_some_iff.1 hu).1
    have hjk : j * k + i < xs.length * k := by
      have : (j + 1) * k ≤ xs.length * k := Nat.mul_le_mul_right k (by omega)
      rw [Nat.succ_mul] at this; omega
    rw [Nat.zero_add, World.ownsRow.cellAt h0 (j * k + i) hjk]
    exact flat_get hk xs j i u hj hu
/-- A row in the bundle, as a callee reads it. -/
theorem HS.rowLies {D : Nat → Prop} {W w : World} {L : List Item} (h : HS D W L w) (i : Nat) {α : Type} [Inhabited α] {enc : α → List Value} {k : Nat} (hk : ∀ x, (enc x).length = k) {n c : Nat} {e : TypeId} {sa : Option Addr} {xs : List α} (hi : L[i]? = some (.row (.slice sa n c) e k n (xs.flatMap enc))) (hn : n = xs.length) :
    Lies w w.heap.size sa k n (fun j => enc xs[j]!) := ownsRow_lies hk hn (h.at i hi)
/-- A block's cells, read as a slice over it. -/
theorem HS.blkLies {D : Nat → Prop} {W w : World} {L : List Item} (h : HS D W L w) (i : Nat) {α : Type} [Inhabited α] {enc : α → List Value} {k : Nat} (hk : ∀ x, (enc x).length = k) {n b : Nat} {t : TypeId} {cs : Array Value} {xs : List α} (hi : L[i]? = some (.blk b cs t)) (hn : n = xs.length) (hcs : cs.toList = xs.flatMap enc) :
    Lies w w.heap.size (some ⟨b, 0, none⟩) k n (fun j => enc xs[j]!) := fun j hj => by
  have hb : Blk w b cs t := h.at i hi
  refine ⟨b, 0, rfl, hb.lt, fun i u hu => ?_⟩
  rw [Nat.zero_add, hb.cell]
  rw [← Array.getElem?_toList, hcs]
  exact flat_get hk xs j i u (by omega) hu
theorem HS.apart {D : Nat → Prop} {W w : World} {L : List Item} (h : HS D W L w) {i j : Nat} {A B : Item} (hi : L[i]? = some A) (hj : L[j]? = some B) (hij : i ≠ j) {k : Nat} (hA : A.fp k) : ¬ B.fp k := by
  obtain ⟨h1, rfl⟩ := List.getElem?_eq_some_iff.1 hi
  obtain ⟨h2, rfl⟩ := List.getElem?_eq_some_iff.1 hj
  have hd := List.pairwise_iff_getElem.1 h.dis
  rcases Nat.lt_or_gt_of_ne hij with hl | hl
  · exact hd i j h1 h2 hl k hA
  · exact fun hB => hd j i h2 h1 hl k hB hA
/-- A row's block is no other block. -/
theorem HS.rowApart {D : Nat → Prop} {W w : World} {L : List Item} (h : HS D W L w) (i j : Nat) {g n c k m b : Nat} {e t : TypeId} {xs : List Value} {cs : Array Value} (hi : L[i]? = some (.row (.slice (some ⟨g, 0, none⟩) n c) e k m xs)) (hj : L[j]? = some (.blk b cs t)) (hij : i ≠ j) : (g = b) = False ∧ (b = g) = False := by
  have : g ≠ b := fun e => h.apart hi hj hij (k := g) rfl e
  exact ⟨eq_false this, eq_false (Ne.symm this)⟩
theorem Lies.take {α : Type} [Inhabited α] {enc : α → List Value} {w : World} {B k : Nat} {sa : Option Addr} {xs : List α} (h : Lies w B sa k xs.length (fun j => enc xs[j]!)) {i : Nat} (hi : i ≤ xs.length) : Lies w B sa k (xs.take i).length (fun j => enc (xs.take i)[j]!) := fun j hj => by
  have hj' : j < i := by rw [List.length_take] at hj; omega
  obtain ⟨b, o, e, h1, h2⟩ := h j (by omega)
  refine ⟨b, o, e, h1, fun i' u hu => h2 i' u ?_⟩
  have e2 : (xs.take i)[j]! = xs[j]! := by rw [getElem!_pos _ j hj, getElem!_pos xs j (by omega), List.getElem_take]
  show (enc xs[j]!)[i']? = some u
  rw [← e2]
  exact hu
def iC (n : Int) : List Value := [.int .i64 n]
theorem iC_len (n : Int) : (iC n).length = 1 := rfl
/-- What a call hands back that holds a slice of its own. -/
def GivesS (mk : Value → Value) (e : TypeId) (k n : Nat) (cs : List Value) (w : World) (x : Ending) (w' : World) : Prop :=
  ∃ sa c, x = .returned (mk (.slice sa n c)) ∧ w'.ownsRow w.heap.size e k (.slice sa n c) n cs ∧ Below w.heap.size w w'
theorem HS.givesS {W w : World} {L : List Item} (h : HS NoD W L w) (i : Nat) {mk : Value → Value} {e : TypeId} {k n c : Nat} {sa : Option Addr} {cs : List Value} (hi : L[i]? = some (.row (.slice sa n c) e k n cs)) : GivesS mk e k n cs W (.returned (mk (.slice sa n c))) w :=
  ⟨sa, c, rfl, h.rowOut i hi, h.done⟩
end Go.Proofs.YtedbpmckgiifpaaGreat

/- A cell of a slice of one's own is stored to. -/
namespace Go.Proofs.YtedbpmckgiifpaaGreat
set_option linter.unusedSimpArgs false
set_option linter.unusedVariables false
open Go.RowKit
theorem HS.rowSet {D : Nat → Prop} {W w : World} {L : List Item} (h : HS D W L w) (i : Nat) {g n cap k : Nat} {e : TypeId} {xs : List Value} (hi : L[i]? = some (.row (.slice (some ⟨g, 0, none⟩) n cap) e k n xs)) (j : Nat) (u : Value) :
    HS D W (L.set i (.row (.slice (some ⟨g, 0, none⟩) n cap) e k n (xs.set j u))) (w.setCell ⟨g, j, none⟩ u) := by
  rw [set_at _ hi]
  rw [split_at hi] at h
  have h1 : w.ownsRow 0 e k (.slice (some ⟨g, 0, none⟩) n cap) n xs := h.ok (.row (.slice (some ⟨g, 0, none⟩) n cap) e k n xs) (by simp)
  exact h.swap (X := .row (.slice (some ⟨g, 0, none⟩) n cap) e k n xs) (Y := .row (.slice (some ⟨g, 0, none⟩) n cap) e k n (xs.set j u)) rfl rfl rfl (by simp [World.setCell]) (fun b hb hn => Below.heap_setCell _ _ _ _ (fun e => hn (by rw [e]; rfl))) (World.ownsRow.stored h1 j u).1 (fun b hb => .inl hb) (.inr rfl)
theorem flat_set {α : Type} [Inhabited α] {enc : α → List Value} {k : Nat} (hk : ∀ x, (enc x).length = k) : ∀ (xs : List α) (j m : Nat) (x' : α) (u : Value), j < xs.length → m < k → enc x' = (enc xs[j]!).set m u → (xs.set j x').flatMap enc = (xs.flatMap enc).set (j * k + m) u
  | [], j, _, _, _, h, _, _ => by simp at h
  | x :: xs, 0, m, x', u, _, hm, h => by
    rw [List.set_cons_zero, List.flatMap_cons, List.flatMap_cons, Nat.zero_mul, Nat.zero_add, List.set_append_left _ _ (by rw [hk]; exact hm)]
    rw [h]; rfl
  | x :: xs, j + 1, m, x', u, hj, hm, h => by
    have := flat_set hk xs j m x' u (by simpa using hj) hm (by simpa using h)
    rw [List.set_cons_succ, List.flatMap_cons, List.flatMap_cons, this, List.set_append_right _ _ (by rw [hk, Nat.succ_mul]; omega), hk]
    rw [show (j + 1) * k + m - k = j * k + m by rw [Nat.succ_mul]; omega]
end Go.Proofs.YtedbpmckgiifpaaGreat

/- Many things as one in the bundle; what a call hands back of several slices; a slice as a callee reads it. -/
namespace Go.Proofs.YtedbpmckgiifpaaGreat
set_option linter.unusedSimpArgs false
set_option linter.unusedVariables false
open Go.RowKit

theorem Item.manyOk {R : List Item} {w : World} (h : ∀ A ∈ R, A.ok w) (h0 : ∀ A ∈ R, A.low = 0) (hd : Apart R) : (Item.many R).ok w :=
  ⟨⟨fun A hA => ⟨h A hA, h0 A hA⟩, hd⟩, fun k hk => by obtain ⟨A, hA, hf⟩ := hk; exact Item.lt (h A hA) hf,
   fun w' hw => ⟨fun A hA => ⟨Item.keep (h A hA) (fun k hk => hw k ⟨A, hA, hk⟩) (fun k hk => by rw [h0 A hA] at hk; exact absurd hk (Nat.not_lt_zero _)), h0 A hA⟩, hd⟩⟩
theorem Item.ofMany {R : List Item} {w : World} (h : (Item.many R).ok w) : (∀ A ∈ R, A.ok w ∧ A.low = 0) ∧ Apart R := h.1

section
variable {D : Nat → Prop} {W w w' : World} {L R : List Item}
theorem HS.permu {L' : List Item} (h : HS D W L w) (hp : L.Perm L') : HS D W L' w :=
  ⟨h.os, h.tape, h.output, h.size, h.old, fun A hA => h.ok A (hp.mem_iff.2 hA), fun A hA => h.own A (hp.mem_iff.2 hA), fun A hA => h.low A (hp.mem_iff.2 hA), h.dis.perm hp (fun hxy k hk hk' => hxy k hk' hk)⟩
theorem HS.toMany (h : HS D W (L ++ R) w) (h0 : ∀ A ∈ R, A.low = 0) : HS D W (L ++ [Item.many R]) w := by
  have hd := List.pairwise_append.1 h.dis
  refine ⟨h.os, h.tape, h.output, h.size, h.old, fun X hX => ?_, fun X hX k hk => ?_, fun X hX => ?_, List.pairwise_append.2 ⟨hd.1, List.pairwise_singleton _ _, fun X hX Y hY k hk hk' => ?_⟩⟩
  · rcases List.mem_append.1 hX with hX | hX
    · exact h.ok X (by simp [hX])
    · cases List.mem_singleton.1 hX; exact Item.manyOk (fun A hA => h.ok A (by simp [hA])) h0 hd.2.1
  · rcases List.mem_append.1 hX with hX | hX
    · exact h.own X (by simp [hX]) k hk
    · cases List.mem_singleton.1 hX
      obtain ⟨A, hA, hf⟩ := hk
      exact h.own A (by simp [hA]) k hf
  · rcases List.mem_append.1 hX with hX | hX
    · exact h.low X (by simp [hX])
    · cases List.mem_singleton.1 hX; exact ⟨Nat.zero_le _, fun k hk => absurd hk (Nat.not_lt_zero _)⟩
  · cases List.mem_singleton.1 hY
    obtain ⟨A, hA, hf⟩ := hk'
    exact hd.2.2 X hX A hA k hk hf
theorem HS.ofMany (h : HS D W (L ++ [Item.many R]) w) : HS D W (L ++ R) w := by
  have hd := List.pairwise_append.1 h.dis
  have hm := Item.ofMany (h.ok (Item.many R) (by simp))
  refine ⟨h.os, h.tape, h.output, h.size, h.old, fun X hX => ?_, fun X hX k hk => ?_, fun X hX => ?_, List.pairwise_append.2 ⟨hd.1, hm.2, fun X hX Y hY k hk hk' => ?_⟩⟩
  · rcases List.mem_append.1 hX with hX | hX
    · exact h.ok X (by simp [hX])
    · exact (hm.1 X hX).1
  · rcases List.mem_append.1 hX with hX | hX
    · exact h.own X (by simp [hX]) k hk
    · exact h.own (Item.many R) (by simp) k ⟨X, hX, hk⟩
  · rcases List.mem_append.1 hX with hX | hX
    · exact h.low X (by simp [hX])
    · rw [(hm.1 X hX).2]; exact ⟨Nat.zero_le _, fun k hk => absurd hk (Nat.not_lt_zero _)⟩
  · exact hd.2.2 X hX (Item.many R) (by simp) k hk ⟨Y, hY, hk'⟩
theorem erase_perm {α : Type} : ∀ {L : List α} {i : Nat} {x : α}, L[i]? = some x → L.Perm (L.eraseIdx i ++ [x])
  | [], i, x, h => by simp at h
  | y :: L, 0, x, h => by
    obtain rfl : y = x := by simpa using h
    exact (List.perm_append_singleton y L).symm
  | y :: L, i + 1, x, h => by
    have := erase_perm (L := L) (i := i) (x := x) (by simpa using h)
    exact List.Perm.cons y this
/-- A thing goes to the end. -/
theorem HS.last (h : HS D W L w) (i : Nat) {A : Item} (hi : L[i]? = some A) : HS D W (L.eraseIdx i ++ [A]) w := h.permu (erase_perm hi)
theorem HS.unmany (h : HS D W L w) (i : Nat) (hi : L[i]? = some (Item.many R)) : HS D W (L.eraseIdx i ++ R) w := (h.last i hi).ofMany
theorem low_ofMany (h : HS D W (L ++ [Item.many R]) w) : ∀ A ∈ R, A.low = 0 := fun A hA => ((Item.ofMany (h.ok (Item.many R) (by simp))).1 A hA).2
theorem HS.manyCons {A : Item} (h : HS D W L w) (i : Nat) (hi : L[i]? = some (Item.many (A :: R))) : HS D W (L.eraseIdx i ++ [A, Item.many R]) w := by
  have h1 := h.last i hi
  have h0 := low_ofMany h1
  have h2 := h1.ofMany
  rw [show L.eraseIdx i ++ A :: R = (L.eraseIdx i ++ [A]) ++ R by simp] at h2
  have h3 := h2.toMany fun X hX => h0 X (by simp [hX])
  simpa using h3
theorem HS.manyApp {R' : List Item} (h : HS D W L w) (i : Nat) (hi : L[i]? = some (Item.many (R ++ R'))) : HS D W (L.eraseIdx i ++ [Item.many R, Item.many R']) w := by
  have h1 := h.last i hi
  have h0 := low_ofMany h1
  have h2 := h1.ofMany
  rw [← List.append_assoc] at h2
  have h3 := h2.toMany fun X hX => h0 X (by simp [hX])
  rw [List.append_assoc] at h3
  have h4 := (h3.permu (List.perm_append_comm.append_left _ : (L.eraseIdx i ++ (R ++ [Item.many R'])).Perm (L.eraseIdx i ++ ([Item.many R'] ++ R))))
  rw [← List.append_assoc] at h4
  have h5 := h4.toMany fun X hX => h0 X (by simp [hX])
  rw [List.append_assoc] at h5
  exact h5.permu (List.perm_append_comm.append_left _)
/-- The things from n on, as one. -/
theorem HS.shut (h : HS D W L w) (n : Nat) (h0 : ∀ A ∈ L.drop n, A.low = 0) : HS D W (L.take n ++ [Item.many (L.drop n)]) w :=
  HS.toMany (by rw [List.take_append_drop]; exact h) h0
theorem HS.manyJoin {R' : List Item} (h : HS D W (L ++ [Item.many R, Item.many R']) w) : HS D W (L ++ [Item.many (R ++ R')]) w := by
  have h1 : HS D W ((L ++ [Item.many R]) ++ [Item.many R']) w := by simpa using h
  have h0 := low_ofMany h1
  have h2 : HS D W ((L ++ R') ++ [Item.many R]) w := by
    have := h1.ofMany.permu (show ((L ++ [Item.many R]) ++ R').Perm ((L ++ R') ++ [Item.many R]) by
      rw [List.append_assoc, List.append_assoc]; exact List.perm_append_comm.append_left _)
    exact this
  have h3 := low_ofMany h2
  have h4 := h2.ofMany.permu (show ((L ++ R') ++ R).Perm (L ++ (R ++ R')) by
    rw [List.append_assoc]; exact List.perm_append_comm.append_left _)
  exact h4.toMany fun A hA => by
    rcases List.mem_append.1 hA with hA | hA
    · exact h3 A hA
    · exact h0 A hA
theorem HS.manyEq {R' : List Item} (h : HS D W (L ++ [Item.many R]) w) (hp : R.Perm R') : HS D W (L ++ [Item.many R']) w :=
  (h.ofMany.permu (hp.append_left L)).toMany fun A hA => low_ofMany h A (hp.mem_iff.2 hA)
/-- What a call hands back, beside what one has. -/
theorem HS.join (H : HS D W L w) (K : HS NoD w R w') (h0 : ∀ A ∈ R, A.low = 0) : HS D W (L ++ R) w' := by
  have H' := H.below K.done
  refine ⟨H'.os, H'.tape, H'.output, H'.size, H'.old, fun X hX => ?_, fun X hX k hk => ?_, fun X hX => ?_, List.pairwise_append.2 ⟨H'.dis, K.dis, fun X hX Y hY k hk hk' => ?_⟩⟩
  · rcases List.mem_append.1 hX with hX | hX
    · exact H'.ok X hX
    · exact K.ok X hX
  · rcases List.mem_append.1 hX with hX | hX
    · exact H'.own X hX k hk
    · exact .inl (Nat.le_trans H.size ((K.own X hX k hk).resolve_right id))
  · rcases List.mem_append.1 hX with hX | hX
    · exact H'.low X hX
    · rw [h0 X hX]; exact ⟨Nat.zero_le _, fun k hk => absurd hk (Nat.not_lt_zero _)⟩
  · have h1 := H.lts X hX k hk
    have h2 := (K.own Y hY k hk').resolve_right id
    omega
theorem HS.join1 (H : HS D W L w) (K : HS NoD w [Item.many R] w') : HS D W (L ++ [Item.many R]) w' := H.join K fun A hA => by cases List.mem_singleton.1 hA; rfl
/-- The same of a call that may turn the stream. -/
theorem HS.joinDice (H : HS D W L w) (i : Nat) {B b : Nat} (hi : L[i]? = some (.dice B b)) (K : HS (OneD b) w (.dice B b :: R) w') (h0 : ∀ A ∈ R, A.low = 0) : HS D W (L ++ R) w' := by
  have H' := H.diceAt i hi K.doneDice (K.ok (.dice B b) (by simp))
  have hd := List.pairwise_cons.1 K.dis
  have fresh : ∀ Y ∈ R, ∀ k, Y.fp k → w.heap.size ≤ k := fun Y hY k hk => by
    rcases K.own Y (by simp [hY]) k hk with h | h
    · exact h
    · exact absurd hk (hd.1 Y hY k h)
  refine ⟨H'.os, H'.tape, H'.output, H'.size, H'.old, fun X hX => ?_, fun X hX k hk => ?_, fun X hX => ?_, List.pairwise_append.2 ⟨H'.dis, hd.2, fun X hX Y hY k hk hk' => ?_⟩⟩
  · rcases List.mem_append.1 hX with hX | hX
    · exact H'.ok X hX
    · exact K.ok X (by simp [hX])
  · rcases List.mem_append.1 hX with hX | hX
    · exact H'.own X hX k hk
    · exact .inl (Nat.le_trans H.size (fresh X hX k hk))
  · rcases List.mem_append.1 hX with hX | hX
    · exact H'.low X hX
    · rw [h0 X hX]; exact ⟨Nat.zero_le _, fun k hk => absurd hk (Nat.not_lt_zero _)⟩
  · have h1 := H.lts X hX k hk
    have h2 := fresh Y hY k hk'
    omega
end

/-- A cell of a slice of one's own: what is there, and that it may be stored to. -/
theorem HS.rowCells {D : Nat → Prop} {W w : World} {L : List Item} (h : HS D W L w) (i : Nat) {g n cap k : Nat} {e : TypeId} {xs : List Value} (hi : L[i]? = some (.row (.slice (some ⟨g, 0, none⟩) n cap) e k n xs)) (j : Nat) (hj : j < n * k) : w.cell? ⟨g, j, none⟩ = xs[j]? ∧ w.frozen? ⟨g, j, none⟩ = false := by
  have h1 : w.ownsRow 0 e k (.slice (some ⟨g, 0, none⟩) n cap) n xs := h.at i hi
  refine ⟨World.ownsRow.cellAt h1 j hj, ?_⟩
  rcases h1.2 with ⟨h2, h3⟩ | ⟨g', cap', cur, hv, hg, hh, r⟩
  · cases h2
  · injection hv with e1 e2 e3
    injection e1 with e1
    injection e1 with e1
    subst e1
    exact Blk.free (show Blk w g cur e from hh) _
/-! ### A slice as a callee reads it -/
/-- The value v is a slice whose elements, below block B, are xs. -/
def Sl {α : Type} [Inhabited α] (w : World) (B : Nat) (v : Value) (k : Nat) (enc : α → List Value) (xs : List α) : Prop :=
  ∃ sa c, v = .slice sa xs.length c ∧ (xs.length ≤ c ∧ (sa = none → c = 0)) ∧ Lies w B sa k xs.length (fun j => enc xs[j]!)
theorem Sl.mono {α : Type} [Inhabited α] {w : World} {B B' k : Nat} {v : Value} {enc : α → List Value} {xs : List α} (h : Sl w B v k enc xs) (hb : B ≤ B') : Sl w B' v k enc xs := by
  obtain ⟨sa, c, e, hc, hl⟩ := h
  exact ⟨sa, c, e, hc, hl.mono hb⟩
theorem Sl.below {α : Type} [Inhabited α] {w w' : World} {B k : Nat} {v : Value} {enc : α → List Value} {xs : List α} (h : Sl w B v k enc xs) (hB : B ≤ w.heap.size) (hb : Below w.heap.size w w') : Sl w' B v k enc xs := by
  obtain ⟨sa, c, e, hc, hl⟩ := h
  exact ⟨sa, c, e, hc, hl.below hB hb⟩
theorem HS.sl {W w : World} {L : List Item} (h : HS NoD W L w) {α : Type} [Inhabited α] {k : Nat} {v : Value} {enc : α → List Value} {xs : List α} (hl : Sl W W.heap.size v k enc xs) : Sl w W.heap.size v k enc xs := by
  obtain ⟨sa, c, e, hc, hl⟩ := hl
  exact ⟨sa, c, e, hc, h.lies hl⟩
theorem HS.slUp {W w : World} {L : List Item} (h : HS NoD W L w) {α : Type} [Inhabited α] {k : Nat} {v : Value} {enc : α → List Value} {xs : List α} (hl : Sl W W.heap.size v k enc xs) : Sl w w.heap.size v k enc xs := (h.sl hl).mono h.size
theorem ownsRow_cap {w : World} {B k n : Nat} {e : TypeId} {v : Value} {cs : List Value} (h : w.ownsRow B e k v n cs) : ∃ sa c, v = .slice sa n c ∧ (n ≤ c ∧ (sa = none → c = 0)) := by
  obtain ⟨h1, h2⟩ := h
  rcases h2 with ⟨h2, h3⟩ | ⟨g, cap, cur, hv, hg, hh, hle, r⟩
  · exact ⟨none, 0, by rw [h2, h3], by omega, fun _ => rfl⟩
  · exact ⟨_, _, hv, hle, fun e => by cases e⟩
theorem ownsRow_sl {α : Type} [Inhabited α] {enc : α → List Value} {k : Nat} (hk : ∀ x, (enc x).length = k) {w : World} {B n : Nat} {e : TypeId} {v : Value} {xs : List α} (hn : n = xs.length) (h : w.ownsRow B e k v n (xs.flatMap enc)) : Sl w w.heap.size v k enc xs := by
  subst hn
  obtain ⟨sa, c, rfl, hc⟩ := ownsRow_cap h
  exact ⟨sa, c, rfl, hc, ownsRow_lies hk rfl h⟩
theorem Sl.nil {α : Type} [Inhabited α] (w : World) (B k : Nat) (enc : α → List Value) : Sl w B (.slice none 0 0) k enc ([] : List α) := ⟨none, 0, rfl, ⟨Nat.zero_le _, fun _ => rfl⟩, Lies.nil0⟩
end Go.Proofs.YtedbpmckgiifpaaGreat

/- Programs and their pages in memory: as a callee reads them, and as one's own. -/
namespace Go.Proofs.YtedbpmckgiifpaaGreat
set_option linter.unusedSimpArgs false
set_option linter.unusedVariables false
open Go.RowKit

structure Pg where
  n : Int
  f : Int
  s : Bool
deriving Inhabited, DecidableEq
structure Pr where
  id : Int
  tells : Bool
  dead : Bool
  pages : List Pg
  told : List Int
deriving Inhabited, DecidableEq
/-- A program with its slices' values. -/
structure Pv where
  p : Pr
  pa : Value
  ta : Value
deriving Inhabited
def pgC (x : Pg) : List Value := [.int .i64 x.n, .int .i64 x.f, .bool x.s]
def pvC (q : Pv) : List Value := [.int .i64 q.p.id, .bool q.p.tells, .bool q.p.dead, q.pa, q.ta]
theorem pgC_len (x : Pg) : (pgC x).length = 3 := rfl
theorem pvC_len (q : Pv) : (pvC q).length = 5 := rfl
/-- What a program's slices hold, below block B. -/
def PvAt (w : World) (B : Nat) (q : Pv) : Prop := Sl w B q.pa 3 pgC q.p.pages ∧ Sl w B q.ta 1 iC q.p.told
/-- Programs, as a callee reads them. -/
def Ps (w : World) (B : Nat) (v : Value) (ps : List Pr) : Prop := ∃ qs : List Pv, qs.map (·.p) = ps ∧ Sl w B v 5 pvC qs ∧ ∀ q ∈ qs, PvAt w B q
theorem PvAt.mono {w : World} {B B' : Nat} {q : Pv} (h : PvAt w B q) (hb : B ≤ B') : PvAt w B' q := ⟨h.1.mono hb, h.2.mono hb⟩
theorem Ps.mono {w : World} {B B' : Nat} {v : Value} {ps : List Pr} (h : Ps w B v ps) (hb : B ≤ B') : Ps w B' v ps := by
  obtain ⟨qs, h1, h2, h3⟩ := h
  exact ⟨qs, h1, h2.mono hb, fun q hq => (h3 q hq).mono hb⟩
theorem HS.pvAt {W w : World} {L : List Item} (h : HS NoD W L w) {q : Pv} (hl : PvAt W W.heap.size q) : PvAt w W.heap.size q := ⟨h.sl hl.1, h.sl hl.2⟩
theorem HS.ps {W w : World} {L : List Item} (h : HS NoD W L w) {v : Value} {ps : List Pr} (hl : Ps W W.heap.size v ps) : Ps w W.heap.size v ps := by
  obtain ⟨qs, h1, h2, h3⟩ := hl
  exact ⟨qs, h1, h.sl h2, fun q hq => h.pvAt (h3 q hq)⟩
theorem HS.psUp {W w : World} {L : List Item} (h : HS NoD W L w) {v : Value} {ps : List Pr} (hl : Ps W W.heap.size v ps) : Ps w w.heap.size v ps := (h.ps hl).mono h.size
/-- Programs of one's own: the slice, and the slices within. -/
def innerR (q : Pv) : List Item := [.row q.pa 49 3 q.p.pages.length (q.p.pages.flatMap pgC), .row q.ta 3 1 q.p.told.length (q.p.told.flatMap iC)]
def outerR (v : Value) (qs : List Pv) : Item := .row v 52 5 qs.length (qs.flatMap pvC)
def PsR (v : Value) (qs : List Pv) : List Item := outerR v qs :: qs.flatMap innerR
theorem inner_low {qs : List Pv} : ∀ A ∈ qs.flatMap innerR, A.low = 0 := fun A hA => by
  obtain ⟨q, hq, h⟩ := List.mem_flatMap.1 hA
  simp only [innerR, List.mem_cons, List.mem_nil_iff, or_false] at h
  rcases h with rfl | rfl <;> rfl
theorem PsR_low {v : Value} {qs : List Pv} : ∀ A ∈ PsR v qs, A.low = 0 := fun A hA => by
  rcases List.mem_cons.1 hA with rfl | hA
  · rfl
  · exact inner_low A hA
theorem innerAt {qs : List Pv} {w : World} (h : ∀ A ∈ qs.flatMap innerR, A.ok w) : ∀ q ∈ qs, PvAt w w.heap.size q := fun q hq => by
  have h1 : (Item.row q.pa 49 3 q.p.pages.length (q.p.pages.flatMap pgC)).ok w := h _ (List.mem_flatMap.2 ⟨q, hq, by simp [innerR]⟩)
  have h2 : (Item.row q.ta 3 1 q.p.told.length (q.p.told.flatMap iC)).ok w := h _ (List.mem_flatMap.2 ⟨q, hq, by simp [innerR]⟩)
  exact ⟨ownsRow_sl pgC_len rfl h1, ownsRow_sl iC_len rfl h2⟩
theorem ownPs {v : Value} {qs : List Pv} {w : World} (h : ∀ A ∈ PsR v qs, A.ok w) : Ps w w.heap.size v (qs.map (·.p)) :=
  ⟨qs, rfl, ownsRow_sl (e := 52) (B := 0) pvC_len rfl (h (outerR v qs) (by simp [PsR])), innerAt fun A hA => h A (by simp [PsR, hA])⟩
theorem HS.ownPs {D : Nat → Prop} {W w : World} {L : List Item} (h : HS D W L w) (i : Nat) {v : Value} {qs : List Pv} (hi : L[i]? = some (.many (PsR v qs))) : Ps w w.heap.size v (qs.map (·.p)) :=
  Proofs.YtedbpmckgiifpaaGreat.ownPs fun A hA => ((Item.ofMany (h.at i hi)).1 A hA).1
/-- A call hands back programs of its own. -/
def GivesP (mk : Value → Value) (ps : List Pr) (w : World) (x : Ending) (w' : World) : Prop :=
  ∃ v qs, x = .returned (mk v) ∧ qs.map (·.p) = ps ∧ HS NoD w [.many (PsR v qs)] w'
end Go.Proofs.YtedbpmckgiifpaaGreat

/- What the functions over programs answer, in plain words. -/
namespace Go.Proofs.YtedbpmckgiifpaaGreat
set_option linter.unusedSimpArgs false
set_option linter.unusedVariables false

def live (id : Int) (p : Pr) : Bool := decide (p.id = id) && !p.dead
def numb (n : Int) (x : Pg) : Bool := decide (x.n = n)
def idx? (o : Option Nat) : Int := match o with | none => -1 | some i => i
def usersL (ps : List Pr) (f : Int) : List (Int × Int) := ps.flatMap fun p => (p.pages.filter fun x => decide (x.f = f)).map fun x => (p.id, x.n)
def usedB (ps : List Pr) (f : Int) : Bool := ps.any fun p => p.pages.any fun x => decide (x.f = f)
/-- The indices of a live program and its page, or the error. -/
def findP (ps : List Pr) (id n : Int) : Int × Nat × Nat :=
  match ps.findIdx? (live id) with
  | none => (42, 0, 0)
  | some i => match (ps[i]!).pages.findIdx? (numb n) with
    | none => (41, 0, 0)
    | some k => (0, i, k)
def insPg (l : List Pg) (x : Pg) : List Pg := l.takeWhile (fun y => decide (y.n < x.n)) ++ x :: l.dropWhile (fun y => decide (y.n < x.n))
def insPr (l : List Pr) (x : Pr) : List Pr := l.takeWhile (fun y => decide (y.id < x.id)) ++ x :: l.dropWhile (fun y => decide (y.id < x.id))
def mapP (ps : List Pr) (id n f : Int) : Int × List Pr :=
  match ps.findIdx? (live id) with
  | none => (42, [])
  | some i =>
    if n < 0 ∨ 999 < n ∨ f < 0 ∨ 64 ≤ f then (2, [])
    else if (ps[i]!).pages.any (numb n) = true then (8, [])
    else if usedB ps f = true then (43, [])
    else if 16 ≤ (ps[i]!).pages.length then (16, [])
    else (0, ps.set i { ps[i]! with pages := insPg (ps[i]!).pages ⟨n, f, false⟩ })
def shareP (p : Pr) : Pr := { p with pages := p.pages.map fun x => { x with s := true } }
def forkP (ps : List Pr) (id o : Int) : Int × List Pr :=
  match ps.findIdx? (live id) with
  | none => (42, [])
  | some i =>
    if o < 1 ∨ 999 < o then (2, [])
    else if ps.any (fun p => decide (p.id = o)) = true then (8, [])
    else if 8 ≤ ps.length then (16, [])
    else (0, insPr (ps.set i (shareP ps[i]!)) ⟨o, (ps[i]!).tells, false, (shareP ps[i]!).pages, []⟩)
def leftP (ps : List Pr) (f : Int) : Int := if usedB ps f = true then -1 else f
def dropP (ps : List Pr) (id n : Int) : Int × List Pr × Int :=
  match findP ps id n with
  | (0, i, k) =>
    let out := ps.set i { ps[i]! with pages := (ps[i]!).pages.eraseIdx k }
    (0, out, leftP out ((ps[i]!).pages[k]!).f)
  | (e, _, _) => (e, [], -1)
def ownP (ps : List Pr) (id n f : Int) : Int × List Pr × Int :=
  match findP ps id n with
  | (0, i, k) =>
    if f < 0 ∨ 64 ≤ f then (2, [], -1)
    else if usedB ps f = true then (43, [], -1)
    else
      let out := ps.set i { ps[i]! with pages := (ps[i]!).pages.set k ⟨((ps[i]!).pages[k]!).n, f, false⟩ }
      (0, out, leftP out ((ps[i]!).pages[k]!).f)
  | (e, _, _) => (e, [], -1)
def moveP (a b : Int) (p : Pr) : Pr := { p with pages := p.pages.map fun x => if x.f = a then { x with f := b } else x }
def replP (ps : List Pr) (a b : Int) : Int × List Pr :=
  if a < 0 ∨ 64 ≤ a ∨ b < 0 ∨ 64 ≤ b then (2, [])
  else if a ≠ b ∧ usedB ps b = true then (43, [])
  else (0, ps.map (moveP a b))
def endP (ps : List Pr) (id : Int) : Int × List Pr × List Int :=
  match ps.findIdx? (live id) with
  | none => (42, [], [])
  | some i =>
    let out := ps.set i { ps[i]! with dead := true, pages := [] }
    (0, out, (((List.range 64).map fun (k : Nat) => (k : Int)).filter fun f => usedB ps f && !usedB out f))
end Go.Proofs.YtedbpmckgiifpaaGreat
