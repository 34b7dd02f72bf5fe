/- What a function's call knows of memory, in one bundle: which blocks hold what, which of them it owns, and that all that was there is as it was. -/
import Derived.Test.YtfmcicmbehjdcaaFloat
import Derived.Handy
namespace Go.Proofs.Ytfmcicmbehjdcaa
set_option linter.unusedSimpArgs false
set_option linter.unusedVariables false
open Go.RowKit

/-- What is known of memory: a block's cells; a stream of numbers; a slice of one's own. -/
inductive Item where
  | blk (b : Nat) (cs : Array Value) (t : TypeId)
  | dice (B b : Nat)
  | row (v : Value) (e : TypeId) (size n : Nat) (xs : List Value)
  | obj (b : Nat) (o : Obj)
  | any (F : Nat → Prop) (K : World → Prop)

def Item.fp : Item → Nat → Prop
  | .blk b _ _ => fun k => k = b
  | .dice _ b => fun k => k = b
  | .row v _ _ _ _ => fun k => v.ownBlock = some k
  | .obj b _ => fun k => k = b
  | .any F _ => F
def Item.ok : Item → World → Prop
  | .blk b cs t => fun w => Blk w b cs t
  | .dice B b => fun w => Dice B w b
  | .row v e s n xs => fun w => w.ownsRow 0 e s v n xs
  | .obj b o => fun w => w.heap[b]? = some o
  | .any F K => fun w => K w ∧ (∀ k, F k → k < w.heap.size) ∧ ∀ w', (∀ k, F k → w'.heap[k]? = w.heap[k]?) → K w'
/-- The lowest block of the caller's on which the thing leans besides its own. -/
def Item.low : Item → Nat
  | .dice B _ => B
  | _ => 0

theorem Item.lt {A : Item} {w : World} (h : A.ok w) {k : Nat} (hk : A.fp k) : k < w.heap.size := by
  cases A with
  | blk b cs t => rw [show k = b from hk]; exact Blk.lt h
  | dice B b => rw [show k = b from hk]; exact Dice.lt h
  | row v e s n xs =>
    obtain ⟨h1, h2⟩ := (show w.ownsRow 0 e s v n xs from h)
    have hk' : v.ownBlock = some k := hk
    rcases h2 with ⟨h2, _⟩ | ⟨g, cap, cur, hv, hg, hh, r⟩
    · rw [h2] at hk'; cases hk'
    · rw [hv] at hk'
      obtain rfl : g = k := by simpa [Value.ownBlock] using hk'
      exact lt_of_heap hh
  | obj b o => rw [show k = b from hk]; exact lt_of_heap h
  | any F K => exact (show K w ∧ (∀ k, F k → k < w.heap.size) ∧ _ from h).2.1 k hk
theorem Item.keep {A : Item} {w w' : World} (h : A.ok w) (hf : ∀ k, A.fp k → w'.heap[k]? = w.heap[k]?) (hl : ∀ k, k < A.low → k < w.heap.size → w'.heap[k]? = w.heap[k]?) : A.ok w' := by
  cases A with
  | blk b cs t => exact (hf b rfl).trans h
  | dice B b => exact Dice.of_blocks h (hf b rfl) hl
  | row v e s n xs =>
    obtain ⟨h1, h2⟩ := (show w.ownsRow 0 e s v n xs from h)
    refine ⟨h1, ?_⟩
    rcases h2 with h2 | ⟨g, cap, cur, hv, hg, hh, r⟩
    · exact .inl h2
    · exact .inr ⟨g, cap, cur, hv, hg, (hf g (by show v.ownBlock = some g; rw [hv]; rfl)).trans hh, r⟩
  | obj b o => exact (hf b rfl).trans h
  | any F K =>
    obtain ⟨h1, h2, h3⟩ := (show K w ∧ (∀ k, F k → k < w.heap.size) ∧ ∀ w', (∀ k, F k → w'.heap[k]? = w.heap[k]?) → K w' from h)
    refine ⟨h3 w' hf, fun k hk => ?_, fun w'' h'' => h3 w'' fun k hk => (h'' k hk).trans (hf k hk)⟩
    have e := hf k hk
    rw [Array.getElem?_eq_getElem (h2 k hk)] at e
    exact lt_of_heap e

/-- In w, reached from W: all blocks of W but those of D are as they were; L is what is known, of blocks of one's own (new ones, or of D), all apart. -/
structure HS (D : Nat → Prop) (W : World) (L : List Item) (w : World) : Prop where
  os : w.os = W.os
  tape : w.tape = W.tape
  output : w.output = W.output
  size : W.heap.size ≤ w.heap.size
  old : ∀ k, k < W.heap.size → ¬ D k → w.heap[k]? = W.heap[k]?
  ok : ∀ A ∈ L, A.ok w
  own : ∀ A ∈ L, ∀ k, A.fp k → W.heap.size ≤ k ∨ D k
  low : ∀ A ∈ L, A.low ≤ W.heap.size ∧ ∀ k, k < A.low → ¬ D k
  dis : L.Pairwise fun A A' => ∀ k, A.fp k → ¬ A'.fp k

def NoD : Nat → Prop := fun _ => False
def OneD (b : Nat) : Nat → Prop := fun k => k = b

section
variable {D : Nat → Prop} {W w w' : World} {L : List Item}
theorem HS.start (D : Nat → Prop) (W : World) : HS D W [] W := ⟨rfl, rfl, rfl, Nat.le_refl _, fun _ _ _ => rfl, fun _ h => (List.not_mem_nil h).elim, fun _ h => (List.not_mem_nil h).elim, fun _ h => (List.not_mem_nil h).elim, .nil⟩
theorem HS.startDice {W : World} {B b : Nat} (h : Dice B W b) (hB : B ≤ W.heap.size) : HS (OneD b) W [.dice B b] W :=
  ⟨rfl, rfl, rfl, Nat.le_refl _, fun _ _ _ => rfl, fun A hA => (by cases List.mem_singleton.1 hA; exact h), fun A hA k hk => (by cases List.mem_singleton.1 hA; exact .inr hk),
   fun A hA => by cases List.mem_singleton.1 hA; exact ⟨hB, fun k hk e => by have := h.base; unfold OneD at e; simp only [Item.low] at hk; omega⟩, List.pairwise_singleton _ _⟩

/-- A turn of the world that leaves all that is known and all that is the caller's. -/
theorem HS.turn (h : HS D W L w) (ho : w'.os = w.os) (ht : w'.tape = w.tape) (hu : w'.output = w.output) (hs : w.heap.size ≤ w'.heap.size) (hb : ∀ k, k < w.heap.size → (∃ A ∈ L, A.fp k) ∨ (k < W.heap.size ∧ ¬ D k) → w'.heap[k]? = w.heap[k]?) : HS D W L w' := by
  refine ⟨ho.trans h.os, ht.trans h.tape, hu.trans h.output, Nat.le_trans h.size hs, fun k hk hd => (hb k (Nat.lt_of_lt_of_le hk h.size) (.inr ⟨hk, hd⟩)).trans (h.old k hk hd), fun A hA => ?_, h.own, h.low, h.dis⟩
  refine Item.keep (h.ok A hA) (fun k hk => hb k (Item.lt (h.ok A hA) hk) (.inl ⟨A, hA, hk⟩)) fun k hk hlt => hb k hlt (.inr ?_)
  obtain ⟨h1, h2⟩ := h.low A hA
  exact ⟨by omega, h2 k hk⟩
theorem HS.below (h : HS D W L w) (hb : Below w.heap.size w w') : HS D W L w' := h.turn hb.os hb.tape hb.output hb.size fun k hk _ => hb.block k hk
theorem HS.eqW (e : w = w') (h : HS D W L w) : HS D W L w' := e ▸ h
theorem HS.drew (h : HS D W L w) : HS D W L w.drew := h.turn rfl rfl rfl (Nat.le_refl _) fun _ _ _ => rfl
theorem HS.drewN (h : HS D W L w) (n : Nat) : HS D W L (w.drewN n) := h.turn rfl rfl rfl (Nat.le_refl _) fun _ _ _ => rfl
theorem HS.less (h : HS D W L w) {L' : List Item} (hl : L'.Sublist L) : HS D W L' w :=
  ⟨h.os, h.tape, h.output, h.size, h.old, fun A hA => h.ok A (hl.subset hA), fun A hA => h.own A (hl.subset hA), fun A hA => h.low A (hl.subset hA), h.dis.sublist hl⟩
/-- Something new in blocks that were not there. -/
theorem HS.add (h : HS D W L w') {n : Nat} (hn : ∀ A ∈ L, ∀ k, A.fp k → k < n) (hW : W.heap.size ≤ n) {A : Item} (hA : A.ok w') (hf : ∀ k, A.fp k → n ≤ k) (hl : A.low ≤ W.heap.size ∧ ∀ k, k < A.low → ¬ D k) : HS D W (L ++ [A]) w' := by
  refine ⟨h.os, h.tape, h.output, h.size, h.old, fun X hX => ?_, fun X hX k hk => ?_, fun X hX => ?_, ?_⟩
  · rcases List.mem_append.1 hX with hX | hX
    · exact h.ok X hX
    · cases List.mem_singleton.1 hX; exact hA
  · rcases List.mem_append.1 hX with hX | hX
    · exact h.own X hX k hk
    · cases List.mem_singleton.1 hX; exact .inl (Nat.le_trans hW (hf k hk))
  · rcases List.mem_append.1 hX with hX | hX
    · exact h.low X hX
    · cases List.mem_singleton.1 hX; exact hl
  · refine List.pairwise_append.2 ⟨h.dis, List.pairwise_singleton _ _, fun X hX Y hY k hk hk' => ?_⟩
    cases List.mem_singleton.1 hY
    have := hn X hX k hk; have := hf k hk'; omega
theorem HS.lts (h : HS D W L w) : ∀ A ∈ L, ∀ k, A.fp k → k < w.heap.size := fun A hA k hk => Item.lt (h.ok A hA) hk
theorem HS.alloc (h : HS D W L w) {cs : Array Value} {t : TypeId} : HS D W (L ++ [.blk w.heap.size cs t]) (w.alloc (.cells cs t)) :=
  HS.add (A := .blk w.heap.size cs t) (h.below ((Below.refl _ _).alloc (Nat.le_refl _) _)) h.lts h.size (Blk.new w cs t) (fun k hk => by rw [show k = w.heap.size from hk]; exact Nat.le_refl _) ⟨Nat.zero_le _, fun k hk => absurd hk (Nat.not_lt_zero _)⟩
theorem HS.allocObj (h : HS D W L w) {o : Obj} : HS D W (L ++ [.obj w.heap.size o]) (w.alloc o) :=
  HS.add (A := .obj w.heap.size o) (h.below ((Below.refl _ _).alloc (Nat.le_refl _) _)) h.lts h.size (by show (w.heap.push _)[w.heap.size]? = _; simp) (fun k hk => by rw [show k = w.heap.size from hk]; exact Nat.le_refl _) ⟨Nat.zero_le _, fun k hk => absurd hk (Nat.not_lt_zero _)⟩
theorem HS.skipAlloc (h : HS D W L w) {o : Obj} : HS D W L (w.alloc o) := h.turn rfl rfl rfl (by simp) fun k hk _ => Below.heap_alloc _ _ _ hk
/-- A call that leaves all that was there, and hands back something new. -/
theorem HS.gets (h : HS D W L w) (hb : Below w.heap.size w w') {A : Item} (hA : A.ok w') (hf : ∀ k, A.fp k → w.heap.size ≤ k) (hl : A.low ≤ W.heap.size ∧ ∀ k, k < A.low → ¬ D k) : HS D W (L ++ [A]) w' :=
  HS.add (h.below hb) h.lts h.size hA hf hl

theorem pairwise_mid {α : Type} {R : α → α → Prop} {l1 l2 : List α} {x y : α} (h : (l1 ++ x :: l2).Pairwise R) (h1 : ∀ a, R a x → R a y) (h2 : ∀ a, R x a → R y a) : (l1 ++ y :: l2).Pairwise R := by
  rw [List.pairwise_append] at h ⊢
  obtain ⟨a, b, c⟩ := h
  rw [List.pairwise_cons] at b ⊢
  refine ⟨a, ⟨fun z hz => h2 z (b.1 z hz), b.2⟩, fun z hz u hu => ?_⟩
  rcases List.mem_cons.1 hu with rfl | hu
  · exact h1 z (c z hz _ (by simp))
  · exact c z hz u (by simp [hu])
theorem dis_mid {l1 l2 : List Item} {X Y : Item} (hd : (l1 ++ X :: l2).Pairwise fun A A' => ∀ k, A.fp k → ¬ A'.fp k) (hY : Y ∈ l1 ++ l2) {k : Nat} (hX : X.fp k) : ¬ Y.fp k := by
  rw [List.pairwise_append] at hd
  obtain ⟨a, b, c⟩ := hd
  rw [List.pairwise_cons] at b
  intro hk
  rcases List.mem_append.1 hY with hY | hY
  · exact c Y hY X (by simp) k hk hX
  · exact b.1 Y hY k hX hk
/-- One thing turns, on its own blocks, into another on the same ones or fewer. -/
theorem HS.swap {l1 l2 : List Item} {X Y : Item} (h : HS D W (l1 ++ X :: l2) w) (ho : w'.os = w.os) (ht : w'.tape = w.tape) (hu : w'.output = w.output) (hs : w.heap.size ≤ w'.heap.size) (hb : ∀ k, k < w.heap.size → ¬ X.fp k → w'.heap[k]? = w.heap[k]?)
    (hY : Y.ok w') (hf : ∀ k, Y.fp k → X.fp k ∨ w.heap.size ≤ k) (hl : Y.low = X.low ∨ Y.low = 0) : HS D W (l1 ++ Y :: l2) w' := by
  have hXo : ∀ k, X.fp k → W.heap.size ≤ k ∨ D k := fun k hk => h.own X (by simp) k hk
  have hX1 := h.low X (by simp)
  refine ⟨ho.trans h.os, ht.trans h.tape, hu.trans h.output, Nat.le_trans h.size hs, fun k hk hd => (hb k (Nat.lt_of_lt_of_le hk h.size) fun hx => ?_).trans (h.old k hk hd), fun A hA => ?_, fun A hA k hk => ?_, fun A hA => ?_, ?_⟩
  · rcases hXo k hx with h1 | h1
    · omega
    · exact hd h1
  · have hmem : A = Y ∨ A ∈ l1 ++ l2 := by
      rcases List.mem_append.1 hA with hA | hA
      · exact .inr (by simp [hA])
      · rcases List.mem_cons.1 hA with hA | hA
        · exact .inl hA
        · exact .inr (by simp [hA])
    rcases hmem with rfl | hmem
    · exact hY
    · have hA' : A ∈ l1 ++ X :: l2 := by rcases List.mem_append.1 hmem with h | h <;> simp [h]
      refine Item.keep (h.ok A hA') (fun k hk => hb k (Item.lt (h.ok A hA') hk) fun hx => dis_mid h.dis hmem hx hk) fun k hk hlt => hb k hlt fun hx => ?_
      obtain ⟨h1, h2⟩ := h.low A hA'
      rcases hXo k hx with h3 | h3
      · omega
      · exact h2 k hk h3
  · rcases List.mem_append.1 hA with hA | hA
    · exact h.own A (by simp [hA]) k hk
    · rcases List.mem_cons.1 hA with rfl | hA
      · rcases hf k hk with h1 | h1
        · exact hXo k h1
        · exact .inl (Nat.le_trans h.size h1)
      · exact h.own A (by simp [hA]) k hk
  · rcases List.mem_append.1 hA with hA | hA
    · exact h.low A (by simp [hA])
    · rcases List.mem_cons.1 hA with rfl | hA
      · rcases hl with e | e
        · rw [e]; exact hX1
        · rw [e]; exact ⟨Nat.zero_le _, fun k hk => absurd hk (Nat.not_lt_zero _)⟩
      · exact h.low A (by simp [hA])
  · have hd := h.dis
    have hlt := h.lts
    rw [List.pairwise_append] at hd ⊢
    obtain ⟨a, b, c⟩ := hd
    rw [List.pairwise_cons] at b ⊢
    refine ⟨a, ⟨fun z hz k hk hk' => ?_, b.2⟩, fun z hz u hu k hk hk' => ?_⟩
    · rcases hf k hk with h1 | h1
      · exact b.1 z hz k h1 hk'
      · have := hlt z (by simp [hz]) k hk'; omega
    · rcases List.mem_cons.1 hu with rfl | hu
      · rcases hf k hk' with h1 | h1
        · exact c z hz X (by simp) k hk h1
        · have := hlt z (by simp [hz]) k hk; omega
      · exact c z hz u (by simp [hu]) k hk hk'
/-- A call that may turn the stream alone. -/
theorem HS.dice {l1 l2 : List Item} {B b : Nat} (h : HS D W (l1 ++ .dice B b :: l2) w) (hg : Chg b w w') (hd : Dice B w' b) : HS D W (l1 ++ .dice B b :: l2) w' :=
  h.swap (X := .dice B b) hg.os hg.tape hg.output hg.size (fun k hk hn => hg.block k hk hn) hd (fun k hk => .inl hk) (.inl rfl)
/-- A store into a block of one's own. -/
theorem HS.set {l1 l2 : List Item} {b : Nat} {cs : Array Value} {t : TypeId} (h : HS D W (l1 ++ .blk b cs t :: l2) w) (i : Nat) (v : Value) : HS D W (l1 ++ .blk b (cs.setIfInBounds i v) t :: l2) (w.setCell ⟨b, i, none⟩ v) :=
  h.swap (X := .blk b cs t) rfl rfl rfl (by simp [World.setCell]) (fun k hk hn => Below.heap_setCell _ _ _ _ hn) (Blk.set (h.ok (.blk b cs t) (by simp)) i v) (fun k hk => .inl hk) (.inr rfl)
/-- The end of a call that may turn nothing. -/
theorem HS.done (h : HS NoD W L w) : Below W.heap.size W w := ⟨h.os, h.tape, h.output, h.size, fun k hk => h.old k hk id⟩
theorem HS.doneDice {b : Nat} (h : HS (OneD b) W L w) : Chg b W w := ⟨h.os, h.tape, h.output, h.size, fun k hk hn => h.old k hk hn⟩
theorem HS.get (h : HS D W L w) {A : Item} (hA : A ∈ L) : A.ok w := h.ok A hA
theorem HS.was (h : HS D W L w) {p : Addr} (hp : p.block < W.heap.size) (hd : ¬ D p.block) : w.cell? p = W.cell? p := World.cell?_of_block (w := W) (h.old _ hp hd)
end

/-- What the walk's simp needs to know of the blocks. -/
def apartOf (b : Nat) : List Item → Prop
  | [] => True
  | .blk b' _ _ :: L => (b = b') = False ∧ (b' = b) = False ∧ apartOf b L
  | .dice _ b' :: L => (b = b') = False ∧ (b' = b) = False ∧ apartOf b L
  | .obj b' _ :: L => (b = b') = False ∧ (b' = b) = False ∧ apartOf b L
  | _ :: L => apartOf b L
def cellsOf (w : World) : List Item → Prop
  | [] => True
  | .blk b cs t :: L => (∀ o, w.cell? ⟨b, o, none⟩ = cs[o]?) ∧ (∀ o, w.frozen? ⟨b, o, none⟩ = false) ∧ b < w.heap.size ∧ (w.heap.size = b) = False ∧ (b = w.heap.size) = False ∧ apartOf b L ∧ cellsOf w L
  | .dice _ b :: L => b < w.heap.size ∧ (w.heap.size = b) = False ∧ (b = w.heap.size) = False ∧ apartOf b L ∧ cellsOf w L
  | .obj b _ :: L => b < w.heap.size ∧ (w.heap.size = b) = False ∧ (b = w.heap.size) = False ∧ apartOf b L ∧ cellsOf w L
  | _ :: L => cellsOf w L
theorem apartOf_of {b : Nat} {A : Item} (hb : A.fp b) : ∀ {L : List Item}, (∀ X ∈ L, ∀ k, A.fp k → ¬ X.fp k) → apartOf b L
  | [], _ => trivial
  | .blk b' cs t :: L, h => by
    have h1 : ¬ b = b' := h (.blk b' cs t) (by simp) b hb
    exact ⟨eq_false h1, eq_false (Ne.symm h1), apartOf_of hb fun X hX => h X (by simp [hX])⟩
  | .dice B b' :: L, h => by
    have h1 : ¬ b = b' := h (.dice B b') (by simp) b hb
    exact ⟨eq_false h1, eq_false (Ne.symm h1), apartOf_of hb fun X hX => h X (by simp [hX])⟩
  | .row v e s n xs :: L, h => apartOf_of (L := L) hb fun X hX => h X (by simp [hX])
  | .any F K :: L, h => apartOf_of (L := L) hb fun X hX => h X (by simp [hX])
  | .obj b' o :: L, h => by
    have h1 : ¬ b = b' := h (.obj b' o) (by simp) b hb
    exact ⟨eq_false h1, eq_false (Ne.symm h1), apartOf_of hb fun X hX => h X (by simp [hX])⟩
theorem cellsOf_of {w : World} : ∀ {L : List Item}, (∀ A ∈ L, A.ok w) → (L.Pairwise fun A A' => ∀ k, A.fp k → ¬ A'.fp k) → cellsOf w L
  | [], _, _ => trivial
  | .blk b cs t :: L, h, hd => by
    have h1 : Blk w b cs t := h (.blk b cs t) (by simp)
    have hd' := List.pairwise_cons.1 hd
    exact ⟨h1.cell, h1.free, h1.lt, eq_false (by have := h1.lt; omega), eq_false (by have := h1.lt; omega), apartOf_of (A := .blk b cs t) rfl hd'.1, cellsOf_of (fun A hA => h A (by simp [hA])) hd'.2⟩
  | .dice B b :: L, h, hd => by
    have h1 : Dice B w b := h (.dice B b) (by simp)
    have hd' := List.pairwise_cons.1 hd
    exact ⟨h1.lt, eq_false (by have := h1.lt; omega), eq_false (by have := h1.lt; omega), apartOf_of (A := .dice B b) rfl hd'.1, cellsOf_of (fun A hA => h A (by simp [hA])) hd'.2⟩
  | .row v e s n xs :: L, h, hd => cellsOf_of (L := L) (fun A hA => h A (by simp [hA])) (List.pairwise_cons.1 hd).2
  | .any F K :: L, h, hd => cellsOf_of (L := L) (fun A hA => h A (by simp [hA])) (List.pairwise_cons.1 hd).2
  | .obj b o :: L, h, hd => by
    have h1 : w.heap[b]? = some o := h (.obj b o) (by simp)
    have hlt := lt_of_heap h1
    have hd' := List.pairwise_cons.1 hd
    exact ⟨hlt, eq_false (by omega), eq_false (by omega), apartOf_of (A := .obj b o) rfl hd'.1, cellsOf_of (fun A hA => h A (by simp [hA])) hd'.2⟩
theorem HS.cells {D : Nat → Prop} {W w : World} {L : List Item} (h : HS D W L w) : cellsOf w L := cellsOf_of h.ok h.dis

/-- Things apart. -/
def Apart (R : List Item) : Prop := R.Pairwise fun A A' => ∀ k, A.fp k → ¬ A'.fp k
/-- Things apart, as one. -/
def Item.many (R : List Item) : Item := .any (fun k => ∃ A ∈ R, A.fp k) (fun w => (∀ A ∈ R, A.ok w ∧ A.low = 0) ∧ Apart R)
theorem cellsM {w : World} {R L : List Item} : cellsOf w (Item.many R :: L) = cellsOf w L := rfl
theorem apartM {b : Nat} {R L : List Item} : apartOf b (Item.many R :: L) = apartOf b L := rfl

/-! ### by the place in the list -/
section
variable {D : Nat → Prop} {W w w' : World} {L : List Item}
theorem split_at {α : Type} : ∀ {L : List α} {i : Nat} {x : α}, L[i]? = some x → L = L.take i ++ x :: L.drop (i + 1) := by
  intro L i x h
  obtain ⟨hi, rfl⟩ := List.getElem?_eq_some_iff.1 h
  simp
theorem set_at {α : Type} {L : List α} {i : Nat} {x : α} (y : α) (h : L[i]? = some x) : L.set i y = L.take i ++ y :: L.drop (i + 1) := by
  obtain ⟨hi, rfl⟩ := List.getElem?_eq_some_iff.1 h
  rw [List.set_eq_take_append_cons_drop, if_pos hi]
theorem HS.setAt (h : HS D W L w) (i : Nat) {b : Nat} {cs : Array Value} {t : TypeId} (hi : L[i]? = some (.blk b cs t)) {o : Nat} {v : Value} : HS D W (L.set i (.blk b (cs.setIfInBounds o v) t)) (w.setCell ⟨b, o, none⟩ v) := by
  rw [set_at _ hi]
  rw [split_at hi] at h
  exact h.set o v
theorem HS.setTo (h : HS D W L w) (i : Nat) {b : Nat} {cs : Array Value} {t : TypeId} (hi : L[i]? = some (.blk b cs t)) {o : Nat} {v : Value} {L' : List Item} (hL : L.set i (.blk b (cs.setIfInBounds o v) t) = L') : HS D W L' (w.setCell ⟨b, o, none⟩ v) := hL ▸ h.setAt i hi
theorem HS.diceAt (h : HS D W L w) (i : Nat) {B b : Nat} (hi : L[i]? = some (.dice B b)) (hg : Chg b w w') (hd : Dice B w' b) : HS D W L w' := by
  have e := split_at hi
  rw [e] at h ⊢
  exact h.dice hg hd
theorem HS.at (h : HS D W L w) (i : Nat) {A : Item} (hi : L[i]? = some A) : A.ok w := h.ok A (List.mem_of_getElem? hi)
theorem HS.mine (h : HS NoD W L w) (i : Nat) {b : Nat} {cs : Array Value} {t : TypeId} (hi : L[i]? = some (.blk b cs t)) : W.heap.size ≤ b := (h.own _ (List.mem_of_getElem? hi) b rfl).resolve_right id
/-- A slice of one's own turns by an append. -/
theorem HS.grownAt (h : HS D W L w) (i : Nat) {v v' : Value} {e : TypeId} {s n n' : Nat} {xs ys : List Value} (hi : L[i]? = some (.row v e s n xs)) (hg : w.grownBy w' v.ownBlock) (hr : w'.ownsRow w.heap.size e s v' n' ys ∨ (w'.ownsRow 0 e s v' n' ys ∧ ∀ k, v'.ownBlock = some k → v.ownBlock = some k ∨ w.heap.size ≤ k)) : HS D W (L.set i (.row v' e s n' ys)) w' := by
  rw [set_at _ hi]
  rw [split_at hi] at h
  have hr' : w'.ownsRow 0 e s v' n' ys ∧ ∀ k, v'.ownBlock = some k → v.ownBlock = some k ∨ w.heap.size ≤ k := by
    rcases hr with hr | hr
    · obtain ⟨h1, h2⟩ := hr
      rcases h2 with h2 | ⟨g, cap, cur, hv, hgg, hh, r⟩
      · refine ⟨⟨h1, .inl h2⟩, fun k hk => ?_⟩
        rw [h2.1] at hk; cases hk
      · refine ⟨⟨h1, .inr ⟨g, cap, cur, hv, Nat.zero_le _, hh, r⟩⟩, fun k hk => ?_⟩
        rw [hv] at hk
        obtain rfl : g = k := by simpa [Value.ownBlock] using hk
        exact .inr hgg
    · exact hr
  exact h.swap (X := .row v e s n xs) (Y := .row v' e s n' ys) hg.os hg.tape hg.output hg.size (fun k hk hn => hg.block k hk (fun e => hn e.symm)) hr'.1 hr'.2 (.inr rfl)

/-- A block known besides. -/
theorem HS.lay (h : HS D W L w) {b : Nat} {cs : Array Value} {t : TypeId} (hb : Blk w b cs t) (hW : W.heap.size ≤ b) (hn : ∀ A ∈ L, ¬ A.fp b) : HS D W (L ++ [.blk b cs t]) w := by
  refine ⟨h.os, h.tape, h.output, h.size, h.old, fun X hX => ?_, fun X hX k hk => ?_, fun X hX => ?_, ?_⟩
  · rcases List.mem_append.1 hX with hX | hX
    · exact h.ok X hX
    · cases List.mem_singleton.1 hX; exact hb
  · rcases List.mem_append.1 hX with hX | hX
    · exact h.own X hX k hk
    · cases List.mem_singleton.1 hX; exact .inl (by rw [show k = b from hk]; exact hW)
  · rcases List.mem_append.1 hX with hX | hX
    · exact h.low X hX
    · cases List.mem_singleton.1 hX; exact ⟨Nat.zero_le _, fun k hk => absurd hk (Nat.not_lt_zero _)⟩
  · refine List.pairwise_append.2 ⟨h.dis, List.pairwise_singleton _ _, fun X hX Y hY k hk hk' => ?_⟩
    cases List.mem_singleton.1 hY
    rw [show k = b from hk'] at hk
    exact hn X hX hk
theorem lasting_hs {N : Nat} (h0 : ∀ A ∈ L, ∀ k, A.fp k → k < N) (hW : W.heap.size ≤ N) : Lasting N (fun w => HS D W L w) :=
  ⟨fun w o h => h.skipAlloc, fun w b cs hb h => h.turn rfl rfl rfl (by rw [size_setRow]; exact Nat.le_refl _) fun k hk hh => heap_setRow_other _ _ _ _ (by
    rcases hh with ⟨A, hA, hf⟩ | ⟨hk, _⟩
    · have := h0 A hA k hf; omega
    · omega)⟩
theorem HS.floats1 {St : Nat → Prop} {w0 : World} {F : Fl} (h0 : HS D W L w0) (hC : Cls St (fun w => HS D W L w) w0 F w) {b5 : Nat} {c5 : Array Value} {t5 : TypeId} (h5 : F b5 = some (c5, t5)) : HS D W (L ++ [.blk b5 c5 t5]) w := by
  have hl := hC.laid b5 _ h5
  exact hC.inv.lay hl.2 (Nat.le_trans h0.size hl.1) fun A hA hf => by have := h0.lts A hA _ hf; have := hl.1; omega
theorem HS.floats2 {St : Nat → Prop} {w0 : World} {F : Fl} (h0 : HS D W L w0) (hC : Cls St (fun w => HS D W L w) w0 F w) {b5 b6 : Nat} {c5 c6 : Array Value} {t5 t6 : TypeId} (hne : b6 ≠ b5) (h5 : F b5 = some (c5, t5)) (h6 : F b6 = some (c6, t6)) : HS D W (L ++ [.blk b5 c5 t5, .blk b6 c6 t6]) w := by
  have hl := hC.laid b6 _ h6
  have := (h0.floats1 hC h5).lay hl.2 (Nat.le_trans h0.size hl.1) fun A hA hf => by
    rcases List.mem_append.1 hA with hA | hA
    · have := h0.lts A hA _ hf; have := hl.1; omega
    · cases List.mem_singleton.1 hA; exact hne hf
  simpa using this
end

/-! ### Regions that draw, with the bundle -/
section
variable {P : Program} {D : Nat → Prop} {W : World} {L : List Item}
/-- The blocks that are there, but the stream's. -/
def Stay (X : Nat → Prop) (w0 : World) : Nat → Prop := fun k => k < w0.heap.size ∧ ¬ X k
theorem wp_region_fH {id : Nat} {l : List Oper} {a : Act} {w : World} (hm : P.follows .mixedOrders = true) (canon : List Nat) (hcan : canonB l.toArray canon = true) (hsel : Region.noSelect l.toArray = true) (hok : l.toArray.all (okOp P) = true) (X : Nat → Prop) (H : HS D W L w) {Q' : Exit → Act → World → Prop}
    (h : ∀ w0, HS D W L w0 → w0.heap.size = w.heap.size → wpF P (Stay X w0) (fun w' => HS D W L w') w0 l.toArray (fun a F => ∀ w', Cls (Stay X w0) (fun w' => HS D W L w') w0 F w' → Q' .normal a w') (canon.filterMap (l.toArray[·]?)) a fun _ => none) : (Code.region id l.toArray true).wp P Q' a w :=
  wp_region_f hm canon hcan hsel hok (Stay X w) (fun w' => HS D W L w') (fun _ h => h.1) (lasting_hs H.lts H.size) H.drew fun w0 hw0 => by
    have e : w0.heap.size = w.heap.size := by rw [hw0]; rfl
    have := h w0 (by rw [hw0]; exact H.drew) e
    unfold Stay at this ⊢
    rw [e] at this
    exact this
theorem wp_region_xH {id : Nat} {l : List Oper} {a : Act} {w : World} (hm : P.follows .mixedOrders = true) (hc : certOk l.toArray (Region.before l.toArray) = true) (hsel : Region.noSelect l.toArray = true) (hok : l.toArray.all (okOp P) = true) (X : Nat → Prop) (H : HS D W L w) {Q' : Exit → Act → World → Prop}
    (h : ∀ w0, HS D W L w0 → w0.heap.size = w.heap.size → Same (Stay X w0) w0 w0 → wpX P l.toArray (SW.of (Stay X w0) w0) (fun a w => Q' .normal a w) l a w0) : (Code.region id l.toArray true).wp P Q' a w :=
  wp_region_x hm hc hsel hok (Stay X w) fun w0 hw0 hs => by
    have e : w0.heap.size = w.heap.size := by rw [hw0]; rfl
    have e2 : Stay X w = Stay X w0 := by unfold Stay; rw [e]
    rw [e2] at hs ⊢
    exact h w0 (by rw [hw0]; exact H.drew) e hs
theorem wp_region_sH {id : Nat} {l : List Oper} {a : Act} {w : World} (hm : P.follows .mixedOrders = true) (hc : certOk l.toArray (Region.before l.toArray) = true) (hsel : Region.noSelect l.toArray = true) (hok : l.toArray.all (okOp P) = true) (S : World → Prop) (H : HS D W L w) (hS : ∀ w0, HS D W L w0 → S w0) {Q' : Exit → Act → World → Prop}
    (h : ∀ w0 (h0 : S w0), HS D W L w0 → w0.heap.size = w.heap.size → wpX P l.toArray ⟨S, w0, h0⟩ (fun a w => Q' .normal a w) l a w0) : (Code.region id l.toArray true).wp P Q' a w :=
  wp_region_s hm hc hsel hok S (hS _ H.drew) fun w0 h0 hw0 => h w0 h0 (by rw [hw0]; exact H.drew) (by rw [hw0]; rfl)
theorem Stay.lt {X : Nat → Prop} {w0 : World} {k : Nat} (h : Stay X w0 k) : k < w0.heap.size := h.1
theorem Same.belowS {X : Nat → Prop} {w0 w w1 : World} (hs : Same (Stay X w0) w0 w) (hz : w0.heap.size ≤ w.heap.size) (hb : Below w.heap.size w w1) : Same (Stay X w0) w0 w1 := fun k hk => (hb.block k (Nat.lt_of_lt_of_le hk.1 hz)).trans (hs k hk)
theorem Same.chgS {X : Nat → Prop} {w0 w w1 : World} {b : Nat} (hs : Same (Stay X w0) w0 w) (hz : w0.heap.size ≤ w.heap.size) (hg : Chg b w w1) (hX : X b) : Same (Stay X w0) w0 w1 := fun k hk => (hg.block k (Nat.lt_of_lt_of_le hk.1 hz) (fun e => hk.2 (e ▸ hX))).trans (hs k hk)
/-- A call that may turn the stream, in a region with new variables. -/
theorem Cls.chgS {X : Nat → Prop} {w0 w w' : World} {F : Fl} {b : Nat} (h : Cls (Stay X w0) (fun w => HS D W L w) w0 F w) (hg : Chg b w w') (hX : X b) (hb : b < w0.heap.size) (hI : HS D W L w') : Cls (Stay X w0) (fun w => HS D W L w) w0 F w' :=
  ⟨h.same.chgS h.size hg hX, hI, Nat.le_trans h.size hg.size, fun c x hx => ⟨(h.laid c x hx).1, (h.laid c x hx).2.chg hg (by have := (h.laid c x hx).1; omega)⟩⟩
theorem Cls.chgK {X : Nat → Prop} {w0 w w' : World} {F : Fl} {b : Nat} (h : Cls (Stay X w0) (fun w => HS D W L w) w0 F w) (hg : Chg b w w') (hb : b < w0.heap.size) : ∀ k, w0.heap.size ≤ k → k < w.heap.size → w'.heap[k]? = w.heap[k]? := fun k h1 h2 => hg.block k h2 (by omega)
end

/-- Where the blocks lie. -/
def ltsOf (n : Nat) : List Item → Prop
  | [] => True
  | .blk b _ _ :: L => b < n ∧ ltsOf n L
  | .dice _ b :: L => b < n ∧ ltsOf n L
  | .obj b _ :: L => b < n ∧ ltsOf n L
  | _ :: L => ltsOf n L
theorem ltsOf_of {w : World} : ∀ {L : List Item}, (∀ A ∈ L, A.ok w) → ltsOf w.heap.size L
  | [], _ => trivial
  | .blk b cs t :: L, h => ⟨Blk.lt (h (.blk b cs t) (by simp)), ltsOf_of fun A hA => h A (by simp [hA])⟩
  | .dice B b :: L, h => ⟨Dice.lt (h (.dice B b) (by simp)), ltsOf_of fun A hA => h A (by simp [hA])⟩
  | .row v e s n xs :: L, h => ltsOf_of (L := L) fun A hA => h A (by simp [hA])
  | .any F K :: L, h => ltsOf_of (L := L) fun A hA => h A (by simp [hA])
  | .obj b o :: L, h => ⟨lt_of_heap (h (.obj b o) (by simp)), ltsOf_of fun A hA => h A (by simp [hA])⟩
theorem ltsM {n : Nat} {R L : List Item} : ltsOf n (Item.many R :: L) = ltsOf n L := rfl
theorem HS.zs {D : Nat → Prop} {W w : World} {L : List Item} (h : HS D W L w) : ltsOf w.heap.size L := ltsOf_of h.ok

/-! ### A struct or an array stored as a whole -/
/-- The cells from k on, one after the other. -/
def setAll (b : Nat) : Nat → List Value → World → World
  | _, [], w => w
  | k, v :: vs, w => setAll b (k + 1) vs (w.setCell ⟨b, k, none⟩ v)
def setArr : Nat → List Value → Array Value → Array Value
  | _, [], cs => cs
  | k, v :: vs, cs => setArr (k + 1) vs (cs.setIfInBounds k v)
theorem setArr_list : ∀ (vs : List Value) (k : Nat) (cs : Array Value) (pre rest : List Value), cs.toList = pre ++ rest → pre.length = k → rest.length = vs.length → (setArr k vs cs).toList = pre ++ vs
  | [], k, cs, pre, rest, h, hk, hr => by
    have : rest = [] := List.eq_nil_of_length_eq_zero (by simpa using hr)
    subst this
    exact h
  | v :: vs, k, cs, pre, rest, h, hk, hr => by
    cases rest with
    | nil => simp at hr
    | cons x rest =>
      have h2 : (cs.setIfInBounds k v).toList = (pre ++ [v]) ++ rest := by
        rw [Array.toList_setIfInBounds, h, ← hk]
        simp
      have := setArr_list vs (k + 1) (cs.setIfInBounds k v) (pre ++ [v]) rest h2 (by simp [hk]) (by simpa using hr)
      unfold setArr
      simpa using this
theorem setArr_all {cs : Array Value} {vs : List Value} (h : cs.size = vs.length) : setArr 0 vs cs = vs.toArray := by
  have := setArr_list vs 0 cs [] cs.toList rfl rfl (by simpa using h)
  apply Array.ext'
  simpa using this
theorem setAll_blk : ∀ (vs : List Value) (b k : Nat) (w : World) (cs : Array Value) (t : TypeId), Blk w b cs t → Blk (setAll b k vs w) b (setArr k vs cs) t
  | [], _, _, _, _, _, h => h
  | v :: vs, b, k, w, cs, t, h => setAll_blk vs b (k + 1) _ _ t (h.set k v)
theorem setAll_same : ∀ (vs : List Value) (b k : Nat) (w : World), (setAll b k vs w).os = w.os ∧ (setAll b k vs w).tape = w.tape ∧ (setAll b k vs w).output = w.output ∧ (setAll b k vs w).heap.size = w.heap.size ∧ ∀ j, j ≠ b → (setAll b k vs w).heap[j]? = w.heap[j]?
  | [], _, _, _ => ⟨rfl, rfl, rfl, rfl, fun _ _ => rfl⟩
  | v :: vs, b, k, w => by
    obtain ⟨h1, h2, h3, h4, h5⟩ := setAll_same vs b (k + 1) (w.setCell ⟨b, k, none⟩ v)
    exact ⟨h1, h2, h3, h4.trans (by simp [World.setCell]), fun j hj => (h5 j hj).trans (Below.heap_setCell _ _ _ _ hj)⟩
theorem HS.putAll {D : Nat → Prop} {W w : World} {L : List Item} (h : HS D W L w) (i : Nat) {b : Nat} {cs : Array Value} {t : TypeId} (hi : L[i]? = some (.blk b cs t)) {vs : List Value} (hz : cs.size = vs.length) {L' : List Item} (hL : L.set i (.blk b vs.toArray t) = L') : HS D W L' (setAll b 0 vs w) := by
  subst hL
  rw [set_at _ hi]
  rw [split_at hi] at h
  obtain ⟨h1, h2, h3, h4, h5⟩ := setAll_same vs b 0 w
  refine h.swap (X := .blk b cs t) h1 h2 h3 (by omega) (fun k hk hn => h5 k hn) ?_ (fun k hk => .inl hk) (.inr rfl)
  have := setAll_blk vs b 0 w cs t (h.ok (.blk b cs t) (by simp))
  rwa [setArr_all hz] at this
end Go.Proofs.Ytfmcicmbehjdcaa
