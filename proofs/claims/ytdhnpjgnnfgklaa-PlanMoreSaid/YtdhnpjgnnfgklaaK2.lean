/- Several texts in one: Row, RowSet, Many, Fz, Lit, AppR, Gen, GenA, Zed, GenZ. -/
import Derived.Test.YtdhnpjgnnfgklaaK1
import Derived.Test.YtdhnpjgnnfgklaaPart
import Derived.Deep.CutRange
import Derived.Deep.CutBlock
import Derived.Deep.RegionLaw
import Derived.Deep.RegionWith
import Derived.Maps.AppendAt
import Derived.Laws.OwnMore
import Derived.Laws.PanicsMore
import Derived.Deep.AppendLies
/- Slices of structs in memory: what lies there, read in a loop; slices of one's own that a call hands back. -/
namespace Go.Proofs.Ytdhnpjgnnfgklaa
set_option linter.unusedSimpArgs false
set_option linter.unusedVariables false
open Go.RowKit

/-- A slice's elements lie in memory below block B: the element j has the cells f j, k of them. -/
def Lies (w : World) (B : Nat) (sa : Option Addr) (k n : Nat) (f : Nat → List Value) : Prop :=
  ∀ j, j < n → ∃ b o, sa = some ⟨b, o, none⟩ ∧ b < B ∧ ∀ i u, (f j)[i]? = some u → w.cell? ⟨b, o + j * k + i, none⟩ = some u
theorem Lies.at {w : World} {B : Nat} {sa : Option Addr} {k n : Nat} {f : Nat → List Value} (h : Lies w B sa k n f) {j : Nat} (hj : j < n) : ∃ b o, sa = some ⟨b, o, none⟩ ∧ b < B ∧ ∀ i u, (f j)[i]? = some u → w.cell? ⟨b, o + j * k + i, none⟩ = some u := h j hj
theorem Lies.mono {w : World} {B B' : Nat} {sa : Option Addr} {k n : Nat} {f : Nat → List Value} (h : Lies w B sa k n f) (hb : B ≤ B') : Lies w B' sa k n f := fun j hj => by
  obtain ⟨b, o, e, h1, h2⟩ := h j hj
  exact ⟨b, o, e, by omega, h2⟩
theorem Lies.below {w w' : World} {B : Nat} {sa : Option Addr} {k n : Nat} {f : Nat → List Value} (h : Lies w B sa k n f) (hB : B ≤ w.heap.size) (hb : Below w.heap.size w w') : Lies w' B sa k n f := fun j hj => by
  obtain ⟨b, o, e, h1, h2⟩ := h j hj
  exact ⟨b, o, e, h1, fun i u hu => (hb.cell (p := ⟨b, o + j * k + i, none⟩) (by show b < _; omega)).trans (h2 i u hu)⟩
theorem HS.lies {W w : World} {L : List Item} (h : HS NoD W L w) {sa : Option Addr} {k n : Nat} {f : Nat → List Value} (hl : Lies W W.heap.size sa k n f) : Lies w W.heap.size sa k n f := fun j hj => by
  obtain ⟨b, o, e, hb, hc⟩ := hl j hj
  exact ⟨b, o, e, hb, fun i u hu => (h.was hb id).trans (hc i u hu)⟩
/-- What lay there before, as a callee wants it. -/
theorem HS.liesUp {W w : World} {L : List Item} (h : HS NoD W L w) {sa : Option Addr} {k n : Nat} {f : Nat → List Value} (hl : Lies W W.heap.size sa k n f) : Lies w w.heap.size sa k n f := (h.lies hl).mono h.size
theorem Lies.nil0 {w : World} {B : Nat} {sa : Option Addr} {k : Nat} {f : Nat → List Value} : Lies w B sa k 0 f := fun j hj => absurd hj (Nat.not_lt_zero _)

theorem flat_len {α : Type} {enc : α → List Value} {k : Nat} (hk : ∀ x, (enc x).length = k) : ∀ xs : List α, (xs.flatMap enc).length = xs.length * k
  | [] => by simp
  | x :: xs => by simp [hk, flat_len hk xs, Nat.succ_mul, Nat.add_comm]
theorem flat_get {α : Type} [Inhabited α] {enc : α → List Value} {k : Nat} (hk : ∀ x, (enc x).length = k) : ∀ (xs : List α) (j i : Nat) (u : Value), j < xs.length → (enc xs[j]!)[i]? = some u → (xs.flatMap enc)[j * k + i]? = some u
  | [], j, _, _, h, _ => by simp at h
  | x :: xs, 0, i, u, _, h => by
    have hi : i < (enc x).length := (List.getElem?_eq_some_iff.1 (by simpa using h)).1
    rw [List.flatMap_cons, Nat.zero_mul, Nat.zero_add, List.getElem?_append_left hi]
    simpa using h
  | x :: xs, j + 1, i, u, hj, h => by
    have := flat_get hk xs j i u (by simpa using hj) (by simpa using h)
    rw [List.flatMap_cons, List.getElem?_append_right (by rw [hk, Nat.succ_mul]; omega), hk]
    rw [show (j + 1) * k + i - k = j * k + i by rw [Nat.succ_mul]; omega]
    exact this
theorem ownsRow_slice {w : World} {B k n : Nat} {e : TypeId} {v : Value} {cs : List Value} (h : w.ownsRow B e k v n cs) : ∃ sa c, v = .slice sa n c := by
  obtain ⟨h1, h2⟩ := h
  rcases h2 with ⟨h2, h3⟩ | ⟨g, cap, cur, hv, r⟩
  · exact ⟨none, 0, by rw [h2, h3]⟩
  · exact ⟨_, _, hv⟩
theorem ownsRow_lies {α : Type} [Inhabited α] {enc : α → List Value} {k : Nat} (hk : ∀ x, (enc x).length = k) {w : World} {B n c : Nat} {e : TypeId} {sa : Option Addr} {xs : List α} (hn : n = xs.length) (h : w.ownsRow B e k (.slice sa n c) n (xs.flatMap enc)) :
    Lies w w.heap.size sa k n (fun j => enc xs[j]!) := fun j hj => by
  subst hn
  have h0 := h
  obtain ⟨h1, h2⟩ := h
  rcases h2 with ⟨h2, h3⟩ | ⟨g, cap, cur, hv, hg, hh, r⟩
  · omega
  · injection hv with e1 e2 e3
    subst e1 e3
    refine ⟨g, 0, rfl, lt_of_heap hh, fun i u hu => ?_⟩
    have hi : i < k := by rw [← hk xs[j]!]; exact (List.getElem?_eq_some_iff.1 hu).1
    have hjk : j * k + i < xs.length * k := by
      have : (j + 1) * k ≤ xs.length * k := Nat.mul_le_mul_right k (by omega)
      rw [Nat.succ_mul] at this; omega
    rw [Nat.zero_add, World.ownsRow.cellAt h0 (j * k + i) hjk]
    exact flat_get hk xs j i u hj hu
/-- A row in the bundle, as a callee reads it. -/
theorem HS.rowLies {D : Nat → Prop} {W w : World} {L : List Item} (h : HS D W L w) (i : Nat) {α : Type} [Inhabited α] {enc : α → List Value} {k : Nat} (hk : ∀ x, (enc x).length = k) {n c : Nat} {e : TypeId} {sa : Option Addr} {xs : List α} (hi : L[i]? = some (.row (.slice sa n c) e k n (xs.flatMap enc))) (hn : n = xs.length) :
    Lies w w.heap.size sa k n (fun j => enc xs[j]!) := ownsRow_lies hk hn (h.at i hi)
/-- A block's cells, read as a slice over it. -/
theorem HS.blkLies {D : Nat → Prop} {W w : World} {L : List Item} (h : HS D W L w) (i : Nat) {α : Type} [Inhabited α] {enc : α → List Value} {k : Nat} (hk : ∀ x, (enc x).length = k) {n b : Nat} {t : TypeId} {cs : Array Value} {xs : List α} (hi : L[i]? = some (.blk b cs t)) (hn : n = xs.length) (hcs : cs.toList = xs.flatMap enc) :
    Lies w w.heap.size (some ⟨b, 0, none⟩) k n (fun j => enc xs[j]!) := fun j hj => by
  have hb : Blk w b cs t := h.at i hi
  refine ⟨b, 0, rfl, hb.lt, fun i u hu => ?_⟩
  rw [Nat.zero_add, hb.cell]
  rw [← Array.getElem?_toList, hcs]
  exact flat_get hk xs j i u (by omega) hu
theorem HS.apart {D : Nat → Prop} {W w : World} {L : List Item} (h : HS D W L w) {i j : Nat} {A B : Item} (hi : L[i]? = some A) (hj : L[j]? = some B) (hij : i ≠ j) {k : Nat} (hA : A.fp k) : ¬ B.fp k := by
  obtain ⟨h1, rfl⟩ := List.getElem?_eq_some_iff.1 hi
  obtain ⟨h2, rfl⟩ := List.getElem?_eq_some_iff.1 hj
  have hd := List.pairwise_iff_getElem.1 h.dis
  rcases Nat.lt_or_gt_of_ne hij with hl | hl
  · exact hd i j h1 h2 hl k hA
  · exact fun hB => hd j i h2 h1 hl k hB hA
theorem Lies.take {α : Type} [Inhabited α] {enc : α → List Value} {w : World} {B k : Nat} {sa : Option Addr} {xs : List α} (h : Lies w B sa k xs.length (fun j => enc xs[j]!)) {i : Nat} (hi : i ≤ xs.length) : Lies w B sa k (xs.take i).length (fun j => enc (xs.take i)[j]!) := fun j hj => by
  have hj' : j < i := by rw [List.length_take] at hj; omega
  obtain ⟨b, o, e, h1, h2⟩ := h j (by omega)
  refine ⟨b, o, e, h1, fun i' u hu => h2 i' u ?_⟩
  have e2 : (xs.take i)[j]! = xs[j]! := by rw [getElem!_pos _ j hj, getElem!_pos xs j (by omega), List.getElem_take]
  show (enc xs[j]!)[i']? = some u
  rw [← e2]
  exact hu
def iC (n : Int) : List Value := [.int .i64 n]
theorem iC_len (n : Int) : (iC n).length = 1 := rfl
/-- What a call hands back that holds a slice of its own. -/
def GivesS (mk : Value → Value) (e : TypeId) (k n : Nat) (cs : List Value) (w : World) (x : Ending) (w' : World) : Prop :=
  ∃ sa c, x = .returned (mk (.slice sa n c)) ∧ w'.ownsRow w.heap.size e k (.slice sa n c) n cs ∧ Below w.heap.size w w'
theorem HS.givesS {W w : World} {L : List Item} (h : HS NoD W L w) (i : Nat) {mk : Value → Value} {e : TypeId} {k n c : Nat} {sa : Option Addr} {cs : List Value} (hi : L[i]? = some (.row (.slice sa n c) e k n cs)) : GivesS mk e k n cs W (.returned (mk (.slice sa n c))) w :=
  ⟨sa, c, rfl, h.rowOut i hi, h.done⟩
end Go.Proofs.Ytdhnpjgnnfgklaa

/- A cell of a slice of one's own is stored to. -/
namespace Go.Proofs.Ytdhnpjgnnfgklaa
set_option linter.unusedSimpArgs false
set_option linter.unusedVariables false
open Go.RowKit
theorem HS.rowSet {D : Nat → Prop} {W w : World} {L : List Item} (h : HS D W L w) (i : Nat) {g n cap k : Nat} {e : TypeId} {xs : List Value} (hi : L[i]? = some (.row (.slice (some ⟨g, 0, none⟩) n cap) e k n xs)) (j : Nat) (u : Value) :
    HS D W (L.set i (.row (.slice (some ⟨g, 0, none⟩) n cap) e k n (xs.set j u))) (w.setCell ⟨g, j, none⟩ u) := by
  rw [set_at _ hi]
  rw [split_at hi] at h
  have h1 : w.ownsRow 0 e k (.slice (some ⟨g, 0, none⟩) n cap) n xs := h.ok (.row (.slice (some ⟨g, 0, none⟩) n cap) e k n xs) (by simp)
  exact h.swap (X := .row (.slice (some ⟨g, 0, none⟩) n cap) e k n xs) (Y := .row (.slice (some ⟨g, 0, none⟩) n cap) e k n (xs.set j u)) rfl rfl rfl (by simp [World.setCell]) (fun b hb hn => Below.heap_setCell _ _ _ _ (fun e => hn (by rw [e]; rfl))) (World.ownsRow.stored h1 j u).1 (fun b hb => .inl hb) (.inr rfl)
end Go.Proofs.Ytdhnpjgnnfgklaa

/- Many things as one in the bundle; what a call hands back of several slices; a slice as a callee reads it. -/
namespace Go.Proofs.Ytdhnpjgnnfgklaa
set_option linter.unusedSimpArgs false
set_option linter.unusedVariables false
open Go.RowKit

section
variable {D : Nat → Prop} {W w w' : World} {L R : List Item}
theorem HS.permu {L' : List Item} (h : HS D W L w) (hp : L.Perm L') : HS D W L' w :=
  ⟨h.os, h.tape, h.output, h.size, h.old, fun A hA => h.ok A (hp.mem_iff.2 hA), fun A hA => h.own A (hp.mem_iff.2 hA), fun A hA => h.low A (hp.mem_iff.2 hA), h.dis.perm hp (fun hxy k hk hk' => hxy k hk' hk)⟩
theorem erase_perm {α : Type} : ∀ {L : List α} {i : Nat} {x : α}, L[i]? = some x → L.Perm (L.eraseIdx i ++ [x])
  | [], i, x, h => by simp at h
  | y :: L, 0, x, h => by
    obtain rfl : y = x := by simpa using h
    exact (List.perm_append_singleton y L).symm
  | y :: L, i + 1, x, h => by
    have := erase_perm (L := L) (i := i) (x := x) (by simpa using h)
    exact List.Perm.cons y this
/-- A thing goes to the end. -/
theorem HS.last (h : HS D W L w) (i : Nat) {A : Item} (hi : L[i]? = some A) : HS D W (L.eraseIdx i ++ [A]) w := h.permu (erase_perm hi)
/-- What a call hands back, beside what one has. -/
theorem HS.join (H : HS D W L w) (K : HS NoD w R w') (h0 : ∀ A ∈ R, A.low = 0) : HS D W (L ++ R) w' := by
  have H' := H.below K.done
  refine ⟨H'.os, H'.tape, H'.output, H'.size, H'.old, fun X hX => ?_, fun X hX k hk => ?_, fun X hX => ?_, List.pairwise_append.2 ⟨H'.dis, K.dis, fun X hX Y hY k hk hk' => ?_⟩⟩
  · rcases List.mem_append.1 hX with hX | hX
    · exact H'.ok X hX
    · exact K.ok X hX
  · rcases List.mem_append.1 hX with hX | hX
    · exact H'.own X hX k hk
    · exact .inl (Nat.le_trans H.size ((K.own X hX k hk).resolve_right id))
  · rcases List.mem_append.1 hX with hX | hX
    · exact H'.low X hX
    · rw [h0 X hX]; exact ⟨Nat.zero_le _, fun k hk => absurd hk (Nat.not_lt_zero _)⟩
  · have h1 := H.lts X hX k hk
    have h2 := (K.own Y hY k hk').resolve_right id
    omega
/-- The same of a call that may turn the stream. -/
theorem HS.joinDice (H : HS D W L w) (i : Nat) {B b : Nat} (hi : L[i]? = some (.dice B b)) (K : HS (OneD b) w (.dice B b :: R) w') (h0 : ∀ A ∈ R, A.low = 0) : HS D W (L ++ R) w' := by
  have H' := H.diceAt i hi K.doneDice (K.ok (.dice B b) (by simp))
  have hd := List.pairwise_cons.1 K.dis
  have fresh : ∀ Y ∈ R, ∀ k, Y.fp k → w.heap.size ≤ k := fun Y hY k hk => by
    rcases K.own Y (by simp [hY]) k hk with h | h
    · exact h
    · exact absurd hk (hd.1 Y hY k h)
  refine ⟨H'.os, H'.tape, H'.output, H'.size, H'.old, fun X hX => ?_, fun X hX k hk => ?_, fun X hX => ?_, List.pairwise_append.2 ⟨H'.dis, hd.2, fun X hX Y hY k hk hk' => ?_⟩⟩
  · rcases List.mem_append.1 hX with hX | hX
    · exact H'.ok X hX
    · exact K.ok X (by simp [hX])
  · rcases List.mem_append.1 hX with hX | hX
    · exact H'.own X hX k hk
    · exact .inl (Nat.le_trans H.size (fresh X hX k hk))
  · rcases List.mem_append.1 hX with hX | hX
    · exact H'.low X hX
    · rw [h0 X hX]; exact ⟨Nat.zero_le _, fun k hk => absurd hk (Nat.not_lt_zero _)⟩
  · have h1 := H.lts X hX k hk
    have h2 := fresh Y hY k hk'
    omega
end

/-- A cell of a slice of one's own: what is there, and that it may be stored to. -/
theorem HS.rowCells {D : Nat → Prop} {W w : World} {L : List Item} (h : HS D W L w) (i : Nat) {g n cap k : Nat} {e : TypeId} {xs : List Value} (hi : L[i]? = some (.row (.slice (some ⟨g, 0, none⟩) n cap) e k n xs)) (j : Nat) (hj : j < n * k) : w.cell? ⟨g, j, none⟩ = xs[j]? ∧ w.frozen? ⟨g, j, none⟩ = false := by
  have h1 : w.ownsRow 0 e k (.slice (some ⟨g, 0, none⟩) n cap) n xs := h.at i hi
  refine ⟨World.ownsRow.cellAt h1 j hj, ?_⟩
  rcases h1.2 with ⟨h2, h3⟩ | ⟨g', cap', cur, hv, hg, hh, r⟩
  · cases h2
  · injection hv with e1 e2 e3
    injection e1 with e1
    injection e1 with e1
    subst e1
    exact Blk.free (show Blk w g cur e from hh) _
/-! ### A slice as a callee reads it -/
/-- The value v is a slice whose elements, below block B, are xs. -/
def Sl {α : Type} [Inhabited α] (w : World) (B : Nat) (v : Value) (k : Nat) (enc : α → List Value) (xs : List α) : Prop :=
  ∃ sa c, v = .slice sa xs.length c ∧ (xs.length ≤ c ∧ (sa = none → c = 0)) ∧ Lies w B sa k xs.length (fun j => enc xs[j]!)
theorem Sl.mono {α : Type} [Inhabited α] {w : World} {B B' k : Nat} {v : Value} {enc : α → List Value} {xs : List α} (h : Sl w B v k enc xs) (hb : B ≤ B') : Sl w B' v k enc xs := by
  obtain ⟨sa, c, e, hc, hl⟩ := h
  exact ⟨sa, c, e, hc, hl.mono hb⟩
theorem Sl.below {α : Type} [Inhabited α] {w w' : World} {B k : Nat} {v : Value} {enc : α → List Value} {xs : List α} (h : Sl w B v k enc xs) (hB : B ≤ w.heap.size) (hb : Below w.heap.size w w') : Sl w' B v k enc xs := by
  obtain ⟨sa, c, e, hc, hl⟩ := h
  exact ⟨sa, c, e, hc, hl.below hB hb⟩
theorem Sl.nil {α : Type} [Inhabited α] (w : World) (B k : Nat) (enc : α → List Value) : Sl w B (.slice none 0 0) k enc ([] : List α) := ⟨none, 0, rfl, ⟨Nat.zero_le _, fun _ => rfl⟩, Lies.nil0⟩
end Go.Proofs.Ytdhnpjgnnfgklaa

/- Things in memory that nobody writes to any more: one item for many, said by whatever they mean. Slices of bytes, slices of such slices. -/
namespace Go.Proofs.Ytdhnpjgnnfgklaa
set_option linter.unusedSimpArgs false
set_option linter.unusedVariables false
open Go.RowKit

section
variable {D : Nat → Prop} {W w : World} {L : List Item}
/-- What an item of that kind says now. -/
theorem HS.says (h : HS D W L w) (i : Nat) {F : Nat → Prop} {K : World → Prop} (hi : L[i]? = some (.any F K)) : K w := (h.at i hi).1
end

/-- A slice's value, in parts. -/
structure Sv where
  sa : Option Addr
  n : Nat
  c : Nat
deriving Inhabited, DecidableEq
def Sv.v (x : Sv) : Value := .slice x.sa x.n x.c
def svC (x : Sv) : List Value := [.slice x.sa x.n x.c]
def bC1 (b : Int) : List Value := [.int .u8 b]
def CapOk (x : Sv) : Prop := x.n ≤ x.c ∧ (x.sa = none → x.c = 0)
/-- Bytes lie in memory. -/
structure BytesAt (w : World) (x : Sv) (bs : List Int) : Prop where
  len : x.n = bs.length
  cap : CapOk x
  lies : Lies w w.heap.size x.sa 1 bs.length (fun j => bC1 bs[j]!)
theorem Lies.up {w w' : World} {sa : Option Addr} {k n : Nat} {f : Nat → List Value} (h : Lies w w.heap.size sa k n f) (hb : Below w.heap.size w w') : Lies w' w'.heap.size sa k n f := ((HS.start NoD w).below hb).liesUp h
theorem BytesAt.up {w w' : World} {x : Sv} {bs : List Int} (h : BytesAt w x bs) (hb : Below w.heap.size w w') : BytesAt w' x bs := ⟨h.len, h.cap, h.lies.up hb⟩
/-- Words (slices of bytes) lie in memory. -/
def WordsAt (w : World) (x : Sv) (ws : List (List Int)) : Prop := ∃ vs : List Sv, vs.length = ws.length ∧ x.n = vs.length ∧ CapOk x ∧ Lies w w.heap.size x.sa 1 vs.length (fun j => svC vs[j]!) ∧ ∀ j, j < ws.length → BytesAt w vs[j]! ws[j]!
theorem WordsAt.up {w w' : World} {x : Sv} {ws : List (List Int)} (h : WordsAt w x ws) (hb : Below w.heap.size w w') : WordsAt w' x ws := by
  obtain ⟨vs, h1, h2, h3, h4, h5⟩ := h
  exact ⟨vs, h1, h2, h3, h4.up hb, fun j hj => (h5 j hj).up hb⟩
end Go.Proofs.Ytdhnpjgnnfgklaa

/- A region that draws its order, lays new variables and literal slices in it, and reads such a slice ('[]int{1, 2}[f()]'): as XFloat, with loads of what the region itself has laid. -/
namespace Go.Proofs.Ytdhnpjgnnfgklaa
set_option linter.unusedSimpArgs false
set_option linter.unusedVariables false
open Go.RowKit

def fkG : Op → FK
  | .alloc _ => .float
  | .buildSlice .. => .float
  | .store .. => .store
  | o => if effOp o then .call else .pure
def isLd : Op → Bool
  | .load .. => true
  | _ => false

section
variable (P : Program) (St : Nat → Prop) (I : World → Prop) (w0 : World)
/-- A load of a block that the region has laid. -/
def LookG (F : Fl) (o : Oper) (v : Value) (a : Act) : Prop := isLd o.op = true ∧ ∃ b cs t, F b = some (cs, t) ∧ (∀ w, Blk w b cs t → (execOp a.eval o).run P w = .ok (.value v) w) ∧ ∀ w u w', w.heap[b]? = none → (execOp a.eval o).run P w ≠ .ok u w'
/-- One operation, seen without the world. -/
def stepG (ops : Array Oper) (o : Oper) (K : Act → Fl → Prop) (a : Act) (F : Fl) : Prop :=
  if Region.wanted o (yielded ops a.tmps) = true then
    match fkG o.op with
    | .pure => okOp P o = true → ∃ v, (YieldsS P (SW.of St w0) o v a ∨ LookG P F o v a) ∧ K (a.put o.dst v) F
    | .call => ∀ w, Cls St I w0 F w → o.wp P a w (fun a' w' => Cls St I w0 F w' ∧ (∀ k, w0.heap.size ≤ k → k < w.heap.size → w'.heap[k]? = w.heap[k]?) ∧ K a' F) (fun _ _ _ => False)
    | .float => ∃ (z : Array Value) (t : TypeId) (mk : Nat → Value), (∀ w, (execOp a.eval o).run P w = .ok (.value (mk w.heap.size)) (w.alloc (.cells z t))) ∧ ∀ b, w0.heap.size ≤ b → F b = none → (∃ w, Cls St I w0 (F.put b (z, t)) w) → K (a.put o.dst (mk b)) (F.put b (z, t))
    | .store => ∃ b old cs t, F b = some (old, t) ∧ (∀ w, Cls St I w0 F w → (execOp a.eval o).run P w = .ok .skip (w.setRow b cs)) ∧ K (a.put o.dst undef) (F.put b (cs, t))
  else K (a.put o.dst undef) F
end

section
variable {P : Program} {ops : Array Oper} {St : Nat → Prop} {I : World → Prop} {w0 : World}

theorem LookG.of_same {F : Fl} {o : Oper} {v : Value} {a a' : Act} (h : LookG P F o v a) (e : execOp a'.eval o = execOp a.eval o) : LookG P F o v a' := by
  unfold LookG at *; rw [e]; exact h
theorem LookG.ext {F F' : Fl} {o : Oper} {v : Value} {a : Act} (h : LookG P F o v a) (e : ∀ b x, F b = some x → F' b = some x) : LookG P F' o v a := by
  obtain ⟨h1, b, cs, t, h2, h3⟩ := h
  exact ⟨h1, b, cs, t, e b _ h2, h3⟩
theorem LookG.run {F : Fl} {o : Oper} {v : Value} {a : Act} (h : LookG P F o v a) {w : World} (hc : Cls St I w0 F w) : (execOp a.eval o).run P w = .ok (.value v) w := by
  obtain ⟨h1, b, cs, t, h2, h3, h4⟩ := h
  exact h3 w (hc.laid b _ h2).2
def PureG (P : Program) (St : Nat → Prop) (w0 : World) (F : Fl) (o : Oper) (v : Value) (a : Act) : Prop := YieldsS P (SW.of St w0) o v a ∨ LookG P F o v a
theorem PureG.run {F : Fl} {o : Oper} {v : Value} {a : Act} (h : PureG P St w0 F o v a) {w : World} (hc : Cls St I w0 F w) : (execOp a.eval o).run P w = .ok (.value v) w := by
  rcases h with h | h
  · exact h w hc.same
  · exact h.run hc
theorem PureG.of_same {F : Fl} {o : Oper} {v : Value} {a a' : Act} (h : PureG P St w0 F o v a) (e : execOp a'.eval o = execOp a.eval o) : PureG P St w0 F o v a' := by
  rcases h with h | h
  · exact .inl (h.of_same e)
  · exact .inr (h.of_same e)
theorem PureG.ext {F F' : Fl} {o : Oper} {v : Value} {a : Act} (h : PureG P St w0 F o v a) (e : isLd o.op = true → ∀ b x, F b = some x → F' b = some x) : PureG P St w0 F' o v a := by
  rcases h with h | h
  · exact .inl h
  · exact .inr (h.ext (e h.1))
theorem Fl.put_new {F : Fl} {b : Nat} (hn : F b = none) (x : Array Value × TypeId) : ∀ c y, F c = some y → F.put b x c = some y := fun c y h => by
  unfold Fl.put
  rw [if_neg (fun e => by rw [e, hn] at h; cases h)]
  exact h
theorem Cls.new_none {F : Fl} {w : World} (h : Cls St I w0 F w) {k : Nat} (hk : w.heap.size ≤ k) : F k = none := by
  cases hF : F k with
  | none => rfl
  | some x => exact absurd (h.laid _ _ hF).2.lt (by omega)

/-- The operation, at the frame a, puts v and does no more. -/
def PutsG (P : Program) (St : Nat → Prop) (w0 : World) (ops : Array Oper) (F : Fl) (o : Oper) (v : Value) (a : Act) : Prop :=
  (Region.wanted o (yielded ops a.tmps) = true ∧ fkG o.op = .pure ∧ PureG P St w0 F o v a) ∨ (Region.wanted o (yielded ops a.tmps) = false ∧ v = undef)
theorem PutsG.step {o : Oper} {v : Value} {a : Act} {F : Fl} (h : PutsG P St w0 ops F o v a) {K : Act → Fl → Prop} (hK : K (a.put o.dst v) F) : stepG P St I w0 ops o K a F := by
  unfold stepG
  rcases h with ⟨h1, h2, h3⟩ | ⟨h1, rfl⟩
  · rw [if_pos h1, h2]; exact fun _ => ⟨v, h3, hK⟩
  · rw [if_neg (by rw [h1]; simp)]; exact hK
theorem PutsG.move {o : Oper} (hs : ∀ cs b, o.op ≠ .select cs b) {v : Value} {a a' : Act} {F F' : Fl} (hp : PutsG P St w0 ops F o v a) {d : Option Tmp} {u : Value} (ht : a'.tmps = (a.put d u).tmps) (h : ∀ t, d = some t → t ∉ o.looksAt ops) (hF : isLd o.op = true → ∀ b x, F b = some x → F' b = some x) : PutsG P St w0 ops F' o v a' := by
  unfold PutsG at *
  have hw : Region.wanted o (yielded ops a'.tmps) = Region.wanted o (yielded ops a.tmps) := by rw [ht]; exact wanted_put o a d u h
  rw [hw]
  rcases hp with ⟨h1, h2, h3⟩ | h1
  · exact .inl ⟨h1, h2, (h3.of_same (exec_tmps hs ht h)).ext hF⟩
  · exact .inr h1

def pairG (x y : Op) : Bool := (fkG x == .pure || fkG y == .pure || fkG y == .float) && !(isLd x && fkG y == .store) && !(isLd y && fkG x == .store)

def orderG (ops : Array Oper) (cert : Array Nat) : List Nat → Bool
  | [] => true
  | x :: l => (match ops[x]? with
      | none => false
      | some ox => (ox.after.all fun e => !Region.binds .any e || !l.contains e.on) && l.all fun y => match ops[y]? with
        | none => false
        | some oy => (decide (x < y) && (cert.getD y 0).testBit x) || (ox.apart ops oy && pairG ox.op oy.op)) && orderG ops cert l
theorem orderG_drop {cert : Array Nat} {j : Nat} (l2 : List Nat) : ∀ (l1 : List Nat), orderG ops cert (l1 ++ j :: l2) = true → orderG ops cert (l1 ++ l2) = true := by
  intro l1
  induction l1 with
  | nil => intro h; simp only [List.nil_append, orderG, Bool.and_eq_true] at h; exact h.2
  | cons x l1 ih =>
    intro h
    simp only [List.cons_append, orderG, Bool.and_eq_true] at h ⊢
    refine ⟨?_, ih h.2⟩
    cases hx : ops[x]? with
    | none => rw [hx] at h; simp at h
    | some ox =>
      rw [hx] at h
      simp only [Bool.and_eq_true] at h ⊢
      obtain ⟨⟨h1, h2⟩, _⟩ := h
      refine ⟨?_, ?_⟩
      · rw [Array.all_eq_true_iff_forall_mem] at h1 ⊢
        intro e he
        have := h1 e he
        simp only [Bool.or_eq_true, Bool.not_eq_true', List.contains_eq_mem, decide_eq_false_iff_not, List.mem_append, List.mem_cons] at this ⊢
        exact this.imp id fun this hh => this (by rcases hh with h | h; exact .inl h; exact .inr (.inr h))
      · rw [List.all_eq_true] at h2 ⊢
        intro y hy
        exact h2 y (by rcases List.mem_append.1 hy with h | h <;> simp [h])
theorem orderG_at {cert : Array Nat} {j : Nat} {oj : Oper} (hj : ops[j]? = some oj) (l2 : List Nat) : ∀ (l1 : List Nat), orderG ops cert (l1 ++ j :: l2) = true → ∀ x ∈ l1, ∃ ox, ops[x]? = some ox ∧ ((x < j ∧ (cert.getD j 0).testBit x = true) ∨ (ox.apart ops oj = true ∧ pairG ox.op oj.op = true)) := by
  intro l1
  induction l1 with
  | nil => intro _ x hx; cases hx
  | cons y l1 ih =>
    intro h x hx
    simp only [List.cons_append, orderG, Bool.and_eq_true] at h
    rcases List.mem_cons.1 hx with hx | hx
    · subst hx
      cases hy : ops[x]? with
      | none => rw [hy] at h; simp at h
      | some ox =>
        rw [hy] at h
        simp only [Bool.and_eq_true] at h
        have := List.all_eq_true.1 h.1.2 j (by simp)
        rw [hj] at this
        simp only [Bool.or_eq_true, Bool.and_eq_true, decide_eq_true_eq] at this
        exact ⟨ox, rfl, this⟩
    · exact ih h.2 x hx

/-- The order that the walk takes: a list of all operations' numbers, in which each new block stands just ahead of the store into it. -/
def canonG (ops : Array Oper) (l : List Nat) : Bool := (List.range ops.size).all (fun i => l.contains i) && l.all (fun i => decide (i < ops.size)) && decide l.Nodup && decide (l.length ≤ ops.size) && orderG ops (Region.before ops) l && backB ops (Region.before ops)

end
/-! ### The walk's steps -/
section
variable {P : Program} {ops : Array Oper} {St : Nat → Prop} {I : World → Prop} {w0 : World} {Q : Act → Fl → Prop} {o : Oper} {rest : List Oper} {a : Act} {F : Fl}
end
/-! ### With the bundle -/
section
variable {P : Program} {D : Nat → Prop} {W : World} {L : List Item}
end
end Go.Proofs.Ytdhnpjgnnfgklaa

/- 'append(a, b...)' of two slices of one's own. -/
namespace Go.Proofs.Ytdhnpjgnnfgklaa
set_option linter.unusedSimpArgs false
set_option linter.unusedVariables false
open Go.RowKit

section
variable {P : Program} {D : Nat → Prop} {W w : World} {L : List Item}
end
end Go.Proofs.Ytdhnpjgnnfgklaa

/- A region that draws its order: as XLit, and what is known of memory (the list of XHeap's bundle) may turn from call to call: appends and calls that hand back slices, beside new variables and literal slices. -/
namespace Go.Proofs.Ytdhnpjgnnfgklaa
set_option linter.unusedSimpArgs false
set_option linter.unusedVariables false
open Go.RowKit

/-- What is known at a time within the region. -/
structure ClH (St : Nat → Prop) (D : Nat → Prop) (W w0 : World) (F : Fl) (L : List Item) (w : World) : Prop where
  same : Same St w0 w
  hs : HS D W L w
  size : w0.heap.size ≤ w.heap.size
  laid : ∀ b x, F b = some x → w0.heap.size ≤ b ∧ Blk w b x.1 x.2 ∧ ∀ A ∈ L, ¬ A.fp b
/-- What a call leaves: all blocks that are not of the list; what the list is of anew is new. -/
def KeepL (L L' : List Item) (w0 w w' : World) : Prop := (∀ k, w0.heap.size ≤ k → k < w.heap.size → (∀ A ∈ L, ¬ A.fp k) → w'.heap[k]? = w.heap[k]?) ∧ ∀ A ∈ L', ∀ k, A.fp k → (∃ B ∈ L, B.fp k) ∨ w.heap.size ≤ k

section
variable (P : Program) (St D : Nat → Prop) (W w0 : World)
/-- One operation, seen without the world. -/
def stepH (ops : Array Oper) (o : Oper) (K : Act → Fl → List Item → Prop) (a : Act) (F : Fl) (L : List Item) : Prop :=
  if Region.wanted o (yielded ops a.tmps) = true then
    match fkG o.op with
    | .pure => okOp P o = true → ∃ v, PureG P St w0 F o v a ∧ K (a.put o.dst v) F L
    | .call => ∀ w, ClH St D W w0 F L w → o.wp P a w (fun a' w' => ∃ L', ClH St D W w0 F L' w' ∧ KeepL L L' w0 w w' ∧ K a' F L') (fun _ _ _ => False)
    | .float => ∃ (z : Array Value) (t : TypeId) (mk : Nat → Value), (∀ w, (execOp a.eval o).run P w = .ok (.value (mk w.heap.size)) (w.alloc (.cells z t))) ∧ ∀ b, w0.heap.size ≤ b → F b = none → (∃ w, ClH St D W w0 (F.put b (z, t)) L w) → K (a.put o.dst (mk b)) (F.put b (z, t)) L
    | .store => ∃ b old cs t, F b = some (old, t) ∧ (∀ w, ClH St D W w0 F L w → (execOp a.eval o).run P w = .ok .skip (w.setRow b cs)) ∧ K (a.put o.dst undef) (F.put b (cs, t)) L
  else K (a.put o.dst undef) F L
def wpH (ops : Array Oper) (Q : Act → Fl → List Item → Prop) : List Oper → Act → Fl → List Item → Prop
  | [], a, F, L => Q a F L
  | o :: l, a, F, L => stepH P St D W w0 ops o (wpH ops Q l) a F L
end

section
variable {P : Program} {ops : Array Oper} {St D : Nat → Prop} {W w0 : World}

theorem LookG.runH {F : Fl} {L : List Item} {o : Oper} {v : Value} {a : Act} (h : LookG P F o v a) {w : World} (hc : ClH St D W w0 F L w) : (execOp a.eval o).run P w = .ok (.value v) w := by
  obtain ⟨h1, b, cs, t, h2, h3, h4⟩ := h
  exact h3 w (hc.laid b _ h2).2.1
theorem PureG.runH {F : Fl} {L : List Item} {o : Oper} {v : Value} {a : Act} (h : PureG P St w0 F o v a) {w : World} (hc : ClH St D W w0 F L w) : (execOp a.eval o).run P w = .ok (.value v) w := by
  rcases h with h | h
  · exact h w hc.same
  · exact h.runH hc
theorem ClH.new_none {F : Fl} {L : List Item} {w : World} (h : ClH St D W w0 F L w) {k : Nat} (hk : w.heap.size ≤ k) : F k = none := by
  cases hF : F k with
  | none => rfl
  | some x => exact absurd (h.laid _ _ hF).2.1.lt (by omega)
theorem ClH.alloc {F : Fl} {L : List Item} {w : World} (hst : ∀ k, St k → k < w0.heap.size) (h : ClH St D W w0 F L w) (z : Array Value) (t : TypeId) : ClH St D W w0 (F.put w.heap.size (z, t)) L (w.alloc (.cells z t)) := by
  refine ⟨fun k hk => (Below.heap_alloc _ _ _ (Nat.lt_of_lt_of_le (hst k hk) h.size)).trans (h.same k hk), h.hs.skipAlloc, by simpa using Nat.le_succ_of_le h.size, fun b x hb => ?_⟩
  unfold Fl.put at hb
  by_cases hbe : b = w.heap.size
  · rw [if_pos hbe] at hb
    cases hb
    exact ⟨by rw [hbe]; exact h.size, by rw [hbe]; exact Blk.new w z t, fun A hA hf => by have := h.hs.lts A hA _ hf; omega⟩
  · rw [if_neg hbe] at hb
    obtain ⟨h1, h2, h3⟩ := h.laid b x hb
    exact ⟨h1, h2.alloc _, h3⟩
theorem ClH.setRow {F : Fl} {L : List Item} {w : World} (hW : W.heap.size ≤ w0.heap.size) (hst : ∀ k, St k → k < w0.heap.size) (h : ClH St D W w0 F L w) {b : Nat} {old cs : Array Value} {t : TypeId} (hb : F b = some (old, t)) : ClH St D W w0 (F.put b (cs, t)) L (w.setRow b cs) := by
  have hN := (h.laid b _ hb).1
  have hf := (h.laid b _ hb).2.2
  refine ⟨fun k hk => (heap_setRow_other _ _ _ _ (by have := hst k hk; omega)).trans (h.same k hk), h.hs.turn rfl rfl rfl (by rw [size_setRow]; exact Nat.le_refl _) fun k hk hh => heap_setRow_other _ _ _ _ (by
      rcases hh with ⟨A, hA, hfk⟩ | ⟨hk, _⟩
      · exact fun e => hf A hA (e ▸ hfk)
      · omega), by rw [size_setRow]; exact h.size, fun c x hc => ?_⟩
  unfold Fl.put at hc
  by_cases hcb : c = b
  · rw [if_pos hcb] at hc
    cases hc
    subst hcb
    exact ⟨hN, (h.laid _ _ hb).2.1.setRow cs, hf⟩
  · rw [if_neg hcb] at hc
    obtain ⟨h1, h2, h3⟩ := h.laid c x hc
    exact ⟨h1, (heap_setRow_other _ _ _ _ hcb).trans h2, h3⟩
theorem ClH.less {F : Fl} {L : List Item} {w : World} {b : Nat} {x : Array Value × TypeId} (hb : F b = none) (h : ClH St D W w0 (F.put b x) L w) : ClH St D W w0 F L w :=
  ⟨h.same, h.hs, h.size, fun c y hc => h.laid c y (by
    unfold Fl.put
    by_cases hcb : c = b
    · rw [hcb, hb] at hc; cases hc
    · rw [if_neg hcb]; exact hc)⟩
theorem stepH_mono {o : Oper} {K K' : Act → Fl → List Item → Prop} (hk : ∀ a F L, K a F L → K' a F L) {a : Act} {F : Fl} {L : List Item} (h : stepH P St D W w0 ops o K a F L) : stepH P St D W w0 ops o K' a F L := by
  unfold stepH at *
  split
  · rename_i hw
    rw [if_pos hw] at h
    split <;> rename_i hf <;> rw [hf] at h <;> simp only at h
    · intro hok; obtain ⟨v, h1, h2⟩ := h hok; exact ⟨v, h1, hk _ _ _ h2⟩
    · exact fun w hw => Oper.wp_mono (fun a w h => by obtain ⟨L', h1, h2, h3⟩ := h; exact ⟨L', h1, h2, hk _ _ _ h3⟩) (h w hw)
    · obtain ⟨z, t, mk, h1, h2⟩ := h; exact ⟨z, t, mk, h1, fun b hb hn hx => hk _ _ _ (h2 b hb hn hx)⟩
    · obtain ⟨b, old, cs, t, h1, h2, h3⟩ := h; exact ⟨b, old, cs, t, h1, h2, hk _ _ _ h3⟩
  · rename_i hw; rw [if_neg hw] at h; exact hk _ _ _ h

theorem putsH {o : Oper} {v : Value} {a : Act} {F : Fl} {L : List Item} (h : PutsG P St w0 ops F o v a) {K : Act → Fl → List Item → Prop} (hK : K (a.put o.dst v) F L) : stepH P St D W w0 ops o K a F L := by
  unfold stepH
  rcases h with ⟨h1, h2, h3⟩ | ⟨h1, rfl⟩
  · rw [if_pos h1, h2]; exact fun _ => ⟨v, h3, hK⟩
  · rw [if_neg (by rw [h1]; simp)]; exact hK
theorem stepH_cases {o : Oper} (hok : okOp P o = true) {K : Act → Fl → List Item → Prop} {a : Act} {F : Fl} {L : List Item} (h : stepH P St D W w0 ops o K a F L) :
    (∃ v, PutsG P St w0 ops F o v a ∧ K (a.put o.dst v) F L) ∨ (Region.wanted o (yielded ops a.tmps) = true ∧ fkG o.op ≠ .pure) := by
  unfold stepH at h
  by_cases hw : Region.wanted o (yielded ops a.tmps) = true
  · rw [if_pos hw] at h
    cases hf : fkG o.op with
    | pure =>
      rw [hf] at h
      obtain ⟨v, h1, h2⟩ := h hok
      exact .inl ⟨v, .inl ⟨hw, hf, h1⟩, h2⟩
    | _ => exact .inr ⟨hw, by simp⟩
  · rw [if_neg hw] at h
    exact .inl ⟨undef, .inr ⟨by simpa using hw, rfl⟩, h⟩
theorem stepH_put {o : Oper} (hs : ∀ cs b, o.op ≠ .select cs b) {d : Option Tmp} (h1 : ∀ t, d = some t → t ∉ o.looksAt ops) (h2 : ∀ t, d = some t → o.dst ≠ some t) (v : Value) {a : Act} {F : Fl} {L : List Item} {K : Act → Fl → List Item → Prop} :
    stepH P St D W w0 ops o K (a.put d v) F L ↔ stepH P St D W w0 ops o (fun a' F' L' => K (a'.put d v) F' L') a F L := by
  have he := execOp_put (ops := ops) o hs a d v h1
  have hy : ∀ u, PureG P St w0 F o u (a.put d v) ↔ PureG P St w0 F o u a := fun u =>
    ⟨fun h => h.of_same he.symm, fun h => h.of_same he⟩
  unfold stepH
  rw [wanted_put o a d v h1]
  split
  · split
    · constructor
      · intro h hok; obtain ⟨u, hu, hk⟩ := h hok; exact ⟨u, (hy u).1 hu, by rw [Act.put_comm a v u h2] at hk; exact hk⟩
      · intro h hok; obtain ⟨u, hu, hk⟩ := h hok; exact ⟨u, (hy u).2 hu, by rw [Act.put_comm a v u h2]; exact hk⟩
    · constructor
      · intro h w hw; exact (wp_put hs h1 h2 v).1 (h w hw)
      · intro h w hw; exact (wp_put hs h1 h2 v).2 (h w hw)
    · rw [he]
      constructor
      · rintro ⟨z, t, mk, hr, hk⟩; exact ⟨z, t, mk, hr, fun b hb hn hx => by have := hk b hb hn hx; rw [Act.put_comm a v _ h2] at this; exact this⟩
      · rintro ⟨z, t, mk, hr, hk⟩; exact ⟨z, t, mk, hr, fun b hb hn hx => by rw [Act.put_comm a v _ h2]; exact hk b hb hn hx⟩
    · rw [he]
      constructor
      · rintro ⟨b, old, cs, t, hb, hr, hk⟩; exact ⟨b, old, cs, t, hb, hr, by rw [Act.put_comm a v _ h2] at hk; exact hk⟩
      · rintro ⟨b, old, cs, t, hb, hr, hk⟩; exact ⟨b, old, cs, t, hb, hr, by rw [Act.put_comm a v _ h2]; exact hk⟩
  · rw [Act.put_comm a v undef h2]

/-- What is known behind a step. -/
def BehindH (P : Program) (St D : Nat → Prop) (W w0 : World) (o : Oper) (a : Act) (F : Fl) (a' : Act) (F' : Fl) (L' : List Item) : Prop :=
  (∃ u, a'.tmps = (a.put o.dst u).tmps) ∧ (∃ w, ClH St D W w0 F' L' w) ∧ (fkG o.op = .store ∨ ∀ b x, F b = some x → F' b = some x)
theorem stepH_info {o : Oper} {K : Act → Fl → List Item → Prop} {a : Act} {F : Fl} {L : List Item} {w1 : World} (hW : W.heap.size ≤ w0.heap.size) (hst : ∀ k, St k → k < w0.heap.size) (hc : ClH St D W w0 F L w1) (h : stepH P St D W w0 ops o K a F L) :
    stepH P St D W w0 ops o (fun a' F' L' => BehindH P St D W w0 o a F a' F' L' ∧ K a' F' L') a F L := by
  unfold stepH at *
  split
  · rename_i hw
    rw [if_pos hw] at h
    split <;> rename_i hf <;> rw [hf] at h <;> simp only at h
    · intro hok; obtain ⟨v, h1, h2⟩ := h hok; exact ⟨v, h1, ⟨⟨v, rfl⟩, ⟨w1, hc⟩, .inr fun _ _ h => h⟩, h2⟩
    · exact fun w hw => Oper.wp_mono (fun a w h => by obtain ⟨h0, L', h1, h2, h3⟩ := h; exact ⟨L', h1, h2, ⟨h0, ⟨_, h1⟩, .inr fun _ _ h => h⟩, h3⟩) (wp_info (h w hw))
    · obtain ⟨z, t, mk, h1, h2⟩ := h
      exact ⟨z, t, mk, h1, fun b hb hn hx => ⟨⟨⟨_, rfl⟩, hx, .inr (Fl.put_new hn _)⟩, h2 b hb hn hx⟩⟩
    · obtain ⟨b, old, cs, t, h1, h2, h3⟩ := h
      exact ⟨b, old, cs, t, h1, h2, ⟨⟨_, rfl⟩, ⟨_, hc.setRow hW hst h1⟩, .inl hf⟩, h3⟩
  · rename_i hw; rw [if_neg hw] at h; exact ⟨⟨⟨undef, rfl⟩, ⟨w1, hc⟩, .inr fun _ _ h => h⟩, h⟩

/-- Some way through an operation that is not pure. -/
theorem stepH_wit {o : Oper} {K : Act → Fl → List Item → Prop} {a : Act} {F : Fl} {L : List Item} (hw : Region.wanted o (yielded ops a.tmps) = true) (hnp : fkG o.op ≠ .pure) {w1 : World} (hW : W.heap.size ≤ w0.heap.size) (hst : ∀ k, St k → k < w0.heap.size) (hc : ClH St D W w0 F L w1) (h : stepH P St D W w0 ops o K a F L) :
    ∃ a' F' L', BehindH P St D W w0 o a F a' F' L' ∧ K a' F' L' := by
  have h := stepH_info hW hst hc h
  unfold stepH at h
  rw [if_pos hw] at h
  cases hf : fkG o.op with
  | pure => exact absurd hf hnp
  | call => rw [hf] at h; obtain ⟨a', w', L', _, _, hh⟩ := wp_wit (h w1 hc); exact ⟨a', F, L', hh⟩
  | float =>
    rw [hf] at h
    obtain ⟨z, t, mk, _, h2⟩ := h
    exact ⟨_, _, _, h2 w1.heap.size hc.size (hc.new_none (Nat.le_refl _)) ⟨_, hc.alloc hst z t⟩⟩
  | store => rw [hf] at h; obtain ⟨b, old, cs, t, _, _, h3⟩ := h; exact ⟨_, _, _, h3⟩
/-- What a pure operation puts behind an operation that is not, it puts ahead of it. -/
theorem stepH_pure {oi oj : Oper} {K : Act → Fl → List Item → Prop} {a : Act} {F : Fl} {L : List Item} (hw : Region.wanted oi (yielded ops a.tmps) = true) (hnp : fkG oi.op ≠ .pure) (hld : fkG oi.op = .store → isLd oj.op = false) {w1 : World} (hW : W.heap.size ≤ w0.heap.size) (hst : ∀ k, St k → k < w0.heap.size) (hc : ClH St D W w0 F L w1)
    (h : stepH P St D W w0 ops oi K a F L) (hin : ∀ a' F' L', BehindH P St D W w0 oi a F a' F' L' ∧ K a' F' L' → ∃ v, PureG P St w0 F' oj v a) : ∃ v, PureG P St w0 F oj v a := by
  have hi := stepH_info hW hst hc h
  cases hf : fkG oi.op with
  | pure => exact absurd hf hnp
  | call =>
    unfold stepH at hi
    rw [if_pos hw, hf] at hi
    obtain ⟨a', w', L', _, _, hh⟩ := wp_wit (hi w1 hc)
    exact hin a' F L' hh
  | store =>
    obtain ⟨a', F', L', hh⟩ := stepH_wit hw hnp hW hst hc h
    obtain ⟨v, hv⟩ := hin a' F' L' hh
    rcases hv with hv | hv
    · exact ⟨v, .inl hv⟩
    · have := hv.1; rw [hld hf] at this; cases this
  | float =>
    unfold stepH at hi
    rw [if_pos hw, hf] at hi
    obtain ⟨z, t, mk, h1, h2⟩ := hi
    have c1 := hc.alloc hst z t
    have hn1 : F w1.heap.size = none := hc.new_none (Nat.le_refl _)
    have c2 := (c1.less hn1).alloc hst z t
    have hs2 : (w1.alloc (.cells z t)).heap.size = w1.heap.size + 1 := by simp
    rw [hs2] at c2
    have hn2 : F (w1.heap.size + 1) = none := hc.new_none (Nat.le_succ _)
    obtain ⟨v1, hv1⟩ := hin _ _ _ (h2 w1.heap.size hc.size hn1 ⟨_, c1⟩)
    obtain ⟨v2, hv2⟩ := hin _ _ _ (h2 (w1.heap.size + 1) (Nat.le_succ_of_le hc.size) hn2 ⟨_, c2⟩)
    rcases hv1 with hv1 | hv1
    · exact ⟨v1, .inl hv1⟩
    · rcases hv2 with hv2 | hv2
      · exact ⟨v2, .inl hv2⟩
      · obtain ⟨l1, b1, cs1, t1, e1, r1, x1⟩ := hv1
        obtain ⟨l2, b2, cs2, t2, e2, r2, x2⟩ := hv2
        by_cases d1 : b1 = w1.heap.size
        · by_cases d2 : b2 = w1.heap.size + 1
          · exfalso
            have hb1 := (c1.laid b1 _ e1).2.1
            exact x2 (w1.alloc (.cells z t)) _ _ (by rw [d2]; exact Array.getElem?_eq_none (by simp)) (r1 _ hb1)
          · refine ⟨v2, .inr ⟨l2, b2, cs2, t2, ?_, r2, x2⟩⟩
            unfold Fl.put at e2; rwa [if_neg d2] at e2
        · refine ⟨v1, .inr ⟨l1, b1, cs1, t1, ?_, r1, x1⟩⟩
          unfold Fl.put at e1; rwa [if_neg d1] at e1

theorem swapH {oi oj : Oper} (hsi : ∀ cs b, oi.op ≠ .select cs b) (hsj : ∀ cs b, oj.op ≠ .select cs b) (hoki : okOp P oi = true) (hokj : okOp P oj = true)
    (hap : oi.apart ops oj = true) (hpr : pairG oi.op oj.op = true) {K : Act → Fl → List Item → Prop} {a : Act} {F : Fl} {L : List Item} {w1 : World} (hW : W.heap.size ≤ w0.heap.size) (hst : ∀ k, St k → k < w0.heap.size) (hc : ClH St D W w0 F L w1)
    (h : stepH P St D W w0 ops oi (stepH P St D W w0 ops oj K) a F L) : stepH P St D W w0 ops oj (stepH P St D W w0 ops oi K) a F L := by
  obtain ⟨a1, a2, a3⟩ := Oper.apart_spec hap
  have a2' : ∀ t, oj.dst = some t → oi.dst ≠ some t := fun t ht hh => a2 t hh ht
  rcases stepH_cases hoki h with ⟨v, hv, hk⟩ | ⟨hwi, hnpi⟩
  · refine stepH_mono (fun a' F' L' hh => ?_) (stepH_info hW hst hc ((stepH_put hsj a1 a2 v).1 hk))
    obtain ⟨⟨⟨u, hu⟩, -, hext⟩, hk'⟩ := hh
    refine putsH (hv.move hsi hu a3 fun hld => ?_) hk'
    rcases hext with hext | hext
    · exfalso; simp [pairG, hext, hld] at hpr
    · exact hext
  · have h0 := stepH_info hW hst hc h
    have hput : ∀ v, (∀ a' F' L', BehindH P St D W w0 oi a F a' F' L' ∧ stepH P St D W w0 ops oj K a' F' L' → K (a'.put oj.dst v) F' L') → stepH P St D W w0 ops oi K (a.put oj.dst v) F L := fun v hv =>
      (stepH_put hsi (d := oj.dst) a3 a2' v).2 (stepH_mono hv h0)
    by_cases hwj : Region.wanted oj (yielded ops a.tmps) = true
    · have hwj' : ∀ a' : Act, (∃ u, a'.tmps = (a.put oi.dst u).tmps) → Region.wanted oj (yielded ops a'.tmps) = true := by
        rintro a' ⟨u, hu⟩; rw [hu, wanted_put oj a oi.dst u a1]; exact hwj
      have hej : ∀ a' : Act, (∃ u, a'.tmps = (a.put oi.dst u).tmps) → execOp a'.eval oj = execOp a.eval oj := by
        rintro a' ⟨u, hu⟩; exact exec_tmps hsj hu a1
      cases hfj : fkG oj.op with
      | pure =>
        have hin : ∀ (a' : Act) (F' : Fl) (L' : List Item), BehindH P St D W w0 oi a F a' F' L' ∧ stepH P St D W w0 ops oj K a' F' L' → ∃ v, PureG P St w0 F' oj v a ∧ K (a'.put oj.dst v) F' L' := by
          rintro a' F' L' ⟨hu, hk⟩
          unfold stepH at hk
          rw [if_pos (hwj' a' hu.1), hfj] at hk
          obtain ⟨v, h1, h2⟩ := hk hokj
          exact ⟨v, PureG.of_same h1 (hej a' hu.1).symm, h2⟩
        have hld : fkG oi.op = .store → isLd oj.op = false := fun hs => by
          cases hb : isLd oj.op with
          | false => rfl
          | true => exfalso; simp [pairG, hs, hb] at hpr
        obtain ⟨v, hv⟩ := stepH_pure (oj := oj) hwi hnpi hld hW hst hc h (fun a' F' L' hh => by obtain ⟨v, hv, _⟩ := hin a' F' L' hh; exact ⟨v, hv⟩)
        refine putsH (.inl ⟨hwj, hfj, hv⟩) (hput v fun a' F' L' hh => ?_)
        obtain ⟨v', hv', hk⟩ := hin a' F' L' hh
        obtain ⟨-, ⟨w, hw⟩, hext⟩ := hh.1
        have hvF : PureG P St w0 F' oj v a := hv.ext fun hb => by
          rcases hext with hs | hext
          · rw [hld hs] at hb; cases hb
          · exact hext
        have e1 := hvF.runH hw
        rw [hv'.runH hw] at e1
        simp only [Result.ok.injEq, Next.value.injEq, and_true] at e1
        rw [← e1]
        exact hk
      | call => exfalso; simp [pairG, hfj, hnpi] at hpr
      | store => exfalso; simp [pairG, hfj, hnpi] at hpr
      | float =>
        have hin : ∀ (a' : Act) (F' : Fl) (L' : List Item), (∃ u, a'.tmps = (a.put oi.dst u).tmps) ∧ stepH P St D W w0 ops oj K a' F' L' → ∃ (z : Array Value) (t : TypeId) (mk : Nat → Value), (∀ w, (execOp a.eval oj).run P w = .ok (.value (mk w.heap.size)) (w.alloc (.cells z t))) ∧
            ∀ b, w0.heap.size ≤ b → F' b = none → (∃ w, ClH St D W w0 (F'.put b (z, t)) L' w) → K (a'.put oj.dst (mk b)) (F'.put b (z, t)) L' := by
          rintro a' F' L' ⟨hu, hk⟩
          unfold stepH at hk
          rw [if_pos (hwj' a' hu), hfj] at hk
          obtain ⟨z, t, mk, h1, h2⟩ := hk
          exact ⟨z, t, mk, fun w => by rw [← hej a' hu]; exact h1 w, h2⟩
        obtain ⟨a', F', L', hu, hh⟩ := stepH_wit hwi hnpi hW hst hc h0
        obtain ⟨z, t, mk, hz, _⟩ := hin a' F' L' ⟨hu.1, hh.2⟩
        have huniq : ∀ z' t' (mk' : Nat → Value), (∀ w, (execOp a.eval oj).run P w = .ok (.value (mk' w.heap.size)) (w.alloc (.cells z' t'))) → z' = z ∧ t' = t ∧ mk' = mk := fun z' t' mk' hz' => by
          have := hz' w1
          rw [hz w1] at this
          simp only [Result.ok.injEq, World.alloc, World.mk.injEq, Array.push_eq_push] at this
          have hzt : z' = z ∧ t' = t := by
            have h9 : mk w1.heap.size = mk' w1.heap.size ∧ z = z' ∧ t = t' := by simpa using this
            exact ⟨h9.2.1.symm, h9.2.2.symm⟩
          refine ⟨hzt.1, hzt.2, funext fun n => ?_⟩
          have hn := hz' { w1 with heap := Array.replicate n (.cells #[] 0) }
          rw [hz] at hn
          simp only [Result.ok.injEq, Next.value.injEq, Array.size_replicate] at hn
          exact hn.1.symm
        unfold stepH
        rw [if_pos hwj, hfj]
        refine ⟨z, t, mk, hz, fun b hb hn hx => ?_⟩
        refine (stepH_put hsi (d := oj.dst) a3 a2' _).2 ?_
        -- i, with block b laid already
        unfold stepH at h0 ⊢
        rw [if_pos hwi] at h0 ⊢
        cases hfi : fkG oi.op with
        | pure => exact absurd hfi hnpi
        | call =>
          rw [hfi] at h0
          intro w hw
          have hbl := hw.laid b (z, t) (by unfold Fl.put; simp)
          refine Oper.wp_mono (fun a' w' hh => ?_) (h0 w (hw.less hn))
          obtain ⟨L', hC, hkeep, hh⟩ := hh
          obtain ⟨z', t', mk', hz', hk⟩ := hin a' F L' ⟨hh.1.1, hh.2⟩
          obtain ⟨rfl, rfl, rfl⟩ := huniq z' t' mk' hz'
          have hC' : ClH St D W w0 (F.put b (z', t')) L' w' := by
            refine ⟨hC.same, hC.hs, hC.size, fun c x hx => ?_⟩
            unfold Fl.put at hx
            by_cases hcb : c = b
            · rw [if_pos hcb] at hx
              cases hx
              subst hcb
              refine ⟨hb, (hkeep.1 c hb hbl.2.1.lt hbl.2.2).trans hbl.2.1, fun A hA hf => ?_⟩
              rcases hkeep.2 A hA c hf with ⟨B, hB, hBf⟩ | h
              · exact hbl.2.2 B hB hBf
              · have := hbl.2.1.lt; omega
            · rw [if_neg hcb] at hx
              exact hC.laid c x hx
          exact ⟨L', hC', hkeep, hk b hb hn ⟨_, hC'⟩⟩
        | float =>
          rw [hfi] at h0
          obtain ⟨zi, ti, mki, hri, hki⟩ := h0
          refine ⟨zi, ti, mki, hri, fun bi hbi hni hxi => ?_⟩
          have hne : bi ≠ b := fun e => by unfold Fl.put at hni; rw [e] at hni; simp at hni
          have hni' : F bi = none := by unfold Fl.put at hni; rwa [if_neg hne] at hni
          obtain ⟨w2, hw2⟩ := hxi
          rw [Fl.put_comm F (Ne.symm hne)] at hw2 ⊢
          have hnb : (F.put bi (zi, ti)) b = none := by unfold Fl.put; rw [if_neg (Ne.symm hne)]; exact hn
          have hq := hki bi hbi hni' ⟨w2, hw2.less hnb⟩
          obtain ⟨z', t', mk', hz', hk⟩ := hin _ _ _ ⟨hq.1.1, hq.2⟩
          obtain ⟨rfl, rfl, rfl⟩ := huniq z' t' mk' hz'
          exact hk b hb hnb ⟨w2, hw2⟩
        | store =>
          rw [hfi] at h0
          obtain ⟨bi, old, cs, ti, hbi, hri, hki⟩ := h0
          have hne : bi ≠ b := fun e => by rw [e, hn] at hbi; cases hbi
          refine ⟨bi, old, cs, ti, by unfold Fl.put; rw [if_neg hne]; exact hbi, fun w hw => hri w (hw.less hn), ?_⟩
          obtain ⟨z', t', mk', hz', hk⟩ := hin _ _ _ ⟨hki.1.1, hki.2⟩
          obtain ⟨rfl, rfl, rfl⟩ := huniq z' t' mk' hz'
          obtain ⟨w2, hw2⟩ := hx
          have hrow := hw2.setRow hW hst (b := bi) (old := old) (cs := cs) (t := ti) (by unfold Fl.put; rw [if_neg hne]; exact hbi)
          rw [Fl.put_comm F (Ne.symm hne)] at hrow ⊢
          exact hk b hb (by unfold Fl.put; rw [if_neg (Ne.symm hne)]; exact hn) ⟨_, hrow⟩
    · refine putsH (.inr ⟨by simpa using hwj, rfl⟩) (hput undef fun a' F' L' hh => ?_)
      obtain ⟨⟨⟨u, hu⟩, -, -⟩, hk⟩ := hh
      unfold stepH at hk
      rw [hu, wanted_put oj a oi.dst u a1, if_neg hwj] at hk
      exact hk


theorem frontH {Q : Act → Fl → List Item → Prop} {oj : Oper} (hsj : ∀ cs b, oj.op ≠ .select cs b) (hokj : okOp P oj = true) (l2 : List Oper) :
    ∀ (l1 : List Oper), (∀ oi ∈ l1, (∀ cs b, oi.op ≠ .select cs b) ∧ okOp P oi = true ∧ oi.apart ops oj = true ∧ pairG oi.op oj.op = true) → ∀ (a : Act) (F : Fl) (L : List Item) (w1 : World), W.heap.size ≤ w0.heap.size → (∀ k, St k → k < w0.heap.size) → ClH St D W w0 F L w1 →
      wpH P St D W w0 ops Q (l1 ++ oj :: l2) a F L → stepH P St D W w0 ops oj (wpH P St D W w0 ops Q (l1 ++ l2)) a F L := by
  intro l1
  induction l1 with
  | nil => intro _ a F L w1 _ _ _ h; exact h
  | cons oi l1 ih =>
    intro hall a F L w1 hW hst hc h
    obtain ⟨hsi, hoki, hap, hpr⟩ := hall oi (by simp)
    -- the rest of the list is walked in worlds that come of w1: which ones there are is read off the step itself
    have hrest : stepH P St D W w0 ops oi (fun a' F' L' => (∃ w2, ClH St D W w0 F' L' w2) → stepH P St D W w0 ops oj (wpH P St D W w0 ops Q (l1 ++ l2)) a' F' L') a F L :=
      stepH_mono (fun a' F' L' hh hne => by obtain ⟨w2, h2⟩ := hne; exact ih (fun k hk => hall k (by simp [hk])) a' F' L' w2 hW hst h2 hh) h
    have hgo : stepH P St D W w0 ops oi (stepH P St D W w0 ops oj (wpH P St D W w0 ops Q (l1 ++ l2))) a F L := by
      unfold stepH at hrest
      rw [show stepH P St D W w0 ops oi (stepH P St D W w0 ops oj (wpH P St D W w0 ops Q (l1 ++ l2))) a F L = _ from by rw [stepH]]
      split
      · rename_i hw
        rw [if_pos hw] at hrest
        split <;> rename_i hf <;> rw [hf] at hrest <;> simp only at hrest
        · intro hok; obtain ⟨v, h1, h2⟩ := hrest hok; exact ⟨v, h1, h2 ⟨w1, hc⟩⟩
        · exact fun w hw => Oper.wp_mono (fun a w h => by obtain ⟨L', h1, h2, h3⟩ := h; exact ⟨L', h1, h2, h3 ⟨_, h1⟩⟩) (hrest w hw)
        · obtain ⟨z, t, mk, h1, h2⟩ := hrest
          exact ⟨z, t, mk, h1, fun b hb hn hx => h2 b hb hn hx hx⟩
        · obtain ⟨b, old, cs, t, h1, h2, h3⟩ := hrest
          exact ⟨b, old, cs, t, h1, h2, h3 ⟨_, hc.setRow hW hst h1⟩⟩
      · rename_i hw; rw [if_neg hw] at hrest; exact hrest ⟨w1, hc⟩
    exact swapH hsi hsj hoki hokj hap hpr hW hst hc hgo
theorem stepH_op {Q' : Exit → Act → World → Prop} {j : Nat} {oj : Oper} (hj : ops[j]? = some oj) (hokj : okOp P oj = true) {K : Act → Fl → List Item → Prop} {a : Act} {F : Fl} {L : List Item} {w : World} (hW : W.heap.size ≤ w0.heap.size) (hst : ∀ k, St k → k < w0.heap.size) (hc : ClH St D W w0 F L w) (h : stepH P St D W w0 ops oj K a F L) :
    wpOp P ops Q' j (fun a' w' => ∃ F' L', ClH St D W w0 F' L' w' ∧ K a' F' L') a w := by
  unfold stepH at h
  unfold wpOp
  rw [hj]
  simp only
  split
  · rename_i hw
    rw [if_pos hw] at h
    refine .inl ?_
    cases hf : fkG oj.op with
    | pure =>
      rw [hf] at h
      obtain ⟨v, h1, h2⟩ := h hokj
      simp only [Oper.wp, PureG.runH h1 hc, Oper.upon]
      exact ⟨F, L, hc, h2⟩
    | call =>
      rw [hf] at h
      exact wp_false (Oper.wp_mono (fun a' w' hh => by obtain ⟨L', h1, _, h3⟩ := hh; exact ⟨F, L', h1, h3⟩) (h w hc))
    | float =>
      rw [hf] at h
      obtain ⟨z, t, mk, h1, h2⟩ := h
      simp only [Oper.wp, h1 w, Oper.upon]
      have hc' := hc.alloc hst z t
      exact ⟨_, _, hc', h2 w.heap.size hc.size (hc.new_none (Nat.le_refl _)) ⟨_, hc'⟩⟩
    | store =>
      rw [hf] at h
      obtain ⟨b, old, cs, t, h1, h2, h3⟩ := h
      simp only [Oper.wp, h2 w hc, Oper.upon]
      exact ⟨_, _, hc.setRow hW hst h1, h3⟩
  · rename_i hw; rw [if_neg hw] at h; exact ⟨F, L, hc, h⟩
theorem gen_sound {cert : Array Nat} (hback : backB ops cert = true) (hsel : Region.noSelect ops = true) (hok : ops.all (okOp P) = true) (hW : W.heap.size ≤ w0.heap.size) (hst : ∀ k, St k → k < w0.heap.size) {Q : Act → Fl → List Item → Prop} {Q' : Exit → Act → World → Prop} (hQ : ∀ a w F L, ClH St D W w0 F L w → Q a F L → Q' .normal a w) :
    ∀ (fuel : Nat) (l : List Nat) (listed : Array Bool) (a : Act) (w : World) (F : Fl) (L : List Item), l.length ≤ fuel → (∀ i, i ∈ l ↔ i < ops.size ∧ listed.getD i true = false) → l.Nodup → orderG ops cert l = true →
      Closed ops listed → listed.size = ops.size → ClH St D W w0 F L w → wpH P St D W w0 ops Q (l.filterMap (ops[·]?)) a F L → wpAny P .any ops Q' fuel listed a w := by
  intro fuel
  induction fuel with
  | zero =>
    intro l listed a w F L hlen hmem _ _ _ _ hc h
    have hnil : l = [] := List.eq_nil_of_length_eq_zero (by omega)
    subst hnil
    refine ⟨?_, hQ _ _ _ _ hc h⟩
    refine List.eq_nil_iff_forall_not_mem.2 fun j hj => ?_
    obtain ⟨h0, o, ho, _⟩ := mem_ready.1 hj
    have := (hmem j).2 ⟨(Array.getElem?_eq_some_iff.1 ho).1, h0⟩
    cases this
  | succ fuel ih =>
    intro l listed a w F L hlen hmem hnd hord hcl hsz hc h
    have hunl : ∀ i, i < ops.size → i ∉ l → listed.getD i false = true := fun i hi hn => by
      have h1 : ¬ listed.getD i true = false := fun hh => hn ((hmem i).2 ⟨hi, hh⟩)
      have hi' : i < listed.size := by omega
      simp [hi'] at h1 ⊢
      exact h1
    refine ⟨fun hr => ?_, fun j hj => ?_⟩
    · cases l with
      | nil => exact hQ _ _ _ _ hc h
      | cons i l =>
        exfalso
        obtain ⟨hi, hi0⟩ := (hmem i).1 (by simp)
        have hio : ops[i]? = some ops[i] := Array.getElem?_eq_getElem hi
        have hin : i ∈ Region.ready .any ops listed := mem_ready.2 ⟨hi0, _, hio, fun e he hb => by
          have hlt := (back_at hback hio).1 e he hb
          simp only [orderG, hio, Bool.and_eq_true] at hord
          have := (Array.all_eq_true_iff_forall_mem.1 hord.1.1) e he
          simp only [hb, Bool.not_true, Bool.false_or, Bool.not_eq_true', List.contains_eq_mem, decide_eq_false_iff_not] at this
          refine hunl e.on (by omega) fun hin => ?_
          rcases List.mem_cons.1 hin with h | h
          · omega
          · exact this h⟩
        rw [hr] at hin
        cases hin
    · obtain ⟨h0, oj, hoj, hall⟩ := mem_ready.1 hj
      have hjlt : j < ops.size := (Array.getElem?_eq_some_iff.1 hoj).1
      obtain ⟨l1, l2, rfl⟩ := List.append_of_mem ((hmem j).2 ⟨hjlt, h0⟩)
      have hsel' := Region.noSelect_spec hsel
      have hokj : okOp P oj = true := Array.all_eq_true_iff_forall_mem.1 hok oj (Array.mem_of_getElem? hoj)
      rw [List.filterMap_append, List.filterMap_cons_some hoj] at h
      have hfront := frontH (P := P) (St := St) (D := D) (W := W) (w0 := w0) (hsel' j oj · · hoj) hokj _ _ (fun oi hoi => by
        obtain ⟨x, hx, hxo⟩ := List.mem_filterMap.1 hoi
        obtain ⟨ox, hox, hcase⟩ := orderG_at hoj l2 l1 hord x hx
        rw [hox] at hxo
        cases hxo
        refine ⟨fun cs b => hsel' x _ cs b hox, Array.all_eq_true_iff_forall_mem.1 hok _ (Array.mem_of_getElem? hox), ?_⟩
        rcases hcase with ⟨hlt, hb⟩ | hcase
        · exfalso
          have h1 := back_listed hback hcl j j oj (Nat.le_refl _) hoj hall x hlt hb
          have h2 := ((hmem x).1 (by simp [hx])).2
          have hi' : x < listed.size := by omega
          simp [hi'] at h1 h2
          rw [h1] at h2; cases h2
        · exact hcase) a F L w hW hst hc h
      refine wpOp_mono (fun a' w' hh => ?_) (stepH_op hoj hokj hW hst hc hfront)
      obtain ⟨F', L', hc', hh⟩ := hh
      rw [← List.filterMap_append] at hh
      have hnd' := hnd
      rw [List.nodup_append] at hnd'
      have hj1 : j ∉ l1 := fun hin => hnd'.2.2 j hin j (by simp) rfl
      have hj2 : j ∉ l2 := (List.nodup_cons.1 hnd'.2.1).1
      refine ih (l1 ++ l2) _ a' w' F' L' (by simp at hlen ⊢; omega) (fun i => ?_) ?_ (orderG_drop l2 l1 hord) ?_ (by simpa using hsz) hc' hh
      · have hne : ∀ i, i ∈ l1 ++ l2 → i ≠ j := fun i hi e => by
          subst e
          rcases List.mem_append.1 hi with h | h
          · exact hj1 h
          · exact hj2 h
        constructor
        · intro hi
          obtain ⟨h1, h2⟩ := (hmem i).1 (by rcases List.mem_append.1 hi with h | h <;> simp [h])
          exact ⟨h1, by rw [getD_set_ne true (Ne.symm (hne i hi))]; exact h2⟩
        · rintro ⟨h1, h2⟩
          have hij : i ≠ j := fun e => by subst e; simp [show i < listed.size by omega] at h2
          rw [getD_set_ne true (Ne.symm hij)] at h2
          have := (hmem i).2 ⟨h1, h2⟩
          rcases List.mem_append.1 this with h | h
          · simp [h]
          · rcases List.mem_cons.1 h with h | h
            · exact absurd h hij
            · simp [h]
      · rw [List.nodup_append]
        exact ⟨hnd'.1, (List.nodup_cons.1 hnd'.2.1).2, fun x hx y hy => hnd'.2.2 x hx y (by simp [hy])⟩
      · intro k o hk hlk e he hb
        by_cases hkj : k = j
        · subst hkj
          rw [hoj] at hk
          cases hk
          exact getD_set_true (hall e he hb)
        · rw [getD_set_ne false (Ne.symm hkj)] at hlk
          exact getD_set_true (hcl k o hk hlk e he hb)

theorem wp_region_h {id : Nat} {l : List Oper} {a : Act} {w : World} (hm : P.follows .mixedOrders = true) (canon : List Nat) (hcan : canonG l.toArray canon = true) (hsel : Region.noSelect l.toArray = true) (hok : l.toArray.all (okOp P) = true) (X : Nat → Prop) {L : List Item} (H : HS D W L w) {Q' : Exit → Act → World → Prop}
    (h : ∀ w0, HS D W L w0 → w0.heap.size = w.heap.size → wpH P (Stay X w0) D W w0 l.toArray (fun a F L' => ∀ w', ClH (Stay X w0) D W w0 F L' w' → Q' .normal a w') (canon.filterMap (l.toArray[·]?)) a (fun _ => none) L) : (Code.region id l.toArray true).wp P Q' a w := by
  unfold canonG at hcan
  simp only [Bool.and_eq_true, List.all_eq_true, decide_eq_true_eq, List.contains_eq_mem] at hcan
  obtain ⟨⟨⟨⟨⟨h1, h2⟩, h3⟩, hlen⟩, h4⟩, h5⟩ := hcan
  have hd : HS D W L w.drew := H.drew
  refine wp_region_any hm (gen_sound (St := Stay X w.drew) (D := D) (W := W) (w0 := w.drew) h5 hsel hok hd.size (fun _ h => h.1) (fun a w F L hc h => h w hc) _ canon _ a w.drew (fun _ => none) L hlen (fun i => ?_) h3 h4 ?_ (by simp) ⟨Same.refl _ _, hd, Nat.le_refl _, fun b x hx => by cases hx⟩ (h w.drew hd rfl))
  · constructor
    · intro hi; have h := h2 i hi; refine ⟨h, ?_⟩; simp at h; simp [h]
    · exact fun hh => h1 i (List.mem_range.2 hh.1)
  · intro k o _ hk
    exfalso
    rcases Nat.lt_or_ge k l.toArray.size with hh | hh
    · simp at hh; simp [hh] at hk
    · simp at hh; simp [Nat.not_lt.2 hh] at hk
end

/-! ### The walk's steps -/
section
variable {P : Program} {ops : Array Oper} {St D : Nat → Prop} {W w0 : World} {Q : Act → Fl → List Item → Prop} {o : Oper} {rest : List Oper} {a : Act} {F : Fl} {L : List Item}
theorem wpH_nil (h : Q a F L) : wpH P St D W w0 ops Q [] a F L := h
theorem wpH_steady (hw : Region.wanted o (yielded ops a.tmps) = true) (hp : fkG o.op = .pure)
    (hs : okOp P o = true → ∀ x w1, (execOp a.eval o).run P w0 = .ok x w1 → w1 = w0 ∧ (∃ v, x = .value v) ∧ ∀ w', Same St w0 w' → (execOp a.eval o).run P w' = .ok x w')
    (h : ∀ K : Act → World → Prop, (∀ a w, wpH P St D W w0 ops Q rest a F L → K a w) → o.wp P a w0 K (fun _ _ _ => False)) : wpH P St D W w0 ops Q (o :: rest) a F L := by
  unfold wpH stepH
  rw [if_pos hw, hp]
  intro hok
  have h1 := h (fun a _ => wpH P St D W w0 ops Q rest a F L) (fun _ _ h => h)
  have h2 := hs hok
  unfold Oper.wp at h1
  cases hr : (execOp a.eval o).run P w0 with
  | halt x w1 =>
    rw [hr] at h1
    cases x <;> simp only [Oper.upon] at h1
  | ok x w1 =>
    obtain ⟨rfl, ⟨v, rfl⟩, h3⟩ := h2 x w1 hr
    rw [hr] at h1
    exact ⟨v, .inl h3, h1⟩
theorem wpH_free (hw : Region.wanted o (yielded ops a.tmps) = true) (hp : fkG o.op = .pure) (hf : freeAt a.eval o = true)
    (h : ∀ K : Act → World → Prop, (∀ a w, wpH P St D W w0 ops Q rest a F L → K a w) → o.wp P a w0 K (fun _ _ _ => False)) : wpH P St D W w0 ops Q (o :: rest) a F L :=
  wpH_steady hw hp (fun hok x w1 hr => by
    have hs := freeAt_steady hf hok
    obtain ⟨h1, h2, _⟩ := hs w0 w0 x w1 hr
    exact ⟨h1, h2, fun w' _ => (hs w0 w' x w1 hr).2.2⟩) h
theorem wpH_load (hw : Region.wanted o (yielded ops a.tmps) = true) {t : TypeId} {x : Operand} {p : Addr} (ho : o.op = .load t x) (hx : a.eval x = .pointer (some p)) (hS : St p.block) (hc : (w0.cell? p).isSome = true)
    (h : ∀ K : Act → World → Prop, (∀ a w, wpH P St D W w0 ops Q rest a F L → K a w) → o.wp P a w0 K (fun _ _ _ => False)) : wpH P St D W w0 ops Q (o :: rest) a F L :=
  wpH_steady hw (by rw [ho]; rfl) (fun _ y w1 hr => by
    have hrun : ∀ v : World, (execOp a.eval o).run P v = ((Instr.loadAt t (.pointer (some p))).run P v).andThen fun u w' => .ok (.value u) w' := fun v => by
      unfold execOp
      rw [ho]
      simp only [hx, Sem.run_bind, Sem.run_pure]
    rw [hrun] at hr
    cases hl : (Instr.loadAt t (.pointer (some p))).run P w0 with
    | halt z w2 => rw [hl] at hr; cases hr
    | ok u w2 =>
      rw [hl] at hr
      simp only [Result.andThen_ok, Result.ok.injEq] at hr
      obtain ⟨rfl, rfl⟩ := hr
      refine ⟨(load_steady (P := P) (w' := w0) rfl hc hl).1, ⟨u, rfl⟩, fun w' hw' => ?_⟩
      have := (load_steady (P := P) (w := w0) (w' := w') (hw' _ hS) hc hl).2
      rw [hrun, this]
      rfl) h
theorem wpH_call (hw : Region.wanted o (yielded ops a.tmps) = true) (hp : fkG o.op = .call)
    (h : ∀ w, ClH St D W w0 F L w → ∀ K : Act → World → Prop, (∀ a w', (∃ L', ClH St D W w0 F L' w' ∧ KeepL L L' w0 w w' ∧ wpH P St D W w0 ops Q rest a F L') → K a w') → o.wp P a w K (fun _ _ _ => False)) : wpH P St D W w0 ops Q (o :: rest) a F L := by
  unfold wpH stepH
  rw [if_pos hw, hp]
  exact fun w hc => h w hc _ (fun _ _ h => h)
theorem wpH_lit (hw : Region.wanted o (yielded ops a.tmps) = true) (hp : fkG o.op = .float) (z : Array Value) (t : TypeId) (n : Nat) (hr : ∀ w, (execOp a.eval o).run P w = .ok (.value (.slice (some ⟨w.heap.size, 0, none⟩) n n)) (w.alloc (.cells z t)))
    (h : ∀ b, w0.heap.size ≤ b → F b = none → ∀ K : Act → World → Prop, (∀ a w, wpH P St D W w0 ops Q rest a (F.put b (z, t)) L → K a w) → K (a.put o.dst (.slice (some ⟨b, 0, none⟩) n n)) w0) : wpH P St D W w0 ops Q (o :: rest) a F L := by
  unfold wpH stepH
  rw [if_pos hw, hp]
  exact ⟨z, t, fun b => .slice (some ⟨b, 0, none⟩) n n, hr, fun b hb hn _ => h b hb hn (fun a _ => wpH P St D W w0 ops Q rest a (F.put b (z, t)) L) (fun _ _ h => h)⟩
end
end Go.Proofs.Ytdhnpjgnnfgklaa

/- Such a region: appending. -/
namespace Go.Proofs.Ytdhnpjgnnfgklaa
set_option linter.unusedSimpArgs false
set_option linter.unusedVariables false
open Go.RowKit

section
variable {P : Program} {ops : Array Oper} {St D : Nat → Prop} {W w0 : World} {Q : Act → Fl → List Item → Prop} {o : Oper} {rest : List Oper} {a : Act} {F : Fl} {L : List Item}
/-- The cells of a slice's elements, in a world. -/
def SrcOk (w : World) (sa : Option Addr) (m c : Nat) (news : List Value) : Prop := (sa = none ∧ m = 0 ∧ c = 0) ∨ ∃ ad, sa = some ad ∧ ∀ q y, news[q]? = some y → w.cell? (ad.add q) = some y
theorem run_append_src {t e : TypeId} {z : Value} {size bytes : Nat} (hE : Elem P t e z size bytes) (ty : TypeId) {w : World} (H : HS D W L w) (k : Nat) {v : Value} {n : Nat} {xs : List Value} (hk : L[k]? = some (.row v e size n xs))
    {sa : Option Addr} {m c : Nat} {news : List Value} (hs : SrcOk w sa m c news) (hl : news.length = m * size) (h1 : ∀ y ∈ news, y.oneCell' = true) (h63 : n + m ≤ maxLen) (hbytes : (n + m) * bytes ≤ 140737488355328) :
    ∃ v' w', (Builtin.append_ #[t, t] ty #[v, .slice sa m c]).run P w = .ok v' w' ∧ HS D W (L.set k (.row v' e size (n + m) (xs ++ news))) w' ∧ w.grownBy w' v.ownBlock ∧ (v'.ownBlock = v.ownBlock ∨ v'.ownBlock = some w.heap.size) := by
  obtain ⟨i, i1, i2, i3, i4⟩ := hE.hi
  rcases hs with ⟨rfl, rfl, rfl⟩ | ⟨ad, rfl, hnews⟩
  · have hys : news = [] := List.eq_nil_of_length_eq_zero (by simpa using hl)
    subst hys
    refine ⟨v, w, run_append_owned_none w 0 t ty e i size hE.ht i1 v n xs (H.at k hk), ?_, ⟨rfl, rfl, rfl, Nat.le_refl _, fun _ _ _ => rfl⟩, .inl rfl⟩
    have e1 : L.set k (.row v e size (n + 0) (xs ++ [])) = L := by
      rw [Nat.add_zero, List.append_nil]
      obtain ⟨hlt, he⟩ := List.getElem?_eq_some_iff.1 hk
      rw [← he, List.set_getElem_self]
    rw [e1]
    exact H
  · obtain ⟨v', w', h2, h3, h4, -, h5⟩ := run_append_own_at (P := P) w 0 t ty e i z size bytes hE.ht i1 i2 i3 i4 hE.hzs hE.pos v n xs (H.at k hk) ad m c news hl hnews h1 h63 hbytes (Nat.zero_le _)
    refine ⟨v', w', h2, H.grownAt k hk h4 (.inr ⟨h3, fun b hb => ?_⟩), h4, h5⟩
    rcases h5 with h5 | h5
    · exact .inl (by rw [← h5]; exact hb)
    · rw [h5] at hb
      exact .inr (by injection hb with hb; omega)
theorem mem_set_fp {L : List Item} {k : Nat} {X A : Item} (h : A ∈ L.set k X) : A = X ∨ A ∈ L := by
  rcases List.mem_or_eq_of_mem_set h with h | h
  · exact .inr h
  · exact .inl h
/-- 'append' onto a row of the list. -/
theorem wpH_append (hw : Region.wanted o (yielded ops a.tmps) = true) (s x : Operand) (t : TypeId)
    (ho : o.op = .call { callee := .builtin .append, args := #[s, x], argTypes := #[t, t] }) {e : TypeId} {z : Value} {size bytes : Nat} (hE : Elem P t e z size bytes)
    (k : Nat) {v : Value} {n : Nat} {xs : List Value} (hk : L[k]? = some (.row v e size n xs)) (hs : a.eval s = v) (hv : ∀ b, v.ownBlock = some b → ¬ St b) (hst : ∀ b, St b → b < w0.heap.size)
    {sa : Option Addr} {m c : Nat} {news : List Value} (hx : a.eval x = .slice sa m c) (hsrc : ∀ w, ClH St D W w0 F L w → SrcOk w sa m c news) (hl : news.length = m * size) (h1 : ∀ y ∈ news, y.oneCell' = true) (h63 : n + m ≤ maxLen) (hbytes : (n + m) * bytes ≤ 140737488355328) {N : Nat} (hN : n + m = N)
    (h : ∀ s' c', (∀ b, (Value.slice s' N c').ownBlock = some b → ¬ St b) → wpH P St D W w0 ops Q rest (a.put o.dst (.slice s' N c')) F (L.set k (.row (.slice s' N c') e size N (xs ++ news)))) : wpH P St D W w0 ops Q (o :: rest) a F L := by
  subst hN
  refine wpH_call hw (by rw [ho]; rfl) fun w hc K hK => ?_
  obtain ⟨v', w', h2, h3, h4, h5⟩ := run_append_src hE o.type hc.hs k hk (hsrc w hc) hl h1 h63 hbytes
  have hlt : k < (L.set k (.row v' e size (n + m) (xs ++ news))).length := by rw [List.length_set]; exact (List.getElem?_eq_some_iff.1 hk).1
  have hrow : w'.ownsRow 0 e size v' (n + m) (xs ++ news) := h3.at k (A := .row v' e size (n + m) (xs ++ news)) (by rw [List.getElem?_set_self (by simpa using hlt)])
  obtain ⟨s', c', rfl⟩ := ownsRow_slice hrow
  have hnS : ∀ b, (Value.slice s' (n + m) c').ownBlock = some b → ¬ St b := fun b hb => by
    rcases h5 with h5 | h5
    · exact hv b (by rw [← h5]; exact hb)
    · rw [h5] at hb
      injection hb with hb
      intro hS
      have := hst b hS; have := hc.size; omega
  have hrest := h s' c' hnS
  have hfp : ∀ b, v.ownBlock = some b → ∃ A ∈ L, A.fp b := fun b hb => ⟨_, List.mem_of_getElem? hk, hb⟩
  unfold Oper.wp execOp
  simp only [ho, resolve, invoke, builtin, Sem.run_bind, Sem.run_pure, Result.andThen_ok, List.map_toArray, List.map_cons, List.map_nil, hs, hx, h2]
  refine hK _ _ ⟨_, ⟨?_, h3, Nat.le_trans hc.size h4.size, fun b y hb => ?_⟩, ⟨fun b hb1 hb2 hb3 => ?_, fun A hA b hb => ?_⟩, hrest⟩
  · intro b hb
    refine (h4.block b (Nat.lt_of_lt_of_le (hst b hb) hc.size) fun e => ?_).trans (hc.same b hb)
    exact hv b e.symm hb
  · obtain ⟨g1, g2, g3⟩ := hc.laid b y hb
    refine ⟨g1, (h4.block b g2.lt fun e => ?_).trans g2, fun A hA hf => ?_⟩
    · obtain ⟨A, hA, hf⟩ := hfp b e.symm
      exact g3 A hA hf
    · rcases mem_set_fp hA with rfl | hA
      · have hf' : (Value.slice s' (n + m) c').ownBlock = some b := hf
        rcases h5 with h5 | h5
        · rw [h5] at hf'
          obtain ⟨A, hA, hf⟩ := hfp b hf'
          exact g3 A hA hf
        · rw [h5] at hf'
          injection hf' with hf'
          have := g2.lt; omega
      · exact g3 A hA hf
  · refine h4.block b hb2 fun e => ?_
    obtain ⟨A, hA, hf⟩ := hfp b e.symm
    exact hb3 A hA hf
  · rcases mem_set_fp hA with rfl | hA
    · have hf' : (Value.slice s' (n + m) c').ownBlock = some b := hb
      rcases h5 with h5 | h5
      · rw [h5] at hf'
        exact .inl (hfp b hf')
      · rw [h5] at hf'
        injection hf' with hf'
        exact .inr (by omega)
    · exact .inl ⟨A, hA, hb⟩
/-- The source is a literal of the region's own. -/
theorem src_lit {b m c : Nat} {cs : Array Value} {t : TypeId} (hF : F b = some (cs, t)) {w : World} (hc : ClH St D W w0 F L w) : SrcOk w (some ⟨b, 0, none⟩) m c cs.toList := by
  refine .inr ⟨_, rfl, fun q y hq => ?_⟩
  have hb := (hc.laid b _ hF).2.1
  exact World.news_of_block hb q y hq
end
end Go.Proofs.Ytdhnpjgnnfgklaa

/- A region that draws its order, whose last operation looks at all the others: it stands at the end of every order. So what the others load may be stored to by it. -/
namespace Go.Proofs.Ytdhnpjgnnfgklaa
set_option linter.unusedSimpArgs false
set_option linter.unusedVariables false
open Go.RowKit

/-- The last operation's certificate names all the others. -/
def lastOk (n : Nat) (cert : Array Nat) : Bool := (List.range n).all fun i => (cert.getD n 0).testBit i

section
variable {P : Program} {ops : Array Oper} {σ : SW}

theorem text_sound_z {cert : Array Nat} (hc : certOk ops cert = true) (hsel : Region.noSelect ops = true) {Q' : Exit → Act → World → Prop} {n : Nat} (hn : ops.size = n + 1) (hlast : ∀ i, i < n → (cert.getD n 0).testBit i = true) :
    ∀ (fuel : Nat) (l : List Nat) (listed : Array Bool) (a : Act) (w : World), l.length + 1 ≤ fuel → (∀ i, i ∈ l ↔ i < n ∧ listed.getD i true = false) → listed.getD n true = false → l.Pairwise (· < ·) →
      Closed ops listed → listed.size = ops.size → σ.S w → wpT P ops σ (fun a w => wpOp P ops Q' n (fun a w => Q' .normal a w) a w) l a w → wpAny P .any ops Q' fuel listed a w := by
  intro fuel
  induction fuel with
  | zero => intro l listed a w hl; omega
  | succ fuel ih =>
    intro l listed a w hl hmem hln hpw hcl hsz hs h
    have hunl : ∀ i, i < n → i ∉ l → listed.getD i false = true := fun i hi hnl => by
      have h1 : ¬ listed.getD i true = false := fun hh => hnl ((hmem i).2 ⟨hi, hh⟩)
      have hi' : i < listed.size := by omega
      simp [hi'] at h1 ⊢
      exact h1
    refine ⟨fun hr => ?_, fun j hj => ?_⟩
    · exfalso
      cases l with
      | nil =>
        have hio : ops[n]? = some (ops[n]'(by omega)) := Array.getElem?_eq_getElem (by omega)
        have : n ∈ Region.ready .any ops listed := mem_ready.2 ⟨hln, _, hio, fun e he hb => by
          have hlt := (cert_at hc hio).1 e he hb
          exact hunl e.on hlt (by simp)⟩
        rw [hr] at this
        cases this
      | cons i l =>
        obtain ⟨hi, hi0⟩ := (hmem i).1 (by simp)
        have hio : ops[i]? = some (ops[i]'(by omega)) := Array.getElem?_eq_getElem (by omega)
        have : i ∈ Region.ready .any ops listed := mem_ready.2 ⟨hi0, _, hio, fun e he hb => by
          have hlt := (cert_at hc hio).1 e he hb
          refine hunl e.on (by omega) fun hin => ?_
          rcases List.mem_cons.1 hin with h | h
          · omega
          · have := (List.pairwise_cons.1 hpw).1 _ h; omega⟩
        rw [hr] at this
        cases this
    · obtain ⟨h0, oj, hoj, hall⟩ := mem_ready.1 hj
      have hjlt : j < ops.size := (Array.getElem?_eq_some_iff.1 hoj).1
      by_cases hjn : j = n
      · subst hjn
        have hnil : l = [] := List.eq_nil_iff_forall_not_mem.2 fun i hi => by
          obtain ⟨h1, h2⟩ := (hmem i).1 hi
          have h3 := cert_listed hc hcl j j oj (Nat.le_refl _) hoj hall i h1 (hlast i h1)
          have hi' : i < listed.size := by omega
          simp [hi'] at h2 h3
          rw [h2] at h3; cases h3
        subst hnil
        refine wpOp_mono (fun a' w' hh => ?_) h
        have hnone : Region.ready .any ops (listed.setIfInBounds j true) = [] := by
          refine List.eq_nil_iff_forall_not_mem.2 fun k hk => ?_
          obtain ⟨k0, ok, hok, _⟩ := mem_ready.1 hk
          have hklt : k < ops.size := (Array.getElem?_eq_some_iff.1 hok).1
          by_cases e : k = j
          · subst e
            simp [show k < listed.size by omega] at k0
          · rw [getD_set_ne true (Ne.symm e)] at k0
            have := (hmem k).2 ⟨by omega, k0⟩
            cases this
        cases fuel with
        | zero => exact ⟨hnone, hh⟩
        | succ f => exact ⟨fun _ => hh, fun k hk => by rw [hnone] at hk; cases hk⟩
      · obtain ⟨l1, l2, rfl⟩ := List.append_of_mem ((hmem j).2 ⟨by omega, h0⟩)
        have hpw' := List.pairwise_append.1 hpw
        have hsel' := Region.noSelect_spec hsel
        have hfront := front (P := P) (σ := σ) hoj hsel' l2 l1 (fun i hi => by
          have hij : i < j := hpw'.2.2 i hi j (by simp)
          have hio : ops[i]? = some (ops[i]'(by omega)) := Array.getElem?_eq_getElem (by omega)
          rcases (cert_at hc hoj).2 i hij with ⟨hb, _⟩ | ⟨_, h⟩
          · exfalso
            have h1 := cert_listed hc hcl j j oj (Nat.le_refl _) hoj hall i hij hb
            have h2 := ((hmem i).1 (by simp [hi])).2
            have hi' : i < listed.size := by omega
            simp [hi'] at h1 h2
            rw [h1] at h2; cases h2
          · exact ⟨_, hio, h _ hio⟩) a w h
        refine wpOp_mono (fun a' w' hh => ?_) (stepT_op hs hfront)
        refine ih (l1 ++ l2) _ a' w' (by simp at hl ⊢; omega) (fun i => ?_) (by rw [getD_set_ne true hjn]; exact hln) ?_ ?_ (by simpa using hsz) hh.1 hh.2
        · have hne : ∀ i, i ∈ l1 ++ l2 → i ≠ j := fun i hi e => by
            subst e
            rcases List.mem_append.1 hi with h | h
            · have := hpw'.2.2 i h i (by simp); omega
            · have := (List.pairwise_cons.1 hpw'.2.1).1 i h; omega
          constructor
          · intro hi
            obtain ⟨h1, h2⟩ := (hmem i).1 (by rcases List.mem_append.1 hi with h | h <;> simp [h])
            exact ⟨h1, by rw [getD_set_ne true (Ne.symm (hne i hi))]; exact h2⟩
          · rintro ⟨h1, h2⟩
            have hij : i ≠ j := fun e => by subst e; simp [show i < listed.size by omega] at h2
            rw [getD_set_ne true (Ne.symm hij)] at h2
            have := (hmem i).2 ⟨h1, h2⟩
            rcases List.mem_append.1 this with h | h
            · simp [h]
            · rcases List.mem_cons.1 h with h | h
              · exact absurd h hij
              · simp [h]
        · refine List.pairwise_append.2 ⟨hpw'.1, (List.pairwise_cons.1 hpw'.2.1).2, fun x hx y hy => hpw'.2.2 x hx y (by simp [hy])⟩
        · intro k o hk hlk e he hb
          by_cases hkj : k = j
          · subst hkj
            rw [hoj] at hk
            cases hk
            exact getD_set_true (hall e he hb)
          · rw [getD_set_ne false (Ne.symm hkj)] at hlk
            exact getD_set_true (hcl k o hk hlk e he hb)

theorem wp_region_z {id : Nat} {l body : List Oper} {o : Oper} {a : Act} {w : World} (hm : P.follows .mixedOrders = true) (hc : certOk l.toArray (Region.before l.toArray) = true) (hlast : lastOk (l.length - 1) (Region.before l.toArray) = true) (hsel : Region.noSelect l.toArray = true) (hok : l.toArray.all (okOp P) = true)
    (hb : l.dropLast = body) (ho : l.getLast? = some o) (S : World → Prop) (hS : S w.drew) {Q' : Exit → Act → World → Prop}
    (h : ∀ w0 (h0 : S w0), w0 = w.drew → wpX P l.toArray ⟨S, w0, h0⟩ (fun a w => wpList P l.toArray Q' [o] a w) body a w0) : (Code.region id l.toArray true).wp P Q' a w := by
  have hl : l = body ++ [o] := by
    rw [← hb]
    have hne : l ≠ [] := by rintro rfl; simp at ho
    have h1 := List.getLast?_eq_some_getLast hne
    rw [ho] at h1
    have h2 := List.dropLast_concat_getLast hne
    rw [← Option.some.inj h1] at h2
    exact h2.symm
  have hlen : l.length = body.length + 1 := by rw [hl]; simp
  have h2 := h w.drew hS rfl
  have hops : ∀ j, j < body.length → l.toArray[0 + j]? = body[j]? := fun j hj => by
    rw [Nat.zero_add, List.getElem?_toArray, hl, List.getElem?_append_left hj]
  have h3 := wpT_of_wpX (P := P) (ops := l.toArray) (σ := ⟨S, w.drew, hS⟩) hok body 0 hops a w.drew h2
  have hlo : l.toArray[body.length]? = some o := by rw [List.getElem?_toArray, hl]; simp
  refine wp_region_any hm (text_sound_z (σ := ⟨S, w.drew, hS⟩) (n := body.length) hc hsel (by simp [hlen]) (fun i hi => ?_) l.toArray.size (List.range' 0 body.length) _ a w.drew (by simp [hlen]) (fun i => ?_) (by simp [hlen]) ?_ ?_ (by simp) hS ?_)
  · have := List.all_eq_true.1 hlast i (List.mem_range.2 (by rw [hlen]; simpa using hi))
    rw [show l.length - 1 = body.length by omega] at this
    exact this
  · simp only [List.mem_range'_1, Nat.zero_le, Nat.zero_add, true_and]
    constructor
    · intro hi; exact ⟨hi, by have h9 : i < body.length + 1 := by omega
                              simp [hlen, h9]⟩
    · exact fun h => h.1
  · exact List.pairwise_lt_range'
  · intro k o _ hk
    exfalso
    rcases Nat.lt_or_ge k l.toArray.size with h | h
    · simp at h; simp [h] at hk
    · simp at h; simp [Nat.not_lt.2 h] at hk
  · have e : (fun a w => wpOp P l.toArray Q' body.length (fun a w => Q' .normal a w) a w) = fun a w => wpList P l.toArray Q' [o] a w := by
      funext a w
      unfold wpOp
      rw [hlo]
      rfl
    rw [e]
    exact h3
theorem wp_region_zH {D : Nat → Prop} {W : World} {L : List Item} {id : Nat} {l body : List Oper} {o : Oper} {a : Act} {w : World} (hm : P.follows .mixedOrders = true) (hc : certOk l.toArray (Region.before l.toArray) = true) (hlast : lastOk (l.length - 1) (Region.before l.toArray) = true) (hsel : Region.noSelect l.toArray = true) (hok : l.toArray.all (okOp P) = true)
    (hb : l.dropLast = body) (ho : l.getLast? = some o) (S : World → Prop) (H : HS D W L w) (hS : ∀ w0, HS D W L w0 → w0.heap.size = w.heap.size → S w0) {Q' : Exit → Act → World → Prop}
    (h : ∀ w0 (h0 : S w0), HS D W L w0 → w0.heap.size = w.heap.size → wpX P l.toArray ⟨S, w0, h0⟩ (fun a w => wpList P l.toArray Q' [o] a w) body a w0) : (Code.region id l.toArray true).wp P Q' a w :=
  wp_region_z hm hc hlast hsel hok hb ho S (hS _ H.drew rfl) fun w0 h0 hw0 => h w0 h0 (by rw [hw0]; exact H.drew) (by rw [hw0]; rfl)
end
end Go.Proofs.Ytdhnpjgnnfgklaa

/- Such a region, whose last operation looks at all the others (a store into what they load, mostly). -/
namespace Go.Proofs.Ytdhnpjgnnfgklaa
set_option linter.unusedSimpArgs false
set_option linter.unusedVariables false
open Go.RowKit

section
variable {P : Program} {ops : Array Oper} {St D : Nat → Prop} {W w0 : World}
end
end Go.Proofs.Ytdhnpjgnnfgklaa
