/- Slices of one's own in the bundle: append, made slices, what a call hands back. -/
import Derived.Test.YtfmcicmbehjdcaaHeap
import Derived.Test.YtfmcicmbehjdcaaDice
import Derived.Deep.AppendLies
namespace Go.Proofs.Ytfmcicmbehjdcaa
set_option linter.unusedSimpArgs false
set_option linter.unusedVariables false
open Go.RowKit

/-- The slice type t has elements of type e, whose zero is z, of so many cells and bytes. -/
structure Elem (P : Program) (t e : TypeId) (z : Value) (size bytes : Nat) : Prop where
  ht : P.underlying t = some (.slice e)
  hi : ∃ i, P.info? e = some i ∧ i.zero = some z ∧ i.size = size ∧ i.bytes = bytes
  hzs : z.cells.size = size
  pos : 0 < size
theorem Elem.mk' {P : Program} {t e : TypeId} {z : Value} {size bytes : Nat} (ht : P.underlying t = some (.slice e)) (hi : (P.info? e).map (fun i => (i.zero, i.size, i.bytes)) = some (some z, size, bytes)) (hzs : z.cells.size = size) (pos : 0 < size) : Elem P t e z size bytes := by
  obtain ⟨i, h1, h2, h3, h4⟩ := info_parts hi
  exact ⟨ht, ⟨i, h1, h2, h3, h4⟩, hzs, pos⟩

section
variable {P : Program} {D : Nat → Prop} {W w : World} {L : List Item}
theorem ownsRow_zero {base : Nat} {e : TypeId} {s n : Nat} {v : Value} {xs : List Value} (h : w.ownsRow base e s v n xs) : w.ownsRow 0 e s v n xs := by
  obtain ⟨h1, h2⟩ := h
  refine ⟨h1, ?_⟩
  rcases h2 with h2 | ⟨g, cap, cur, hv, hg, r⟩
  · exact .inl h2
  · exact .inr ⟨g, cap, cur, hv, Nat.zero_le _, r⟩
theorem ownsRow_fp {base : Nat} {e : TypeId} {s n : Nat} {v : Value} {xs : List Value} (h : w.ownsRow base e s v n xs) {k : Nat} (hk : v.ownBlock = some k) : base ≤ k := by
  obtain ⟨h1, h2⟩ := h
  rcases h2 with ⟨h2, _⟩ | ⟨g, cap, cur, hv, hg, r⟩
  · rw [h2] at hk; cases hk
  · rw [hv] at hk
    obtain rfl : g = k := by simpa [Value.ownBlock] using hk
    exact hg
theorem HS.rowOut (h : HS NoD W L w) (k : Nat) {v : Value} {e : TypeId} {s n : Nat} {xs : List Value} (hk : L[k]? = some (.row v e s n xs)) : w.ownsRow W.heap.size e s v n xs := by
  have h1 : w.ownsRow 0 e s v n xs := h.at k hk
  have h2 := h.own _ (List.mem_of_getElem? hk)
  obtain ⟨h3, h4⟩ := h1
  refine ⟨h3, ?_⟩
  rcases h4 with h4 | ⟨g, cap, cur, hv, hg, r⟩
  · exact .inl h4
  · refine .inr ⟨g, cap, cur, hv, ?_, r⟩
    rcases h2 g (by show v.ownBlock = some g; rw [hv]; rfl) with h | h
    · exact h
    · exact h.elim
/-- A call that hands back a new slice. -/
theorem HS.getsRow {w' : World} (h : HS D W L w) (hb : Below w.heap.size w w') {v : Value} {e : TypeId} {s n : Nat} {xs : List Value} (hr : w'.ownsRow w.heap.size e s v n xs) : HS D W (L ++ [.row v e s n xs]) w' :=
  h.gets (A := .row v e s n xs) hb (ownsRow_zero hr) (fun k hk => ownsRow_fp hr hk) ⟨Nat.zero_le _, fun k hk => absurd hk (Nat.not_lt_zero _)⟩
/-- The nil slice is one's own. -/
theorem HS.nilRow (h : HS D W L w) (e : TypeId) (s : Nat) : HS D W (L ++ [.row (.slice none 0 0) e s 0 []]) w :=
  HS.add h h.lts h.size (A := .row (.slice none 0 0) e s 0 []) (World.ownsRow_nil w 0 e s) (fun k hk => by cases (show (none : Option Nat) = some k from hk)) ⟨Nat.zero_le _, fun k hk => absurd hk (Nat.not_lt_zero _)⟩

/-- The numbers that came in, as Roll wants them. -/
theorem HS.ints (h : HS NoD W L w) {sa : Option Addr} {len : Nat} (hI : Ints W sa len) : ∀ j, j < len → ∃ a n, sa = some a ∧ a.block < W.heap.size ∧ w.cell? (a.add j) = some (.int .i64 n) := fun j hj => by
  obtain ⟨a, n, e, hc⟩ := hI j hj
  have hlt := World.block_lt_of_cell? (w := W) (a := a.add j) hc
  refine ⟨a, n, e, by rwa [block_add] at hlt, (h.was hlt id).trans hc⟩
theorem HS.getsDice {w' : World} (h : HS NoD W L w) {B b : Nat} (hb : Below w.heap.size w w') (hd : Dice B w' b) (hbb : w.heap.size ≤ b) (hB : B ≤ W.heap.size) : HS NoD W (L ++ [.dice B b]) w' :=
  h.gets (A := .dice B b) hb hd (fun k hk => by rw [show k = b from hk]; exact hbb) ⟨hB, fun k _ e => e⟩
theorem grown_row {w' : World} (h : HS D W L w) (k : Nat) {v : Value} {e : TypeId} {size n n' : Nat} {xs ys : List Value} (hk : L[k]? = some (.row v e size n xs)) {g cap : Nat} (h2 : w'.ownsRow 0 e size (.slice (some ⟨g, 0, none⟩) n' cap) n' ys) (h3 : w.grownBy w' v.ownBlock) (h4 : v.ownBlock = some g ∨ g = w.heap.size) :
    HS D W (L.set k (.row (.slice (some ⟨g, 0, none⟩) n' cap) e size n' ys)) w' :=
  h.grownAt k hk h3 (.inr ⟨h2, fun b hb => by
    obtain rfl : g = b := by simpa [Value.ownBlock] using hb
    rcases h4 with h4 | h4
    · exact .inl h4
    · exact .inr (by omega)⟩)

/-- 'append' onto a slice of one's own, at a plain region's list. -/
theorem wpList_append_H {ops : Array Oper} {rest : List Oper} {o : Oper} {a : Act} {Q : Exit → Act → World → Prop} (hgd : o.guard = none) (s x : Operand) (t : TypeId)
    (ho : o.op = .call { callee := .builtin .append, args := #[s, x], argTypes := #[t, t] }) {e : TypeId} {z : Value} {size bytes : Nat} (hE : Elem P t e z size bytes)
    (H : HS D W L w) (k : Nat) {v : Value} {n : Nat} {xs : List Value} (hk : L[k]? = some (.row v e size n xs)) (hs : a.eval s = v)
    {b : Nat} {cs : Array Value} {tt : TypeId} {m c : Nat} (j : Nat) (hj : L[j]? = some (.blk b cs tt)) (hx : a.eval x = .slice (some ⟨b, 0, none⟩) m c) (hl : cs.size = m * size) (h1 : cs.toList.all (·.oneCell') = true)
    (hm : 0 < m) (h63 : n + m ≤ maxLen) (hbytes : (n + m) * bytes ≤ 140737488355328)
    (h : ∀ g cap w', HS D W (L.set k (.row (.slice (some ⟨g, 0, none⟩) (n + m) cap) e size (n + m) (xs ++ cs.toList))) w' → wpList P ops Q rest (a.put o.dst (.slice (some ⟨g, 0, none⟩) (n + m) cap)) w') : wpList P ops Q (o :: rest) a w := by
  obtain ⟨i, i1, i2, i3, i4⟩ := hE.hi
  have hb : w.heap[b]? = some (.cells cs tt (0, 0)) := H.at j hj
  exact wpList_append_lies w hgd s x t ho 0 e i z size bytes hE.ht i1 i2 i3 i4 hE.hzs hE.pos v n xs hs (H.at k hk) ⟨b, 0, none⟩ m c cs.toList hx (by simpa using hl) (World.news_of_block hb) (fun u hu => List.all_eq_true.1 h1 u hu) hm h63 hbytes (Nat.zero_le _) w.heap.size rfl
    fun g cap w' h2 h3 h4 h5 => h g cap w' (grown_row H k hk h2 h3 h4)
end
end Go.Proofs.Ytfmcicmbehjdcaa
