/- Several texts in one: RlA, Kj, RlB, CeP, ApS, CeQ, InsG. -/
import Derived.Test.YtplflpmkomeadaaDoorK2
import Derived.Test.YtplflpmkomeadaaDoorK1
import Derived.Shelf.Spec.SlicesInsert
import Derived.Lib.AppendZerosOnto
/- Blobs: what they are, how they lie in memory; copies of slices of bytes, of words, of blobs. -/
namespace Go.Proofs.YtplflpmkomeadaaDoor
set_option linter.unusedSimpArgs false
set_option linter.unusedVariables false
open Go.RowKit
set_option maxRecDepth 100000
attribute [local go_sem] lt_more ne_more ne_more'
attribute [local irreducible] wpX wpF Calls

/-- A blob's cells: its number, its words' slice. -/
structure Bv where
  id : Int
  x : Sv
deriving Inhabited, DecidableEq
def bvC (q : Bv) : List Value := [.int .i64 q.id, .slice q.x.sa q.x.n q.x.c]
/-- A blob, in plain words. -/
structure Bm where
  id : Int
  ws : List (List Int)
deriving Inhabited, DecidableEq
def BlobAt (w : World) (q : Bv) (b : Bm) : Prop := q.id = b.id ∧ WordsAt w q.x b.ws
theorem BlobAt.up {w w' : World} {q : Bv} {b : Bm} (h : BlobAt w q b) (hb : Below w.heap.size w w') : BlobAt w' q b := ⟨h.1, h.2.up hb⟩
/-- A store lies in memory. -/
def StoreAt (w : World) (x : Sv) (l : List Bm) : Prop := ∃ qs : List Bv, qs.length = l.length ∧ x.n = qs.length ∧ CapOk x ∧ Lies w w.heap.size x.sa 2 qs.length (fun j => bvC qs[j]!) ∧ ∀ j, j < l.length → BlobAt w qs[j]! l[j]!
theorem StoreAt.up {w w' : World} {x : Sv} {l : List Bm} (h : StoreAt w x l) (hb : Below w.heap.size w w') : StoreAt w' x l := by
  obtain ⟨qs, h1, h2, h3, h4, h5⟩ := h
  exact ⟨qs, h1, h2, h3, h4.up hb, fun j hj => (h5 j hj).up hb⟩
theorem infoBy : (Tryd.prog.info? 5).map (fun i => (i.zero, i.size, i.bytes)) = some (some (.int .u8 0), 1, 1) := by kernel_rfl
theorem elemBy : Elem Tryd.prog 48 5 (.int .u8 0) 1 1 := Elem.mk' Tryd.underlying48 infoBy rfl (by decide)
theorem bC1_one (xs : List Int) : ∀ y ∈ xs.flatMap bC1, y.oneCell' = true := fun y hy => by
  obtain ⟨x, hx, h⟩ := List.mem_flatMap.1 hy
  simp only [bC1, List.mem_cons, List.mem_nil_iff, or_false] at h
  subst h; rfl
end Go.Proofs.YtplflpmkomeadaaDoor

/- A region that draws its order: a call that hands back things of its own. -/
namespace Go.Proofs.YtplflpmkomeadaaDoor
set_option linter.unusedSimpArgs false
set_option linter.unusedVariables false
open Go.RowKit

section
variable {P : Program} {ops : Array Oper} {St D : Nat → Prop} {W w0 : World} {F : Fl} {L R : List Item}
theorem ClH.joinH {w w' : World} (h : ClH St D W w0 F L w) (hst : ∀ k, St k → k < w0.heap.size) (K : HS NoD w R w') (h0 : ∀ A ∈ R, A.low = 0) : ClH St D W w0 F (L ++ R) w' ∧ KeepL L (L ++ R) w0 w w' := by
  have hb : Below w.heap.size w w' := K.done
  have hnew : ∀ A ∈ R, ∀ k, A.fp k → w.heap.size ≤ k := fun A hA k hk => (K.own A hA k hk).resolve_right id
  refine ⟨⟨fun k hk => (hb.block k (Nat.lt_of_lt_of_le (hst k hk) h.size)).trans (h.same k hk), h.hs.join K h0, Nat.le_trans h.size hb.size, fun b x hx => ⟨(h.laid b x hx).1, (h.laid b x hx).2.1.below hb, fun A hA hf => ?_⟩⟩, fun k _ hk _ => hb.block k hk, fun A hA k hk => ?_⟩
  · rcases List.mem_append.1 hA with hA | hA
    · exact (h.laid b x hx).2.2 A hA hf
    · have h1 := hnew A hA b hf
      have h2 := (h.laid b x hx).2.1.lt
      omega
  · rcases List.mem_append.1 hA with hA | hA
    · exact .inl ⟨A, hA, hk⟩
    · exact .inr (hnew A hA k hk)
theorem one_low {A : Item} (h : A.low = 0) : ∀ X ∈ [A], X.low = 0 := fun X hX => by cases List.mem_singleton.1 hX; exact h
end
end Go.Proofs.YtplflpmkomeadaaDoor

/- reload.owned, reload.Copy: copies that share nothing. -/
namespace Go.Proofs.YtplflpmkomeadaaDoor
set_option linter.unusedSimpArgs false
set_option linter.unusedVariables false
open Go.RowKit
set_option maxRecDepth 100000
attribute [local irreducible] wpX wpF Calls

theorem mid_set {α : Type} [Inhabited α] {vs ys : List α} {j : Nat} (hj : j < vs.length) (hy : ys.length = j) (x : α) : (ys ++ vs.drop j).set j x = ys ++ [x] ++ vs.drop (j + 1) := by
  subst hy
  rw [List.set_append_right _ _ (Nat.le_refl _), Nat.sub_self, List.drop_eq_getElem_cons hj, List.set_cons_zero]
  simp
theorem mid_get {α : Type} [Inhabited α] {vs ys : List α} {j : Nat} (hj : j < vs.length) (hy : ys.length = j) : (ys ++ vs.drop j)[j]! = vs[j]! := by
  subst hy
  rw [getElem!_pos (ys ++ vs.drop ys.length) ys.length (by rw [List.length_append, List.length_drop]; omega), getElem!_pos vs ys.length hj, List.getElem_append_right (Nat.le_refl _)]
  simp
section
variable {D : Nat → Prop} {W w : World} {L : List Item}
end
end Go.Proofs.YtplflpmkomeadaaDoor

/- Memories of chapter 13 in plain words: words, faults; a list of words is known by what is looked up in it. No program in sight. -/
namespace Go.Proofs.YtplflpmkomeadaaDoor
set_option linter.unusedSimpArgs false
set_option linter.unusedVariables false
open Go.RowKit

/-- A word, in plain words. -/
structure Wm where
  ix : Int
  bs : List Int
  po : Bool
deriving Inhabited, DecidableEq
/-- A fault, in plain words. -/
structure Fa where
  k : Int
  p0 : Int
  p1 : Int
  p2 : Int
  p3 : Int
  p4 : Int
  p5 : Int
  ch : Int
  ms : Int
  vl : Int
  hd : Bool
deriving Inhabited, DecidableEq
/-- A memory, in plain words. -/
structure Mm where
  s0 : Int
  s1 : Int
  s2 : Int
  s3 : Int
  s4 : Int
  s5 : Int
  kd : Int
  dt : Int
  ck : Int
  fx : Int
  ws : List Wm
  fs : List Fa
deriving Inhabited, DecidableEq
def zeroB (bs : List Int) : Bool := bs.all (fun b => b == 0)
def blankW (m : Wm) : Bool := !m.po && zeroB m.bs
theorem zeroB_rep {bs : List Int} (h : zeroB bs = true) : bs = List.replicate bs.length 0 := by
  refine List.eq_replicate_iff.2 ⟨rfl, fun b hb => ?_⟩
  have := List.all_eq_true.1 h b hb
  simpa using this
theorem rep_zeroB (n : Nat) : zeroB (List.replicate n 0) = true := List.all_eq_true.2 fun b hb => by
  rw [(List.mem_replicate.1 hb).2]; rfl
/-- Words of a valid memory. -/
structure GoodWs (size n : Nat) (ws : List Wm) : Prop where
  up : ws.Pairwise (fun x y => x.ix < y.ix)
  rng : ∀ m ∈ ws, 0 ≤ m.ix ∧ m.ix < size
  len : ∀ m ∈ ws, m.bs.length = n
  nb : ∀ m ∈ ws, blankW m = false
theorem GoodWs.nil {size n : Nat} : GoodWs size n [] where
  up := .nil
  rng := fun m h => absurd h List.not_mem_nil
  len := fun m h => absurd h List.not_mem_nil
  nb := fun m h => absurd h List.not_mem_nil
/-- The word at an index. -/
def lookW (n : Nat) (ws : List Wm) (i : Int) : Wm := (ws.find? (fun m => decide (m.ix = i))).getD ⟨i, List.replicate n 0, false⟩
theorem find_mem {ws : List Wm} (h : ws.Pairwise (fun x y => x.ix < y.ix)) {m : Wm} (hm : m ∈ ws) : ws.find? (fun x => decide (x.ix = m.ix)) = some m := by
  induction ws with
  | nil => cases hm
  | cons a l ih =>
    obtain ⟨h1, h2⟩ := List.pairwise_cons.1 h
    rcases List.mem_cons.1 hm with rfl | hm
    · rw [List.find?_cons_of_pos (by simp)]
    · have := h1 m hm
      rw [List.find?_cons_of_neg (by simp; omega)]
      exact ih h2 hm
theorem GoodWs.look_mem {size n : Nat} {ws : List Wm} (h : GoodWs size n ws) {m : Wm} (hm : m ∈ ws) : lookW n ws m.ix = m := by
  unfold lookW; rw [find_mem h.up hm]; rfl
theorem find_none {ws : List Wm} {i : Int} (h : ∀ m ∈ ws, m.ix ≠ i) : ws.find? (fun x => decide (x.ix = i)) = none := List.find?_eq_none.2 fun m hm => by simpa using h m hm
theorem look_no {n : Nat} {ws : List Wm} {i : Int} (h : ∀ m ∈ ws, m.ix ≠ i) : lookW n ws i = ⟨i, List.replicate n 0, false⟩ := by
  unfold lookW; rw [find_none h]; rfl
theorem look_or (n : Nat) (ws : List Wm) (i : Int) : (∃ m, m ∈ ws ∧ m.ix = i ∧ lookW n ws i = m) ∨ ((∀ m ∈ ws, m.ix ≠ i) ∧ lookW n ws i = ⟨i, List.replicate n 0, false⟩) := by
  by_cases h : ∃ m, m ∈ ws ∧ m.ix = i
  · left
    unfold lookW
    cases e : ws.find? (fun m => decide (m.ix = i)) with
    | none =>
      obtain ⟨m, hm, hi⟩ := h
      have := List.find?_eq_none.1 e m hm
      exact absurd hi (by simpa using this)
    | some m => exact ⟨m, List.mem_of_find?_eq_some e, by simpa using List.find?_some e, rfl⟩
  · right
    have h2 : ∀ m ∈ ws, m.ix ≠ i := fun m hm e => h ⟨m, hm, e⟩
    exact ⟨h2, look_no h2⟩
theorem look_ix (n : Nat) (ws : List Wm) (i : Int) : (lookW n ws i).ix = i := by
  rcases look_or n ws i with ⟨m, -, h, e⟩ | ⟨-, e⟩
  · rw [e]; exact h
  · rw [e]
theorem GoodWs.look_len {size n : Nat} {ws : List Wm} (h : GoodWs size n ws) (i : Int) : (lookW n ws i).bs.length = n := by
  rcases look_or n ws i with ⟨m, hm, -, e⟩ | ⟨-, e⟩
  · rw [e]; exact h.len m hm
  · rw [e]; exact List.length_replicate
theorem GoodWs.mem_iff {size n : Nat} {ws : List Wm} (h : GoodWs size n ws) (m : Wm) : m ∈ ws ↔ blankW m = false ∧ lookW n ws m.ix = m := by
  refine ⟨fun hm => ⟨h.nb m hm, h.look_mem hm⟩, fun ⟨hb, hl⟩ => ?_⟩
  rcases look_or n ws m.ix with ⟨x, hx, -, e⟩ | ⟨-, e⟩
  · rw [← hl, e]; exact hx
  · rw [hl] at e
    rw [e] at hb
    unfold blankW at hb
    rw [rep_zeroB] at hb
    cases hb
theorem words_ext {ws vs : List Wm} (h1 : ws.Pairwise (fun x y => x.ix < y.ix)) (h2 : vs.Pairwise (fun x y => x.ix < y.ix)) (h : ∀ m, m ∈ ws ↔ m ∈ vs) : ws = vs := by
  have n1 : ws.Nodup := h1.imp fun hx e => by rw [e] at hx; omega
  have n2 : vs.Nodup := h2.imp fun hx e => by rw [e] at hx; omega
  have hp : ws.Perm vs := (List.perm_ext_iff_of_nodup n1 n2).2 h
  exact hp.eq_of_pairwise (fun a b _ _ x y => absurd x (by omega)) h1 h2
/-- A list of words is known by what is looked up in it. -/
theorem GoodWs.ext {size n : Nat} {ws vs : List Wm} (h1 : GoodWs size n ws) (h2 : GoodWs size n vs) (h : ∀ i : Int, 0 ≤ i → i < size → lookW n ws i = lookW n vs i) : ws = vs := by
  refine words_ext h1.up h2.up fun m => ⟨fun hm => ?_, fun hm => ?_⟩
  · have hr := h1.rng m hm
    exact (h2.mem_iff m).2 ⟨h1.nb m hm, by rw [← h m.ix hr.1 hr.2]; exact h1.look_mem hm⟩
  · have hr := h2.rng m hm
    exact (h1.mem_iff m).2 ⟨h2.nb m hm, by rw [h m.ix hr.1 hr.2]; exact h2.look_mem hm⟩
/-- A word put at its place. -/
def putW (ws : List Wm) (w : Wm) : List Wm := ws.filter (fun m => decide (m.ix < w.ix)) ++ (if blankW w = true then [] else [w]) ++ ws.filter (fun m => decide (w.ix < m.ix))
theorem mem_putW {ws : List Wm} {w m : Wm} : m ∈ putW ws w ↔ (m ∈ ws ∧ m.ix ≠ w.ix) ∨ (m = w ∧ blankW w = false) := by
  unfold putW
  rw [List.mem_append, List.mem_append, List.mem_filter, List.mem_filter]
  by_cases hb : blankW w = true
  · rw [if_pos hb]
    simp only [decide_eq_true_eq, List.not_mem_nil, or_false, hb]
    constructor
    · rintro (⟨h1, h2⟩ | ⟨h1, h2⟩)
      · exact .inl ⟨h1, by omega⟩
      · exact .inl ⟨h1, by omega⟩
    · rintro (⟨h1, h2⟩ | ⟨-, h2⟩)
      · by_cases h : m.ix < w.ix
        · exact .inl ⟨h1, h⟩
        · exact .inr ⟨h1, by omega⟩
      · cases h2
  · rw [if_neg hb]
    have hb' : blankW w = false := by cases h : blankW w <;> simp_all
    simp only [decide_eq_true_eq, List.mem_singleton, hb', and_true]
    constructor
    · rintro ((⟨h1, h2⟩ | h1) | ⟨h1, h2⟩)
      · exact .inl ⟨h1, by omega⟩
      · exact .inr h1
      · exact .inl ⟨h1, by omega⟩
    · rintro (⟨h1, h2⟩ | h1)
      · by_cases h : m.ix < w.ix
        · exact .inl (.inl ⟨h1, h⟩)
        · exact .inr ⟨h1, by omega⟩
      · exact .inl (.inr h1)
theorem GoodWs.put {size n : Nat} {ws : List Wm} (h : GoodWs size n ws) {w : Wm} (hr : 0 ≤ w.ix ∧ w.ix < size) (hl : w.bs.length = n) : GoodWs size n (putW ws w) := by
  refine ⟨?_, fun m hm => ?_, fun m hm => ?_, fun m hm => ?_⟩
  · unfold putW
    have f1 : (ws.filter (fun m => decide (m.ix < w.ix))).Pairwise (fun x y => x.ix < y.ix) := h.up.sublist List.filter_sublist
    have f2 : (ws.filter (fun m => decide (w.ix < m.ix))).Pairwise (fun x y => x.ix < y.ix) := h.up.sublist List.filter_sublist
    refine List.pairwise_append.2 ⟨List.pairwise_append.2 ⟨f1, ?_, fun x hx y hy => ?_⟩, f2, fun x hx y hy => ?_⟩
    · split
      · exact .nil
      · exact List.pairwise_singleton _ _
    · have h1 := (List.mem_filter.1 hx).2
      simp only [decide_eq_true_eq] at h1
      split at hy
      · cases hy
      · cases List.mem_singleton.1 hy; exact h1
    · have h2 := (List.mem_filter.1 hy).2
      simp only [decide_eq_true_eq] at h2
      rcases List.mem_append.1 hx with hx | hx
      · have h1 := (List.mem_filter.1 hx).2
        simp only [decide_eq_true_eq] at h1
        omega
      · split at hx
        · cases hx
        · cases List.mem_singleton.1 hx; exact h2
  · rcases mem_putW.1 hm with ⟨h1, -⟩ | ⟨rfl, -⟩
    · exact h.rng m h1
    · exact hr
  · rcases mem_putW.1 hm with ⟨h1, -⟩ | ⟨rfl, -⟩
    · exact h.len m h1
    · exact hl
  · rcases mem_putW.1 hm with ⟨h1, -⟩ | ⟨rfl, h2⟩
    · exact h.nb m h1
    · exact h2
theorem GoodWs.look_put {size n : Nat} {ws : List Wm} (h : GoodWs size n ws) {w : Wm} (hr : 0 ≤ w.ix ∧ w.ix < size) (hl : w.bs.length = n) (i : Int) : lookW n (putW ws w) i = if i = w.ix then w else lookW n ws i := by
  have hp := h.put hr hl
  by_cases e : i = w.ix
  · rw [if_pos e]
    subst e
    cases hb : blankW w with
    | false => exact hp.look_mem (mem_putW.2 (.inr ⟨rfl, hb⟩))
    | true =>
      rw [look_no (fun m hm => by
        rcases mem_putW.1 hm with ⟨-, h2⟩ | ⟨-, h2⟩
        · exact h2
        · rw [hb] at h2; cases h2)]
      obtain ⟨ix, bs, po⟩ := w
      unfold blankW at hb
      simp only [Bool.and_eq_true, Bool.not_eq_true'] at hb
      obtain ⟨rfl, hz⟩ := hb
      have hz2 := zeroB_rep hz
      dsimp only at hl hz2
      rw [hl] at hz2
      rw [hz2]
  · rw [if_neg e]
    rcases look_or n ws i with ⟨m, hm, hi, e1⟩ | ⟨h1, e1⟩
    · rw [e1, ← hi]
      exact hp.look_mem (mem_putW.2 (.inl ⟨hm, by rw [hi]; exact e⟩))
    · rw [e1, look_no (fun m hm => by
        rcases mem_putW.1 hm with ⟨h2, -⟩ | ⟨rfl, -⟩
        · exact h1 m h2
        · exact fun e2 => e e2.symm)]
end Go.Proofs.YtplflpmkomeadaaDoor

/- 'append' of what lies anywhere, as a step of a region that draws (as PgE, for any seat). -/
namespace Go.Proofs.YtplflpmkomeadaaDoor
set_option linter.unusedSimpArgs false
set_option linter.unusedVariables false
open Go.RowKit
set_option maxRecDepth 100000
attribute [local irreducible] wpX wpF Calls

section
variable {P : Program} {D : Nat → Prop} {W w : World} {L : List Item}
/-- 'append' of what lies anywhere onto a slice of one's own, as one step of a region that draws. -/
theorem step_apX {ops : Array Oper} {o : Oper} {a : Act} {K : Act → World → Prop} {Q : Exit → Act → World → Prop} {E : Prop} (hgd : o.guard = none) (s x : Operand) (t : TypeId)
    (ho : o.op = .call { callee := .builtin .append, args := #[s, x], argTypes := #[t, t] }) {e : TypeId} {z : Value} {size bytes : Nat} (hE : Elem P t e z size bytes)
    (H : HS D W L w) (k : Nat) {v : Value} {n : Nat} {xs : List Value} (hk : L[k]? = some (.row v e size n xs)) (hs : a.eval s = v)
    {sa : Option Addr} {m c : Nat} {news : List Value} (hx : a.eval x = .slice sa m c) (hsrc : SrcOk w sa m c news) (hl : news.length = m * size) (h1 : ∀ y ∈ news, y.oneCell' = true) (h63 : n + m ≤ maxLen) (hbytes : (n + m) * bytes ≤ 140737488355328) {N : Nat} (hN : n + m = N)
    (h : ∀ s' c' w', HS D W (L.set k (.row (.slice s' N c') e size N (xs ++ news))) w' → w.grownBy w' v.ownBlock → K (a.put o.dst (.slice s' N c')) w') :
    if Region.wanted o (yielded ops a.tmps) = true then Oper.wp P o a w K Q else E := by
  subst hN
  have hw : Region.wanted o (yielded ops a.tmps) = true := by simp [Region.wanted, hgd]
  rw [if_pos hw]
  obtain ⟨v', w', h2, h3, h4, h5⟩ := run_append_src hE o.type H k hk hsrc hl h1 h63 hbytes
  have hlt : k < (L.set k (.row v' e size (n + m) (xs ++ news))).length := by rw [List.length_set]; exact (List.getElem?_eq_some_iff.1 hk).1
  have hrow : w'.ownsRow 0 e size v' (n + m) (xs ++ news) := h3.at k (A := .row v' e size (n + m) (xs ++ news)) (by rw [List.getElem?_set_self (by simpa using hlt)])
  obtain ⟨s', c', rfl⟩ := ownsRow_slice hrow
  unfold Oper.wp execOp
  simp only [ho, resolve, invoke, builtin, Sem.run_bind, Sem.run_pure, Result.andThen_ok, List.map_toArray, List.map_cons, List.map_nil, hs, hx, h2]
  exact h s' c' w' h3 h4
/-- The same at a plain region's list. -/
theorem wpList_apX {ops : Array Oper} {rest : List Oper} {o : Oper} {a : Act} {Q : Exit → Act → World → Prop} (hgd : o.guard = none) (s x : Operand) (t : TypeId)
    (ho : o.op = .call { callee := .builtin .append, args := #[s, x], argTypes := #[t, t] }) {e : TypeId} {z : Value} {size bytes : Nat} (hE : Elem P t e z size bytes)
    (H : HS D W L w) (k : Nat) {v : Value} {n : Nat} {xs : List Value} (hk : L[k]? = some (.row v e size n xs)) (hs : a.eval s = v)
    {sa : Option Addr} {m c : Nat} {news : List Value} (hx : a.eval x = .slice sa m c) (hsrc : SrcOk w sa m c news) (hl : news.length = m * size) (h1 : ∀ y ∈ news, y.oneCell' = true) (h63 : n + m ≤ maxLen) (hbytes : (n + m) * bytes ≤ 140737488355328) {N : Nat} (hN : n + m = N)
    (h : ∀ s' c' w', HS D W (L.set k (.row (.slice s' N c') e size N (xs ++ news))) w' → w.grownBy w' v.ownBlock → wpList P ops Q rest (a.put o.dst (.slice s' N c')) w') : wpList P ops Q (o :: rest) a w :=
  wpList_plain hgd fun K hK => by
    have := step_apX (ops := ops) (K := K) (Q := fun e a w => Q e a w) (E := True) hgd s x t ho hE H k hk hs hx hsrc hl h1 h63 hbytes hN fun s' c' w' h2 h3 => hK _ _ (h s' c' w' h2 h3)
    rwa [if_pos (by simp [Region.wanted, hgd])] at this
end
/-- What lies in memory, as append reads it. -/
theorem Lies.srcX {α : Type} [Inhabited α] {enc : α → List Value} {k : Nat} (hk : ∀ x, (enc x).length = k) (hpos : 0 < k) {w : World} {B c : Nat} {sa : Option Addr} {xs : List α} (hc : xs.length ≤ c) (hl : Lies w B sa k xs.length (fun j => enc xs[j]!)) (h0 : sa = none → c = 0) : SrcOk w sa xs.length c (xs.flatMap enc) := by
  cases sa with
  | none =>
    obtain rfl := h0 rfl
    have : xs.length = 0 := by omega
    exact .inl ⟨rfl, this, rfl⟩
  | some ad =>
    refine .inr ⟨ad, rfl, fun q y hq => ?_⟩
    have hq' : q < xs.length * k := by rw [← flat_len hk xs]; exact (List.getElem?_eq_some_iff.1 hq).1
    have hj : q / k < xs.length := Nat.div_lt_of_lt_mul (by rwa [Nat.mul_comm])
    obtain ⟨b, o, e, hb, hc2⟩ := hl.at hj
    injection e with e
    subst e
    have hr : q % k < (enc xs[q / k]!).length := by rw [hk]; exact Nat.mod_lt _ hpos
    have h1 : (enc xs[q / k]!)[q % k]? = some y := by
      have h2 := flat_get hk xs (q / k) (q % k) ((enc xs[q / k]!)[q % k]'hr) hj (List.getElem?_eq_getElem hr)
      rw [show q / k * k + q % k = q by rw [Nat.mul_comm]; exact Nat.div_add_mod q k, hq] at h2
      rw [List.getElem?_eq_getElem hr]; exact h2.symm
    have h3 := hc2 _ _ h1
    rw [Nat.add_assoc, show q / k * k + q % k = q by rw [Nat.mul_comm]; exact Nat.div_add_mod q k] at h3
    have hadd : (⟨b, o, none⟩ : Addr).add q = ⟨b, o + q, none⟩ := by unfold Addr.add; split <;> simp_all
    rw [hadd]
    exact h3
end Go.Proofs.YtplflpmkomeadaaDoor

/- Memories of chapter 13 in plain words: bits turned over in many words, bits stuck; the order does not matter. No program in sight. -/
namespace Go.Proofs.YtplflpmkomeadaaDoor
set_option linter.unusedSimpArgs false
set_option linter.unusedVariables false
open Go.RowKit

def ByteR (b : Int) : Prop := 0 ≤ b ∧ b < 256
def xorB (a b : Int) : Int := bits .xor .u8 a b
def stkB (a ms vl : Int) : Int := bits .or .u8 (bits .andNot .u8 a ms) vl
theorem wrap_byte (v : BitVec 8) : IntKind.u8.wrap (v.toNat : Int) = v.toNat := by
  have := v.isLt
  simp [IntKind.wrap, IntKind.bits, IntKind.signed]
  omega
theorem bits_u8 (op : BinOp) (a b : Int) : ByteR (bits op .u8 a b) := by
  unfold bits
  dsimp only
  have h : ∀ v : BitVec 8, ByteR (IntKind.u8.wrap (v.toNat : Int)) := fun v => by
    rw [wrap_byte]; have := v.isLt; exact ⟨by omega, by omega⟩
  exact h _
theorem ofInt_nat8 (v : BitVec 8) : BitVec.ofInt 8 (v.toNat : Int) = v := by
  apply BitVec.eq_of_toInt_eq
  rw [BitVec.toInt_ofInt]
  have := v.isLt
  rw [BitVec.toInt_eq_toNat_bmod]
/-- One byte of a word turned over. -/
def xorAt (ch ms : Int) (m : Wm) : Wm := ⟨m.ix, m.bs.set ch.toNat (xorB m.bs[ch.toNat]! ms), m.po⟩
def stkAt (ch ms vl : Int) (m : Wm) : Wm := ⟨m.ix, m.bs.set ch.toNat (stkB m.bs[ch.toNat]! ms vl), m.po⟩
theorem xorAt_len (ch ms : Int) (m : Wm) : (xorAt ch ms m).bs.length = m.bs.length := List.length_set
theorem stkAt_len (ch ms vl : Int) (m : Wm) : (stkAt ch ms vl m).bs.length = m.bs.length := List.length_set
/-- The words with a byte turned over in those of a list. -/
def flipL (n : Nat) (ch ms : Int) (L : List Nat) (ws : List Wm) : List Wm := L.foldl (fun ws (i : Nat) => putW ws (xorAt ch ms (lookW n ws (i : Int)))) ws
theorem flipL_snoc (n : Nat) (ch ms : Int) (L : List Nat) (i : Nat) (ws : List Wm) : flipL n ch ms (L ++ [i]) ws = putW (flipL n ch ms L ws) (xorAt ch ms (lookW n (flipL n ch ms L ws) i)) := by
  unfold flipL; rw [List.foldl_append]; rfl
theorem GoodWs.flip {size n : Nat} {ws : List Wm} (h : GoodWs size n ws) (ch ms : Int) : ∀ (L : List Nat), (∀ i ∈ L, i < size) → GoodWs size n (flipL n ch ms L ws) := by
  intro L
  induction L generalizing ws with
  | nil => intro _; exact h
  | cons a L ih =>
    intro hL
    refine ih (ws := putW ws (xorAt ch ms (lookW n ws a))) (h.put ?_ ?_) fun i hi => hL i (List.mem_cons_of_mem _ hi)
    · have : (xorAt ch ms (lookW n ws a)).ix = (a : Int) := look_ix n ws a
      rw [this]
      have := hL a List.mem_cons_self
      omega
    · rw [xorAt_len]; exact h.look_len _
theorem GoodWs.look_flip {size n : Nat} {ws : List Wm} (h : GoodWs size n ws) (ch ms : Int) : ∀ (L : List Nat), L.Nodup → (∀ i ∈ L, i < size) → ∀ j : Nat, lookW n (flipL n ch ms L ws) j = if j ∈ L then xorAt ch ms (lookW n ws j) else lookW n ws j := by
  intro L
  induction L generalizing ws with
  | nil => intro _ _ j; rw [if_neg List.not_mem_nil]; rfl
  | cons a L ih =>
    intro hn hL j
    obtain ⟨hn1, hn2⟩ := List.nodup_cons.1 hn
    have ha := hL a List.mem_cons_self
    have hix : (xorAt ch ms (lookW n ws a)).ix = (a : Int) := look_ix n ws a
    have hr : 0 ≤ (xorAt ch ms (lookW n ws a)).ix ∧ (xorAt ch ms (lookW n ws a)).ix < size := by rw [hix]; omega
    have hl : (xorAt ch ms (lookW n ws a)).bs.length = n := by rw [xorAt_len]; exact h.look_len _
    have h1 := ih (h.put hr hl) hn2 (fun i hi => hL i (List.mem_cons_of_mem _ hi)) j
    show lookW n (flipL n ch ms L (putW ws (xorAt ch ms (lookW n ws a)))) j = _
    rw [h1, h.look_put hr hl, hix]
    by_cases e : j = a
    · subst e
      rw [if_neg hn1, if_pos rfl, if_pos List.mem_cons_self]
    · rw [if_neg (show ¬ (j : Int) = a by omega)]
      by_cases hj : j ∈ L
      · rw [if_pos hj, if_pos (List.mem_cons_of_mem _ hj)]
      · rw [if_neg hj, if_neg (fun hm => by rcases List.mem_cons.1 hm with h | h; exact e h; exact hj h)]
/-- All bytes of the words are bytes. -/
def BytesW (ws : List Wm) : Prop := ∀ m ∈ ws, ∀ b ∈ m.bs, ByteR b
theorem BytesW.look {n : Nat} {ws : List Wm} (h : BytesW ws) (i : Int) : ∀ b ∈ (lookW n ws i).bs, ByteR b := by
  rcases look_or n ws i with ⟨m, hm, -, e⟩ | ⟨-, e⟩
  · rw [e]; exact h m hm
  · rw [e]
    intro b hb
    rw [(List.mem_replicate.1 hb).2]
    exact ⟨by decide, by decide⟩
theorem BytesW.put {ws : List Wm} (h : BytesW ws) {w : Wm} (hw : ∀ b ∈ w.bs, ByteR b) : BytesW (putW ws w) := fun m hm => by
  rcases mem_putW.1 hm with ⟨h1, -⟩ | ⟨rfl, -⟩
  · exact h m h1
  · exact hw
theorem xorAt_bytes {ch ms : Int} {m : Wm} (h : ∀ b ∈ m.bs, ByteR b) : ∀ b ∈ (xorAt ch ms m).bs, ByteR b := fun b hb => by
  rcases List.mem_or_eq_of_mem_set hb with h1 | h1
  · exact h b h1
  · rw [h1]; exact bits_u8 _ _ _
theorem BytesW.flip {n : Nat} (ch ms : Int) : ∀ (L : List Nat) {ws : List Wm}, BytesW ws → BytesW (flipL n ch ms L ws)
  | [], ws, h => h
  | a :: L, ws, h => BytesW.flip ch ms L (h.put (xorAt_bytes (h.look _)))
theorem bang_mem {bs : List Int} {i : Nat} (h : i < bs.length) : bs[i]! ∈ bs := by
  rw [getElem!_pos bs i h]; exact List.getElem_mem h
/-- Two words put at different places. -/
theorem put_comm {size n : Nat} {ws : List Wm} (h : GoodWs size n ws) {a b : Wm} (ha : 0 ≤ a.ix ∧ a.ix < size) (hla : a.bs.length = n) (hb : 0 ≤ b.ix ∧ b.ix < size) (hlb : b.bs.length = n) (hne : a.ix ≠ b.ix) : putW (putW ws a) b = putW (putW ws b) a := by
  have h1 := h.put ha hla
  have h2 := h.put hb hlb
  refine (h1.put hb hlb).ext (h2.put ha hla) fun i hi0 hi1 => ?_
  rw [h1.look_put hb hlb, h.look_put ha hla, h2.look_put ha hla, h.look_put hb hlb]
  by_cases e1 : i = a.ix
  · rw [if_pos e1, if_pos e1, if_neg (fun e => hne (e1.symm.trans e))]
  · rw [if_neg e1, if_neg e1]
end Go.Proofs.YtplflpmkomeadaaDoor

/- What slices.Insert needs at any kind of element: copy, cells stored one after the other. -/
namespace Go.Proofs.YtplflpmkomeadaaDoor
set_option linter.unusedSimpArgs false
set_option linter.unusedVariables false
open Go.RowKit
set_option maxRecDepth 100000

/-- 'copy' of elements of any size. -/
theorem run_copy_sized {P : Program} (w : World) (dT sT ty elem : TypeId) (k b o dLen dCap : Nat) (a : Addr) (sLen sCap : Nat) (cs : List Value)
    (hu : P.underlying dT = some (.slice elem)) {i : TypeInfo} (hi : P.info? elem = some i) (hs : i.size = k) (hn : cs.length = Nat.min sLen dLen * k)
    (hsrc : ∀ j v, cs[j]? = some v → w.cell? (a.add j) = some v) (hc : ∀ j, j < cs.length → (w.cell? ⟨b, o + j, none⟩).isSome = true) (hf : ∀ j, j < cs.length → w.frozen? ⟨b, o + j, none⟩ = false) (h1 : ∀ v ∈ cs, v.oneCell' = true) :
    (Builtin.copy_ #[dT, sT] ty #[.slice (some ⟨b, o, none⟩) dLen dCap, .slice (some a) sLen sCap]).run P w = .ok (goInt (Nat.min sLen dLen)) (w.setCells b o cs) := by
  have hl := run_loadCells_list (P := P) w a cs hsrc
  have hst := run_storeCells_cells (P := P) b o cs 0 w (by simpa using hc) (by simpa using hf) h1
  simp [Builtin.copy_, run_underlying hu, Builtin.lenOf, Builtin.firstCells, sizeOf, typeInfo, hi, hs, ← hn, hl, hst]
theorem Blk.setCells {b : Nat} {t : TypeId} : ∀ (vs : List Value) (o : Nat) {w : World} {cs : Array Value}, Blk w b cs t → o + vs.length ≤ cs.size → ∃ cs', Blk (w.setCells b o vs) b cs' t ∧ cs'.toList = cs.toList.take o ++ vs ++ cs.toList.drop (o + vs.length)
  | [], o, w, cs, h, _ => ⟨cs, h, by simp⟩
  | v :: r, o, w, cs, h, hl => by
    obtain ⟨cs', h1, h2⟩ := Blk.setCells r (o + 1) (h.set o v) (by simp at hl ⊢; omega)
    refine ⟨cs', h1, ?_⟩
    have ho : o < cs.toList.length := by simp at hl ⊢; omega
    rw [h2, Array.toList_setIfInBounds]
    have e1 : (cs.toList.set o v).take (o + 1) = cs.toList.take o ++ [v] := by
      rw [List.take_add_one, List.take_set_of_le (Nat.le_refl _), List.getElem?_set_self ho]; rfl
    have e2 : (cs.toList.set o v).drop (o + 1 + r.length) = cs.toList.drop (o + 1 + r.length) := by
      rw [List.drop_set_of_lt (by omega)]
    rw [e1, e2, List.length_cons, show o + 1 + r.length = o + (r.length + 1) by omega]
    simp
theorem below_cells {b : Nat} : ∀ (vs : List Value) (o : Nat) (w : World), (w.setCells b o vs).os = w.os ∧ (w.setCells b o vs).tape = w.tape ∧ (w.setCells b o vs).output = w.output ∧ (w.setCells b o vs).heap.size = w.heap.size ∧ ∀ k, k ≠ b → (w.setCells b o vs).heap[k]? = w.heap[k]?
  | [], _, _ => ⟨rfl, rfl, rfl, rfl, fun _ _ => rfl⟩
  | v :: r, o, w => by
    obtain ⟨h1, h2, h3, h4, h5⟩ := below_cells r (o + 1) (w.setCell ⟨b, o, none⟩ v)
    exact ⟨h1, h2, h3, h4.trans (by simp [World.setCell]), fun k hk => (h5 k hk).trans (Below.heap_setCell _ _ _ _ hk)⟩
/-- A slice of one's own has grown, in place or anew. -/
def GrewPost (v : Value) (e : TypeId) (k n : Nat) (ys : List Value) (w : World) (x : Ending) (w' : World) : Prop :=
  ∃ g cap, x = .returned (.slice (some ⟨g, 0, none⟩) n cap) ∧ w'.ownsRow 0 e k (.slice (some ⟨g, 0, none⟩) n cap) n ys ∧ w.grownBy w' v.ownBlock ∧ (v.ownBlock = some g ∨ g = w.heap.size)
theorem HS.grewAt {D : Nat → Prop} {W w w' : World} {L : List Item} (h : HS D W L w) (i : Nat) {v : Value} {e : TypeId} {s n n' g cap : Nat} {xs ys : List Value} (hi : L[i]? = some (.row v e s n xs)) (h2 : w'.ownsRow 0 e s (.slice (some ⟨g, 0, none⟩) n' cap) n' ys) (h3 : w.grownBy w' v.ownBlock) (h4 : v.ownBlock = some g ∨ g = w.heap.size) :
    HS D W (L.set i (.row (.slice (some ⟨g, 0, none⟩) n' cap) e s n' ys)) w' := grown_row h i hi h2 h3 h4

end Go.Proofs.YtplflpmkomeadaaDoor
