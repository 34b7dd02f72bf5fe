/- Such a region: appending. -/
import Derived.Test.YtfmcicmbehjdcaaGen
import Derived.Laws.PanicsMore
namespace Go.Proofs.Ytfmcicmbehjdcaa
set_option linter.unusedSimpArgs false
set_option linter.unusedVariables false
open Go.RowKit

section
variable {P : Program} {ops : Array Oper} {St D : Nat → Prop} {W w0 : World} {Q : Act → Fl → List Item → Prop} {o : Oper} {rest : List Oper} {a : Act} {F : Fl} {L : List Item}
theorem ClH.belowH {w w' : World} (h : ClH St D W w0 F L w) (hst : ∀ k, St k → k < w0.heap.size) (hb : Below w.heap.size w w') : ClH St D W w0 F L w' ∧ KeepL L L w0 w w' :=
  ⟨⟨fun k hk => (hb.block k (Nat.lt_of_lt_of_le (hst k hk) h.size)).trans (h.same k hk), h.hs.below hb, Nat.le_trans h.size hb.size, fun b x hx => ⟨(h.laid b x hx).1, (h.laid b x hx).2.1.below hb, (h.laid b x hx).2.2⟩⟩, fun k _ hk _ => hb.block k hk, fun A hA k hf => .inl ⟨A, hA, hf⟩⟩
/-- The cells of a slice's elements, in a world. -/
def SrcOk (w : World) (sa : Option Addr) (m c : Nat) (news : List Value) : Prop := (sa = none ∧ m = 0 ∧ c = 0) ∨ ∃ ad, sa = some ad ∧ ∀ q y, news[q]? = some y → w.cell? (ad.add q) = some y
theorem run_append_src {t e : TypeId} {z : Value} {size bytes : Nat} (hE : Elem P t e z size bytes) (ty : TypeId) {w : World} (H : HS D W L w) (k : Nat) {v : Value} {n : Nat} {xs : List Value} (hk : L[k]? = some (.row v e size n xs))
    {sa : Option Addr} {m c : Nat} {news : List Value} (hs : SrcOk w sa m c news) (hl : news.length = m * size) (h1 : ∀ y ∈ news, y.oneCell' = true) (h63 : n + m ≤ maxLen) (hbytes : (n + m) * bytes ≤ 140737488355328) :
    ∃ v' w', (Builtin.append_ #[t, t] ty #[v, .slice sa m c]).run P w = .ok v' w' ∧ HS D W (L.set k (.row v' e size (n + m) (xs ++ news))) w' ∧ w.grownBy w' v.ownBlock ∧ (v'.ownBlock = v.ownBlock ∨ v'.ownBlock = some w.heap.size) := by
  obtain ⟨i, i1, i2, i3, i4⟩ := hE.hi
  rcases hs with ⟨rfl, rfl, rfl⟩ | ⟨ad, rfl, hnews⟩
  · have hys : news = [] := List.eq_nil_of_length_eq_zero (by simpa using hl)
    subst hys
    refine ⟨v, w, run_append_owned_none w 0 t ty e i size hE.ht i1 v n xs (H.at k hk), ?_, ⟨rfl, rfl, rfl, Nat.le_refl _, fun _ _ _ => rfl⟩, .inl rfl⟩
    have e1 : L.set k (.row v e size (n + 0) (xs ++ [])) = L := by
      rw [Nat.add_zero, List.append_nil]
      obtain ⟨hlt, he⟩ := List.getElem?_eq_some_iff.1 hk
      rw [← he, List.set_getElem_self]
    rw [e1]
    exact H
  · obtain ⟨v', w', h2, h3, h4, -, h5⟩ := run_append_own_at (P := P) w 0 t ty e i z size bytes hE.ht i1 i2 i3 i4 hE.hzs hE.pos v n xs (H.at k hk) ad m c news hl hnews h1 h63 hbytes (Nat.zero_le _)
    refine ⟨v', w', h2, H.grownAt k hk h4 (.inr ⟨h3, fun b hb => ?_⟩), h4, h5⟩
    rcases h5 with h5 | h5
    · exact .inl (by rw [← h5]; exact hb)
    · rw [h5] at hb
      exact .inr (by injection hb with hb; omega)
theorem mem_set_fp {L : List Item} {k : Nat} {X A : Item} (h : A ∈ L.set k X) : A = X ∨ A ∈ L := by
  rcases List.mem_or_eq_of_mem_set h with h | h
  · exact .inr h
  · exact .inl h
/-- 'append' onto a row of the list. -/
theorem wpH_append (hw : Region.wanted o (yielded ops a.tmps) = true) (s x : Operand) (t : TypeId)
    (ho : o.op = .call { callee := .builtin .append, args := #[s, x], argTypes := #[t, t] }) {e : TypeId} {z : Value} {size bytes : Nat} (hE : Elem P t e z size bytes)
    (k : Nat) {v : Value} {n : Nat} {xs : List Value} (hk : L[k]? = some (.row v e size n xs)) (hs : a.eval s = v) (hv : ∀ b, v.ownBlock = some b → ¬ St b) (hst : ∀ b, St b → b < w0.heap.size)
    {sa : Option Addr} {m c : Nat} {news : List Value} (hx : a.eval x = .slice sa m c) (hsrc : ∀ w, ClH St D W w0 F L w → SrcOk w sa m c news) (hl : news.length = m * size) (h1 : ∀ y ∈ news, y.oneCell' = true) (h63 : n + m ≤ maxLen) (hbytes : (n + m) * bytes ≤ 140737488355328) {N : Nat} (hN : n + m = N)
    (h : ∀ s' c', (∀ b, (Value.slice s' N c').ownBlock = some b → ¬ St b) → wpH P St D W w0 ops Q rest (a.put o.dst (.slice s' N c')) F (L.set k (.row (.slice s' N c') e size N (xs ++ news)))) : wpH P St D W w0 ops Q (o :: rest) a F L := by
  subst hN
  refine wpH_call hw (by rw [ho]; rfl) fun w hc K hK => ?_
  obtain ⟨v', w', h2, h3, h4, h5⟩ := run_append_src hE o.type hc.hs k hk (hsrc w hc) hl h1 h63 hbytes
  have hlt : k < (L.set k (.row v' e size (n + m) (xs ++ news))).length := by rw [List.length_set]; exact (List.getElem?_eq_some_iff.1 hk).1
  have hrow : w'.ownsRow 0 e size v' (n + m) (xs ++ news) := h3.at k (A := .row v' e size (n + m) (xs ++ news)) (by rw [List.getElem?_set_self (by simpa using hlt)])
  obtain ⟨s', c', rfl⟩ := ownsRow_slice hrow
  have hnS : ∀ b, (Value.slice s' (n + m) c').ownBlock = some b → ¬ St b := fun b hb => by
    rcases h5 with h5 | h5
    · exact hv b (by rw [← h5]; exact hb)
    · rw [h5] at hb
      injection hb with hb
      intro hS
      have := hst b hS; have := hc.size; omega
  have hrest := h s' c' hnS
  have hfp : ∀ b, v.ownBlock = some b → ∃ A ∈ L, A.fp b := fun b hb => ⟨_, List.mem_of_getElem? hk, hb⟩
  unfold Oper.wp execOp
  simp only [ho, resolve, invoke, builtin, Sem.run_bind, Sem.run_pure, Result.andThen_ok, List.map_toArray, List.map_cons, List.map_nil, hs, hx, h2]
  refine hK _ _ ⟨_, ⟨?_, h3, Nat.le_trans hc.size h4.size, fun b y hb => ?_⟩, ⟨fun b hb1 hb2 hb3 => ?_, fun A hA b hb => ?_⟩, hrest⟩
  · intro b hb
    refine (h4.block b (Nat.lt_of_lt_of_le (hst b hb) hc.size) fun e => ?_).trans (hc.same b hb)
    exact hv b e.symm hb
  · obtain ⟨g1, g2, g3⟩ := hc.laid b y hb
    refine ⟨g1, (h4.block b g2.lt fun e => ?_).trans g2, fun A hA hf => ?_⟩
    · obtain ⟨A, hA, hf⟩ := hfp b e.symm
      exact g3 A hA hf
    · rcases mem_set_fp hA with rfl | hA
      · have hf' : (Value.slice s' (n + m) c').ownBlock = some b := hf
        rcases h5 with h5 | h5
        · rw [h5] at hf'
          obtain ⟨A, hA, hf⟩ := hfp b hf'
          exact g3 A hA hf
        · rw [h5] at hf'
          injection hf' with hf'
          have := g2.lt; omega
      · exact g3 A hA hf
  · refine h4.block b hb2 fun e => ?_
    obtain ⟨A, hA, hf⟩ := hfp b e.symm
    exact hb3 A hA hf
  · rcases mem_set_fp hA with rfl | hA
    · have hf' : (Value.slice s' (n + m) c').ownBlock = some b := hb
      rcases h5 with h5 | h5
      · rw [h5] at hf'
        exact .inl (hfp b hf')
      · rw [h5] at hf'
        injection hf' with hf'
        exact .inr (by omega)
    · exact .inl ⟨A, hA, hb⟩
/-- The source is a literal of the region's own. -/
theorem src_lit {b m c : Nat} {cs : Array Value} {t : TypeId} (hF : F b = some (cs, t)) {w : World} (hc : ClH St D W w0 F L w) : SrcOk w (some ⟨b, 0, none⟩) m c cs.toList := by
  refine .inr ⟨_, rfl, fun q y hq => ?_⟩
  have hb := (hc.laid b _ hF).2.1
  exact World.news_of_block hb q y hq
/-- The source is a part of a row. -/
theorem src_part {w : World} {e : TypeId} {size n c : Nat} {sa : Option Addr} {ys : List Value} (h : w.ownsRow 0 e size (.slice sa n c) n ys) {i j : Nat} (hij : i ≤ j) (hj : j ≤ n) :
    SrcOk w (if c = i then sa else sa.map (·.add (i * size))) (j - i) (c - i) ((ys.drop (i * size)).take ((j - i) * size)) ∧ ((ys.drop (i * size)).take ((j - i) * size)).length = (j - i) * size := by
  have hlen : ((ys.drop (i * size)).take ((j - i) * size)).length = (j - i) * size := by
    rw [List.length_take, List.length_drop, h.1]
    have : (j - i) * size + i * size ≤ n * size := by rw [← Nat.add_mul]; exact Nat.mul_le_mul_right _ (by omega)
    omega
  refine ⟨?_, hlen⟩
  rcases h.2 with ⟨h2, h3⟩ | ⟨g, cap, cur, hv, hg, hh, hnc, r⟩
  · injection h2 with h4 h5 h6
    subst h4 h6
    refine .inl ⟨by simp, by omega, by omega⟩
  · injection hv with h4 h5 h6
    subst h4 h6
    by_cases hci : c = i
    · refine .inr ⟨⟨g, 0, none⟩, by rw [if_pos hci], fun q y hq => ?_⟩
      have : q < ((ys.drop (i * size)).take ((j - i) * size)).length := (List.getElem?_eq_some_iff.1 hq).1
      rw [hlen, show j - i = 0 by omega, Nat.zero_mul] at this
      omega
    · refine .inr ⟨(⟨g, 0, none⟩ : Addr).add (i * size), by rw [if_neg hci]; rfl, fun q y hq => ?_⟩
      have hq' : q < (j - i) * size := by have := (List.getElem?_eq_some_iff.1 hq).1; rwa [hlen] at this
      have hlt : i * size + q < n * size := by
        have : (j - i) * size + i * size ≤ n * size := by rw [← Nat.add_mul]; exact Nat.mul_le_mul_right _ (by omega)
        omega
      have hcell := World.ownsRow.cellAt h (i * size + q) hlt
      rw [List.getElem?_take_of_lt hq', List.getElem?_drop] at hq
      rw [hq] at hcell
      rw [Addr.add_add]
      by_cases e0 : i * size + q = 0
      · rw [e0] at hcell ⊢; simpa [Addr.add] using hcell
      · have e1 : ¬ (i * size = 0 ∧ q = 0) := by omega
        simpa [Addr.add, e1] using hcell
/-- The source is the beginning of a row. -/
theorem src_pre {w : World} {e : TypeId} {size n c : Nat} {sa : Option Addr} {ys : List Value} (h : w.ownsRow 0 e size (.slice sa n c) n ys) {i : Nat} (hi : i ≤ n) : SrcOk w sa i c (ys.take (i * size)) ∧ (ys.take (i * size)).length = i * size := by
  have h1 := src_part h (Nat.zero_le i) hi
  have e1 : (if c = 0 then sa else sa.map (·.add (0 * size))) = sa := by
    split
    · rfl
    · cases sa
      · rfl
      · simp [Addr.add]
  rw [e1] at h1
  simpa using h1
end
end Go.Proofs.Ytfmcicmbehjdcaa
