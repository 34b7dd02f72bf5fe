/- Small laws for the walk of CacheRuns: the searches of the loops. -/
import Derived.Test.YtfmcicmbehjdcaaLrRu
import Derived.Test.YtfmcicmbehjdcaaLrSl
namespace Go.Proofs.Ytfmcicmbehjdcaa
set_option linter.unusedSimpArgs false
set_option linter.unusedVariables false
open Go.RowKit

theorem mem_bang {α : Type} [Inhabited α] {l : List α} {i : Nat} (h : i < l.length) : l[i]! ∈ l := by
  rw [getElem!_pos l i h]; exact List.getElem_mem h
theorem split9 {qs : List (Lm × Sv)} {q : Nat} (h : q < qs.length) : qs.map Prod.fst = (qs.take q).map Prod.fst ++ (qs[q]!).1 :: (qs.drop (q + 1)).map Prod.fst := by
  have e : qs = qs.take q ++ qs[q]! :: qs.drop (q + 1) := by
    rw [getElem!_pos qs q h, List.getElem_cons_drop, List.take_append_drop]
  conv => lhs; rw [e]
  rw [List.map_append, List.map_cons]
theorem mem_map9 {qs : List (Lm × Sv)} {m : Lm} (h : m ∈ qs.map Prod.fst) : ∃ i, i < qs.length ∧ (qs[i]!).1 = m := by
  obtain ⟨q, hq, rfl⟩ := List.mem_map.1 h
  obtain ⟨i, hi, rfl⟩ := List.mem_iff_getElem.1 hq
  exact ⟨i, hi, by rw [getElem!_pos qs i hi]⟩
theorem mem_take9 {qs : List (Lm × Sv)} {m : Lm} {q : Nat} (hq : q ≤ qs.length) (h : m ∈ (qs.take q).map Prod.fst) : ∃ i, i < q ∧ (qs[i]!).1 = m := by
  obtain ⟨i, hi, e⟩ := mem_map9 h
  rw [List.length_take, Nat.min_eq_left hq] at hi
  refine ⟨i, hi, ?_⟩
  rw [← e, getElem!_pos (qs.take q) i (by rw [List.length_take]; omega), List.getElem_take, getElem!_pos qs i (by omega)]
/-- Where the last of the first i lines with the address lies. -/
def AtIs (qs : List (Lm × Sv)) (ad : Int) (i : Nat) (v : Int) : Prop := (v = -1 ∧ ∀ r, r < i → (qs[r]!).1.ad ≠ ad) ∨ ∃ q, q < i ∧ v = q ∧ (qs[q]!).1.ad = ad
theorem AtIs.next {qs : List (Lm × Sv)} {ad : Int} {i : Nat} {v : Int} (h : AtIs qs ad i v) (hn : (qs[i]!).1.ad ≠ ad) : AtIs qs ad (i + 1) v := by
  rcases h with ⟨h1, h2⟩ | ⟨q, h1, h2, h3⟩
  · refine .inl ⟨h1, fun r hr => ?_⟩
    by_cases e : r = i
    · rw [e]; exact hn
    · exact h2 r (by omega)
  · exact .inr ⟨q, by omega, h2, h3⟩
/-- How many of the first i lines lie in the set, and the first of them. -/
def OldIs (qs : List (Lm × Sv)) (S : Nat) (ad : Int) (i cnt : Nat) (ov : Int) : Prop := cnt = (((qs.take i).map Prod.fst).filter (fun m => decide (m.ad % (S : Int) = ad % (S : Int)))).length ∧ ((ov = -1 ∧ cnt = 0 ∧ ∀ r, r < i → (qs[r]!).1.ad % (S : Int) ≠ ad % (S : Int)) ∨ ∃ q, q < i ∧ ov = q ∧ (∀ r, r < q → (qs[r]!).1.ad % (S : Int) ≠ ad % (S : Int)) ∧ (qs[q]!).1.ad % (S : Int) = ad % (S : Int))
theorem OldIs.zero {qs : List (Lm × Sv)} {S : Nat} {ad : Int} : OldIs qs S ad 0 0 (-1) := ⟨rfl, .inl ⟨rfl, rfl, fun r hr => absurd hr (Nat.not_lt_zero _)⟩⟩
theorem take_succ9 {qs : List (Lm × Sv)} {i : Nat} (hi : i < qs.length) : (qs.take (i + 1)).map Prod.fst = (qs.take i).map Prod.fst ++ [(qs[i]!).1] := by
  rw [List.take_succ_eq_append_getElem hi, List.map_append, getElem!_pos qs i hi]; rfl
theorem OldIs.no {qs : List (Lm × Sv)} {S : Nat} {ad : Int} {i cnt : Nat} {ov : Int} (h : OldIs qs S ad i cnt ov) (hi : i < qs.length) (hn : (qs[i]!).1.ad % (S : Int) ≠ ad % (S : Int)) : OldIs qs S ad (i + 1) cnt ov := by
  obtain ⟨h1, h2⟩ := h
  refine ⟨?_, ?_⟩
  · rw [take_succ9 hi, List.filter_append, List.filter_cons_of_neg (by simpa using hn)]
    simpa using h1
  · rcases h2 with ⟨a, b, c⟩ | ⟨q, a, b, c, d⟩
    · refine .inl ⟨a, b, fun r hr => ?_⟩
      by_cases e : r = i
      · rw [e]; exact hn
      · exact c r (by omega)
    · exact .inr ⟨q, by omega, b, c, d⟩
theorem OldIs.first {qs : List (Lm × Sv)} {S : Nat} {ad : Int} {i cnt : Nat} (h : OldIs qs S ad i cnt (-1)) (hi : i < qs.length) (hn : (qs[i]!).1.ad % (S : Int) = ad % (S : Int)) : OldIs qs S ad (i + 1) (cnt + 1) i := by
  obtain ⟨h1, h2⟩ := h
  refine ⟨?_, ?_⟩
  · rw [take_succ9 hi, List.filter_append, List.filter_cons_of_pos (by simpa using hn)]
    simpa using h1
  · rcases h2 with ⟨a, b, c⟩ | ⟨q, a, b, c, d⟩
    · exact .inr ⟨i, Nat.lt_succ_self i, rfl, c, hn⟩
    · exact absurd b (by omega)
theorem OldIs.more {qs : List (Lm × Sv)} {S : Nat} {ad : Int} {i cnt : Nat} {ov : Int} (h : OldIs qs S ad i cnt ov) (hi : i < qs.length) (h0 : 0 ≤ ov) (hn : (qs[i]!).1.ad % (S : Int) = ad % (S : Int)) : OldIs qs S ad (i + 1) (cnt + 1) ov := by
  obtain ⟨h1, h2⟩ := h
  refine ⟨?_, ?_⟩
  · rw [take_succ9 hi, List.filter_append, List.filter_cons_of_pos (by simpa using hn)]
    simpa using h1
  · rcases h2 with ⟨a, b, c⟩ | ⟨q, a, b, c, d⟩
    · exact absurd a (by omega)
    · exact .inr ⟨q, by omega, b, c, d⟩
theorem OldIs.val {qs : List (Lm × Sv)} {S : Nat} {ad : Int} {i cnt : Nat} {ov : Int} (h : OldIs qs S ad i cnt ov) : ov = -1 ∨ 0 ≤ ov ∧ ov < i := by
  rcases h.2 with ⟨a, -, -⟩ | ⟨q, a, b, -, -⟩
  · exact .inl a
  · exact .inr (by omega)
theorem put_e9 {S W : Nat} {size : Int} {l : List Sm} {x : Lm} {o : List Sm × Lm × Bool × Int} (h : PutR S W size l x o) (hl : lineB size x = true) : o.2.2.2 = 0 := by
  rcases h with ⟨n1, rfl⟩ | ⟨-, s, r, -, -, -, rfl⟩ | ⟨-, -, s, r, -, -, -, rfl⟩
  · rw [hl] at n1; cases n1
  · rfl
  · rfl
theorem Runs.nn {S W : Nat} {size : Int} {l : List Sm} {ms : List Lm} (hG : GoodC S W size l) (hR : Runs S l ms) {m : Lm} (hm : m ∈ ms) : 0 ≤ m.ad := by
  obtain ⟨j, hj, hh, hl⟩ := hit_of hR hm
  have hc := hG.coord hj
  have e : rowG W l (j / W) (j % W) = l[j]! := by show l[j / W * W + j % W]! = _; rw [hc.2.2]
  have := (hG.sets (j / W) hc.1).line (j % W) hc.2.1 (by rw [e]; exact hh.1)
  rw [e, hl] at this
  exact (of_decide_eq_true this).2.2.2.1
theorem get_miss9 {S W : Nat} {size : Int} {l : List Sm} {ms : List Lm} (hG : GoodC S W size l) (hR : Runs S l ms) {a : Int} (hn : ∀ m ∈ ms, m.ad ≠ a) {o : List Sm × Lm × Bool} (ho : GetR S W l a o) : o = (l, zLm, false) := hG.get_one ho (.inl ⟨runs_miss hR hn, rfl⟩)
theorem drop_miss9 {S W : Nat} {size : Int} {l : List Sm} {ms : List Lm} (hG : GoodC S W size l) (hR : Runs S l ms) {a : Int} (hn : ∀ m ∈ ms, m.ad ≠ a) {o : List Sm × Lm × Bool} (ho : DropR S W l a o) : o = (l, zLm, false) := hG.drop_one ho (.inl ⟨runs_miss hR hn, rfl⟩)
theorem AtIs.miss {qs : List (Lm × Sv)} {ad : Int} (h : ∀ r, r < qs.length → (qs[r]!).1.ad ≠ ad) : ∀ m ∈ qs.map Prod.fst, m.ad ≠ ad := fun m hm => by
  obtain ⟨i, hi, rfl⟩ := mem_map9 hm
  exact h i hi
theorem linesOk_mid {w : World} {ys : List (Lm × Sv)} {q : Nat} (h : LinesOk w ys) : LinesOk w (ys.take q ++ ys.drop (q + 1)) := fun x hx => by
  rcases List.mem_append.1 hx with h1 | h1
  · exact h x (List.mem_of_mem_take h1)
  · exact h x (List.mem_of_mem_drop h1)
theorem linesOk_end {w : World} {ys : List (Lm × Sv)} (h : LinesOk w ys) {z : Lm × Sv} (hz : BytesAt w z.2 z.1.bs) : LinesOk w (ys ++ [z]) := fun x hx => by
  rcases List.mem_append.1 hx with h1 | h1
  · exact h x h1
  · cases List.mem_singleton.1 h1; exact hz
theorem mid_len9 {ys : List (Lm × Sv)} {q : Nat} (h : q < ys.length) : (ys.take q ++ ys.drop (q + 1)).length = ys.length - 1 := by
  rw [List.length_append, List.length_take, List.length_drop]; omega
end Go.Proofs.Ytfmcicmbehjdcaa
