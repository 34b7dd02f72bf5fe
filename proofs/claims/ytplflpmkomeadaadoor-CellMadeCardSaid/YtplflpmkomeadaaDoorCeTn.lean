/- A call that turns some of the caller's own things, which lie last; words put at a place that is known. -/
import Derived.Test.YtplflpmkomeadaaDoorCeX
import Derived.Test.YtplflpmkomeadaaDoorCeD
namespace Go.Proofs.YtplflpmkomeadaaDoor
set_option linter.unusedSimpArgs false
set_option linter.unusedVariables false
open Go.RowKit
set_option maxRecDepth 100000

/-- Where some things are laid. -/
def FpOf (R : List Item) : Nat → Prop := fun k => ∃ A ∈ R, A.fp k
theorem HS.startEnd {D : Nat → Prop} {W w : World} {L R : List Item} (h : HS D W (L ++ R) w) (h0 : ∀ A ∈ R, A.low = 0) : HS (FpOf R) w R w :=
  ⟨rfl, rfl, rfl, Nat.le_refl _, fun _ _ _ => rfl, fun A hA => h.ok A (List.mem_append_right _ hA), fun A hA k hk => .inr ⟨A, hA, hk⟩, fun A hA => by rw [h0 A hA]; exact ⟨Nat.zero_le _, fun k hk => absurd hk (Nat.not_lt_zero _)⟩, (List.pairwise_append.1 h.dis).2.1⟩
theorem HS.turnEnd {D : Nat → Prop} {W w w' : World} {L R R' : List Item} (h : HS D W (L ++ R) w) (K : HS (FpOf R) w R' w') (h0 : ∀ A ∈ R', A.low = 0) : HS D W (L ++ R') w' := by
  have hd := List.pairwise_append.1 h.dis
  have hnot : ∀ A ∈ L, ∀ k, A.fp k → ¬ FpOf R k := fun A hA k hk ⟨B, hB, hkB⟩ => hd.2.2 A hA B hB k hk hkB
  have hown : ∀ k, FpOf R k → W.heap.size ≤ k ∨ D k := fun k ⟨B, hB, hkB⟩ => h.own B (List.mem_append_right _ hB) k hkB
  refine ⟨K.os.trans h.os, K.tape.trans h.tape, K.output.trans h.output, Nat.le_trans h.size K.size, fun k hk hn => (K.old k (Nat.lt_of_lt_of_le hk h.size) fun hf => ?_).trans (h.old k hk hn), fun A hA => ?_, fun A hA k hk => ?_, fun A hA => ?_, List.pairwise_append.2 ⟨hd.1, K.dis, fun A hA B hB k hk hkB => ?_⟩⟩
  · rcases hown k hf with h1 | h1
    · omega
    · exact hn h1
  · rcases List.mem_append.1 hA with hA | hA
    · have hl := h.low A (List.mem_append_left _ hA)
      have hok := h.ok A (List.mem_append_left _ hA)
      refine Item.keep hok (fun k hk => K.old k (Item.lt hok hk) (hnot A hA k hk)) fun k hk hlt => K.old k hlt fun hf => ?_
      rcases hown k hf with h1 | h1
      · omega
      · exact hl.2 k hk h1
    · exact K.ok A hA
  · rcases List.mem_append.1 hA with hA | hA
    · exact h.own A (List.mem_append_left _ hA) k hk
    · rcases K.own A hA k hk with h1 | h1
      · exact .inl (Nat.le_trans h.size h1)
      · exact hown k h1
  · rcases List.mem_append.1 hA with hA | hA
    · exact h.low A (List.mem_append_left _ hA)
    · rw [h0 A hA]; exact ⟨Nat.zero_le _, fun k hk => absurd hk (Nat.not_lt_zero _)⟩
  · rcases K.own B hB k hkB with h1 | h1
    · have := h.lts A (List.mem_append_left _ hA) k hk
      omega
    · exact hnot A hA k hk h1

theorem bang_take {ws : List Wm} {i : Nat} {m : Wm} (h : m ∈ ws.take i) : ∃ k, k < i ∧ k < ws.length ∧ ws[k]! = m := by
  obtain ⟨k, hk, e⟩ := List.getElem_of_mem h
  rw [List.length_take] at hk
  rw [List.getElem_take] at e
  exact ⟨k, by omega, by omega, by rw [getElem!_pos ws k (by omega)]; exact e⟩
theorem bang_drop {ws : List Wm} {i : Nat} {m : Wm} (h : m ∈ ws.drop i) : ∃ k, i ≤ k ∧ k < ws.length ∧ ws[k]! = m := by
  obtain ⟨k, hk, e⟩ := List.getElem_of_mem h
  rw [List.length_drop] at hk
  rw [List.getElem_drop] at e
  exact ⟨i + k, by omega, by omega, by rw [getElem!_pos ws (i + k) (by omega)]; exact e⟩
theorem filter_lt {ws : List Wm} {n : Int} {i : Nat} (hlo : ∀ k, k < i → k < ws.length → (ws[k]!).ix < n) (hhi : ∀ k, i ≤ k → k < ws.length → n ≤ (ws[k]!).ix) : ws.filter (fun x => decide (x.ix < n)) = ws.take i := by
  conv => lhs; rw [← List.take_append_drop i ws]
  rw [List.filter_append, List.filter_eq_self.2, List.filter_eq_nil_iff.2, List.append_nil]
  · intro x hx
    obtain ⟨k, h1, h2, rfl⟩ := bang_drop hx
    have := hhi k h1 h2
    rw [decide_eq_true_eq]; omega
  · intro x hx
    obtain ⟨k, h1, h2, rfl⟩ := bang_take hx
    have := hlo k h1 h2
    rw [decide_eq_true_eq]; omega
theorem filter_gt {ws : List Wm} {n : Int} {i : Nat} (hlo : ∀ k, k < i → k < ws.length → (ws[k]!).ix ≤ n) (hhi : ∀ k, i ≤ k → k < ws.length → n < (ws[k]!).ix) : ws.filter (fun x => decide (n < x.ix)) = ws.drop i := by
  conv => lhs; rw [← List.take_append_drop i ws]
  rw [List.filter_append, List.filter_eq_nil_iff.2, List.filter_eq_self.2, List.nil_append]
  · intro x hx
    obtain ⟨k, h1, h2, rfl⟩ := bang_drop hx
    have := hhi k h1 h2
    rw [decide_eq_true_eq]; omega
  · intro x hx
    obtain ⟨k, h1, h2, rfl⟩ := bang_take hx
    have := hlo k h1 h2
    rw [decide_eq_true_eq]; omega
theorem putW_found {ws : List Wm} {m : Wm} {i : Nat} (hi : i < ws.length) (hlo : ∀ k, k < i → (ws[k]!).ix < m.ix) (he : (ws[i]!).ix = m.ix) (hhi : ∀ k, i < k → k < ws.length → m.ix < (ws[k]!).ix) : putW ws m = ws.take i ++ (if blankW m = true then [] else [m]) ++ ws.drop (i + 1) := by
  unfold putW
  rw [filter_lt (i := i) (fun k hk _ => hlo k hk) (fun k hk hl => by
    rcases Nat.eq_or_lt_of_le hk with rfl | h
    · omega
    · exact Int.le_of_lt (hhi k h hl)), filter_gt (i := i + 1) (fun k hk _ => by
    rcases Nat.eq_or_lt_of_le (Nat.le_of_lt_succ hk) with rfl | h
    · omega
    · exact Int.le_of_lt (hlo k h)) (fun k hk hl => hhi k hk hl)]
theorem putW_none {ws : List Wm} {m : Wm} {i : Nat} (hlo : ∀ k, k < i → (ws[k]!).ix < m.ix) (hhi : ∀ k, i ≤ k → k < ws.length → m.ix < (ws[k]!).ix) : putW ws m = ws.take i ++ (if blankW m = true then [] else [m]) ++ ws.drop i := by
  unfold putW
  rw [filter_lt (i := i) (fun k hk _ => hlo k hk) (fun k hk hl => Int.le_of_lt (hhi k hk hl)), filter_gt (i := i) (fun k hk _ => Int.le_of_lt (hlo k hk)) (fun k hk hl => hhi k hk hl)]
/-- Words in their order, one of them put at its place. -/
theorem zs_found {qs : List (Wm × Sv)} {m : Wm} {i : Nat} (hi : i < qs.length) (hlo : ∀ k, k < i → (qs[k]!).1.ix < m.ix) (he : (qs[i]!).1.ix = m.ix) (hs : qs.Pairwise fun x y => x.1.ix < y.1.ix) : putW (qs.map Prod.fst) m = (qs.map Prod.fst).take i ++ (if blankW m = true then [] else [m]) ++ (qs.map Prod.fst).drop (i + 1) := by
  refine putW_found (by rw [List.length_map]; exact hi) (fun k hk => by rw [map_bang (by omega)]; exact hlo k hk) (by rw [map_bang hi]; exact he) fun k hk hl => ?_
  rw [List.length_map] at hl
  rw [map_bang hl]
  have := List.pairwise_iff_getElem.1 hs i k hi hl hk
  rw [← getElem!_pos qs i hi, ← getElem!_pos qs k hl] at this
  omega
theorem zs_none {qs : List (Wm × Sv)} {m : Wm} {i : Nat} (hi : i ≤ qs.length) (hlo : ∀ k, k < i → (qs[k]!).1.ix < m.ix) (hhi : ∀ k, i ≤ k → k < qs.length → m.ix ≤ (qs[k]!).1.ix) (hn : ¬ (i < qs.length ∧ (qs[i]!).1.ix = m.ix)) (hs : qs.Pairwise fun x y => x.1.ix < y.1.ix) : putW (qs.map Prod.fst) m = (qs.map Prod.fst).take i ++ (if blankW m = true then [] else [m]) ++ (qs.map Prod.fst).drop i := by
  refine putW_none (fun k hk => by rw [map_bang (by omega)]; exact hlo k hk) fun k hk hl => ?_
  rw [List.length_map] at hl
  rw [map_bang hl]
  rcases Nat.eq_or_lt_of_le hk with rfl | h
  · have := hhi _ (Nat.le_refl _) hl
    have : (qs[i]!).1.ix ≠ m.ix := fun e => hn ⟨hl, e⟩
    omega
  · have h1 := hhi i (Nat.le_refl _) (by omega)
    have := List.pairwise_iff_getElem.1 hs i k (by omega) hl h
    rw [← getElem!_pos qs i (by omega), ← getElem!_pos qs k hl] at this
    omega
theorem flatTakeN {α : Type} {enc : α → List Value} {k : Nat} (hk : ∀ x, (enc x).length = k) : ∀ (xs : List α) (i : Nat), (xs.flatMap enc).take (i * k) = (xs.take i).flatMap enc
  | [], i => by simp
  | x :: xs, 0 => by simp
  | x :: xs, i + 1 => by
    rw [List.flatMap_cons, List.take_succ_cons, List.flatMap_cons, Nat.succ_mul, Nat.add_comm, ← flatTakeN hk xs i]
    rw [List.take_append, hk, List.take_of_length_le (by rw [hk]; omega), Nat.add_sub_cancel_left]
theorem flatDropN {α : Type} {enc : α → List Value} {k : Nat} (hk : ∀ x, (enc x).length = k) : ∀ (xs : List α) (i : Nat), (xs.flatMap enc).drop (i * k) = (xs.drop i).flatMap enc
  | [], i => by simp
  | x :: xs, 0 => by simp
  | x :: xs, i + 1 => by
    rw [List.flatMap_cons, List.drop_succ_cons, Nat.succ_mul, Nat.add_comm, ← flatDropN hk xs i]
    rw [List.drop_append, hk, List.drop_eq_nil_of_le (by rw [hk]; omega), Nat.add_sub_cancel_left, List.nil_append]
theorem cw_put : ∀ (qs : List (Wm × Sv)) (j : Nat) (q : Wm × Sv), j < qs.length → ((((qs.flatMap cwC).set (j * 3) (.int .i64 q.1.ix)).set (j * 3 + 1) (.slice q.2.sa q.2.n q.2.c)).set (j * 3 + 2) (.bool q.1.po)) = (qs.set j q).flatMap cwC
  | p :: qs, 0, q, _ => rfl
  | p :: qs, j + 1, q, h => by
    have ih := cw_put qs j q (by simpa using h)
    rw [List.set_cons_succ, List.flatMap_cons, List.flatMap_cons, ← ih]
    have e : ∀ (m : Nat) (u : Value) (ys : List Value), (cwC p ++ ys).set ((j + 1) * 3 + m) u = cwC p ++ ys.set (j * 3 + m) u := fun m u ys => by
      rw [List.set_append, if_neg (by rw [cwC_len]; omega), cwC_len, show (j + 1) * 3 + m - 3 = j * 3 + m by omega]
    rw [show (j + 1) * 3 = (j + 1) * 3 + 0 from rfl, e, show (j + 1) * 3 + 0 + 1 = (j + 1) * 3 + 1 from rfl, e, show (j + 1) * 3 + 0 + 2 = (j + 1) * 3 + 2 from rfl, e]
    rfl
end Go.Proofs.YtplflpmkomeadaaDoor
