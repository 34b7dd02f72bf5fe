/- ref13.Put: a word put at its place. -/
import Derived.Test.YtplflpmkomeadaaDoorCeI
namespace Go.Proofs.YtplflpmkomeadaaDoor
set_option linter.unusedSimpArgs false
set_option linter.unusedVariables false
open Go.RowKit
set_option maxRecDepth 100000
attribute [local irreducible] wpX wpF Calls

theorem put_lt {l : List Wm} {w : Wm} (h : ∀ m ∈ l, m.ix < w.ix) : putW l w = l ++ (if blankW w = true then [] else [w]) := by
  unfold putW
  rw [List.filter_eq_self.2 (fun m hm => by simpa using h m hm), List.filter_eq_nil_iff.2 (fun m hm => by have := h m hm; simp; omega), List.append_nil]
theorem put_gt {l : List Wm} {x w : Wm} (h : w.ix < x.ix) : putW (l ++ [x]) w = putW l w ++ [x] := by
  unfold putW
  rw [List.filter_append, List.filter_append, List.filter_cons_of_neg (by simp; omega), List.filter_cons_of_pos (by simpa using h)]
  simp
theorem put_eq {l : List Wm} {x w : Wm} (h : x.ix = w.ix) : putW (l ++ [x]) w = putW l w := by
  unfold putW
  rw [List.filter_append, List.filter_append, List.filter_cons_of_neg (by simp; omega), List.filter_cons_of_neg (by simp; omega)]
  simp
theorem wm_take {ws : List Wm} {i : Nat} (h : i < ws.length) : ws.take (i + 1) = ws.take i ++ [ws[i]!] := by
  rw [List.take_succ_eq_append_getElem h, getElem!_pos ws i h]
/-- What the loop of Put has made of the first i words. -/
def PutI (ws : List Wm) (w : Wm) (i : Nat) (d : Bool) (out : List Wm) : Prop := (d = false ∧ i ≤ ws.length ∧ out = ws.take i ∧ ∀ m ∈ ws.take i, m.ix < w.ix) ∨ (d = true ∧ out = putW (ws.take i) w ∧ ((∃ r, r < i ∧ r < ws.length ∧ w.ix ≤ (ws[r]!).ix) ∨ ws.length < i))
section
variable {ws : List Wm} {w : Wm} {i : Nat} {out : List Wm}
theorem PutI.start : PutI ws w 0 false [] := .inl ⟨rfl, Nat.zero_le _, rfl, fun m hm => absurd hm List.not_mem_nil⟩
theorem PutI.no (h : PutI ws w i false out) : i ≤ ws.length ∧ out = ws.take i ∧ ∀ m ∈ ws.take i, m.ix < w.ix := by
  rcases h with ⟨-, h⟩ | ⟨h, -⟩
  · exact h
  · cases h
theorem PutI.yes (h : PutI ws w i true out) : out = putW (ws.take i) w ∧ ((∃ r, r < i ∧ r < ws.length ∧ w.ix ≤ (ws[r]!).ix) ∨ ws.length < i) := by
  rcases h with ⟨h, -⟩ | ⟨-, h⟩
  · cases h
  · exact h
theorem PutI.later (h : PutI ws w i true out) (hs : ws.Pairwise (fun x y => x.ix < y.ix)) {n : Nat} (hn : i < n) {x : Wm} (hx : ws[i]! = x) (hnl : n = ws.length := by simp) : w.ix < x.ix := by
  subst hnl
  rcases h.yes.2 with ⟨r, h1, h2, h3⟩ | h1
  · have := List.pairwise_iff_getElem.1 hs r i h2 hn h1
    rw [← getElem!_pos ws r h2, ← getElem!_pos ws i hn, hx] at this
    omega
  · omega
theorem PutI.goon (h : PutI ws w i true out) (hi : i < ws.length) {x : Wm} (hx : ws[i]! = x) (hg : w.ix < x.ix) : PutI ws w (i + 1) true (out ++ [x]) := by
  obtain ⟨h1, h2⟩ := h.yes
  refine .inr ⟨rfl, by rw [wm_take hi, hx, put_gt hg, h1], ?_⟩
  rcases h2 with ⟨r, a, b, c⟩ | h2
  · exact .inl ⟨r, by omega, b, c⟩
  · exact .inr (by omega)
theorem PutI.stay (h : PutI ws w i true out) (hi : ws.length ≤ i) : PutI ws w (i + 1) true out := by
  obtain ⟨h1, h2⟩ := h.yes
  refine .inr ⟨rfl, by rw [List.take_of_length_le (by omega)]; rwa [List.take_of_length_le hi] at h1, .inr (by omega)⟩
theorem PutI.below (h : PutI ws w i false out) {x : Wm} (hx : i < ws.length ∧ ws[i]! = x ∧ x.ix < w.ix) : PutI ws w (i + 1) false (out ++ [x]) := by
  obtain ⟨h1, h2, h3⟩ := h.no
  refine .inl ⟨rfl, by omega, by rw [wm_take hx.1, hx.2.1, h2], fun m hm => ?_⟩
  rw [wm_take hx.1, hx.2.1] at hm
  rcases List.mem_append.1 hm with h9 | h9
  · exact h3 m h9
  · cases List.mem_singleton.1 h9; exact hx.2.2
theorem PutI.putW (h : PutI ws w i false out) (hi : False ∨ ws.length ≤ i) (hb : blankW w = false) : PutI ws w (i + 1) true (out ++ [w]) := by
  obtain ⟨h1, h2, h3⟩ := h.no
  have hi := hi.resolve_left id
  rw [List.take_of_length_le hi] at h2 h3
  refine .inr ⟨rfl, by rw [List.take_of_length_le (by omega), put_lt h3, h2, if_neg (by rw [hb]; simp)], .inr (by omega)⟩
theorem PutI.putB (h : PutI ws w i false out) (hi : False ∨ ws.length ≤ i) (hb : blankW w = true) : PutI ws w (i + 1) true out := by
  obtain ⟨h1, h2, h3⟩ := h.no
  have hi := hi.resolve_left id
  rw [List.take_of_length_le hi] at h2 h3
  refine .inr ⟨rfl, by rw [List.take_of_length_le (by omega), put_lt h3, h2, if_pos hb, List.append_nil], .inr (by omega)⟩
theorem PutI.putWeq (h : PutI ws w i false out) {x : Wm} (hx : i < ws.length ∧ ws[i]! = x ∧ w.ix ≤ x.ix) (hb : blankW w = false) (he : x.ix = w.ix) : PutI ws w (i + 1) true (out ++ [w]) := by
  obtain ⟨h1, h2, h3⟩ := h.no
  refine .inr ⟨rfl, by rw [wm_take hx.1, hx.2.1, put_eq he, put_lt h3, h2, if_neg (by rw [hb]; simp)], .inl ⟨i, by omega, hx.1, by rw [hx.2.1]; exact hx.2.2⟩⟩
theorem PutI.putBeq (h : PutI ws w i false out) {x : Wm} (hx : i < ws.length ∧ ws[i]! = x ∧ w.ix ≤ x.ix) (hb : blankW w = true) (he : x.ix = w.ix) : PutI ws w (i + 1) true out := by
  obtain ⟨h1, h2, h3⟩ := h.no
  refine .inr ⟨rfl, by rw [wm_take hx.1, hx.2.1, put_eq he, put_lt h3, h2, if_pos hb, List.append_nil], .inl ⟨i, by omega, hx.1, by rw [hx.2.1]; exact hx.2.2⟩⟩
theorem PutI.putWgt (h : PutI ws w i false out) {x : Wm} (hx : i < ws.length ∧ ws[i]! = x ∧ w.ix ≤ x.ix) (hb : blankW w = false) (hg : w.ix < x.ix) : PutI ws w (i + 1) true (out ++ [w] ++ [x]) := by
  obtain ⟨h1, h2, h3⟩ := h.no
  refine .inr ⟨rfl, by rw [wm_take hx.1, hx.2.1, put_gt hg, put_lt h3, h2, if_neg (by rw [hb]; simp)], .inl ⟨i, by omega, hx.1, by rw [hx.2.1]; exact hx.2.2⟩⟩
theorem PutI.putBgt (h : PutI ws w i false out) {x : Wm} (hx : i < ws.length ∧ ws[i]! = x ∧ w.ix ≤ x.ix) (hb : blankW w = true) (hg : w.ix < x.ix) : PutI ws w (i + 1) true (out ++ [x]) := by
  obtain ⟨h1, h2, h3⟩ := h.no
  refine .inr ⟨rfl, by rw [wm_take hx.1, hx.2.1, put_gt hg, put_lt h3, h2, if_pos hb, List.append_nil], .inl ⟨i, by omega, hx.1, by rw [hx.2.1]; exact hx.2.2⟩⟩
theorem PutI.done {d : Bool} (h : PutI ws w i d out) (hi : ws.length < i) : out = Go.Proofs.YtplflpmkomeadaaDoor.putW ws w := by
  rcases h with ⟨-, h, -⟩ | ⟨-, h, -⟩
  · omega
  · rwa [List.take_of_length_le (by omega)] at h
end
/-- Memory m with other words. -/
def setWs (m : Mm) (ws : List Wm) : Mm := ⟨m.s0, m.s1, m.s2, m.s3, m.s4, m.s5, m.kd, m.dt, m.ck, m.fx, ws, m.fs⟩
end Go.Proofs.YtplflpmkomeadaaDoor
