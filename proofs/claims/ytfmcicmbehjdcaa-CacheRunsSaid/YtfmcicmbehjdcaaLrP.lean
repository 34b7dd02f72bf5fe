/- Plain laws of a line put in. -/
import Derived.Test.YtfmcicmbehjdcaaLrL
import Derived.Test.YtfmcicmbehjdcaaLrM
namespace Go.Proofs.Ytfmcicmbehjdcaa
set_option linter.unusedSimpArgs false
set_option linter.unusedVariables false
open Go.RowKit

theorem onSet_set {W s k : Nat} {l : List Sm} {v : Sm} {g : Nat → Sm} (h1 : s * W ≤ k) (h2 : k < s * W + W) : onSet W s (l.set k v) g = onSet W s l g := list_ext! (by rw [onSet_len, onSet_len, List.length_set]) fun j hj => by
  rw [onSet_len, List.length_set] at hj
  rw [onSet_get (by rw [List.length_set]; exact hj), onSet_get hj, set_getG _ _ _ _ hj]
  by_cases c : s * W ≤ j ∧ j < s * W + W
  · rw [if_pos c, if_pos c]
  · rw [if_neg c, if_neg c, if_neg (fun e => c ⟨by omega, by omega⟩)]
theorem onSet_congr {W s : Nat} {l : List Sm} {g g' : Nat → Sm} (h : ∀ r, r < W → g r = g' r) : onSet W s l g = onSet W s l g' := list_ext! (by rw [onSet_len, onSet_len]) fun j hj => by
  rw [onSet_len] at hj
  rw [onSet_get hj, onSet_get hj]
  by_cases c : s * W ≤ j ∧ j < s * W + W
  · rw [if_pos c, if_pos c, h _ (by omega)]
  · rw [if_neg c, if_neg c]
theorem rowG_set {W s j r : Nat} {l : List Sm} {v : Sm} (hin : s * W + W ≤ l.length) (hr : r < W) : rowG W (l.set (s * W + j) v) s r = if r = j then v else rowG W l s r := by
  unfold rowG
  rw [set_getG _ _ _ _ (by omega)]
  by_cases e : r = j
  · rw [if_pos e, if_pos (by omega)]
  · rw [if_neg e, if_neg (by omega)]
theorem map_set {qs : List Sw} {k : Nat} {q : Sw} : (qs.set k q).map Sw.s = (qs.map Sw.s).set k q.s := List.map_set
theorem rowG_map {W s j : Nat} {qs : List Sw} {l : List Sm} (hq : qs.map Sw.s = l) (hk : s * W + j < qs.length) : rowG W l s j = (qs[s * W + j]!).s := by
  unfold rowG
  rw [← hq, map_get _ _ _ hk]
/-- A line put over, and used. -/
theorem put_over {S W : Nat} {size : Int} {l : List Sm} (hg : GoodC S W size l) {qs : List Sw} (hq : qs.map Sw.s = l) {s j : Nat} (hs : s < S) (hj : j < W) (x : Lm) (y : Sv) :
    (useQ W s j (qs.set (s * W + j) ⟨⟨(qs[s * W + j]!).s.u, (qs[s * W + j]!).s.age, x⟩, y⟩)).map Sw.s = onSet W s l (useG (lnG (rowG W l s) j x) j) := by
  have hfit := hg.fits hs
  have hql : qs.length = l.length := by rw [← hq, List.length_map]
  rw [useQ_map (by rw [List.length_set]; omega) hj, map_set, hq, onSet_set (by omega) (by omega)]
  refine onSet_congr fun r hr => ?_
  have e : ∀ r, r < W → rowG W (l.set (s * W + j) ⟨(qs[s * W + j]!).s.u, (qs[s * W + j]!).s.age, x⟩) s r = lnG (rowG W l s) j x r := fun r hr => by
    rw [rowG_set hfit hr]
    unfold lnG
    by_cases e : r = j
    · rw [if_pos e, if_pos e, e, rowG_map hq (by omega)]
    · rw [if_neg e, if_neg e]
  unfold useG
  rw [e r hr, e j hj]
/-- A line put into a slot, as the oldest one, and used. -/
theorem put_new {S W : Nat} {size : Int} {l : List Sm} (hg : GoodC S W size l) {qs : List Sw} (hq : qs.map Sw.s = l) {s j : Nat} (hs : s < S) (hj : j < W) (x : Lm) (y : Sv) :
    (useQ W s j (qs.set (s * W + j) ⟨⟨true, W, x⟩, y⟩)).map Sw.s = onSet W s l (putG (rowG W l s) j x) := by
  have hfit := hg.fits hs
  have hql : qs.length = l.length := by rw [← hq, List.length_map]
  rw [useQ_map (by rw [List.length_set]; omega) hj, map_set, hq, onSet_set (by omega) (by omega)]
  refine onSet_congr fun r hr => ?_
  have e : ∀ r, r < W → rowG W (l.set (s * W + j) ⟨true, W, x⟩) s r = if r = j then ⟨true, W, x⟩ else rowG W l s r := fun r hr => rowG_set hfit hr
  unfold useG putG
  rw [e r hr, e j hj, if_pos rfl]
  by_cases h : r = j
  · rw [if_pos h, if_pos h, if_pos h]
  · rw [if_neg h, if_neg h, if_neg h]
    by_cases hu : (rowG W l s r).u = true
    · rw [if_pos ⟨hu, ((hg.sets s hs).ageU r hr hu).1⟩, if_pos hu]
    · rw [if_neg (fun hh => hu hh.1), if_neg hu]
theorem put_ages {W : Nat} (hW : W ≤ 4) {qs : List Sw} {k : Nat} {q : Sw} (h : ∀ j, j < qs.length → (qs[j]!).s.u = true → 0 ≤ (qs[j]!).s.age ∧ (qs[j]!).s.age < 1000) (hk : k < qs.length) (hq : q.s.u = true → 0 ≤ q.s.age ∧ q.s.age < 1000) : ∀ j, j < (qs.set k q).length → ((qs.set k q)[j]!).s.u = true → 0 ≤ ((qs.set k q)[j]!).s.age ∧ ((qs.set k q)[j]!).s.age < 1000 := fun j hj => by
  rw [List.length_set] at hj
  rw [set_getG _ _ _ _ hj]
  by_cases e : j = k
  · rw [if_pos e]; exact hq
  · rw [if_neg e]; exact h j hj
theorem slotsOk_set {w : World} {qs : List Sw} {k : Nat} {q : Sw} (h : SlotsOk w qs) (hq : BytesAt w q.x q.s.ln.bs) : SlotsOk w (qs.set k q) := fun j hj => by
  rw [List.length_set] at hj
  rw [set_getG _ _ _ _ hj]
  by_cases e : j = k
  · rw [if_pos e]; exact hq
  · rw [if_neg e]; exact h j hj
/-- A full set has an oldest slot. -/
theorem GoodSet.oldest {S W : Nat} {size : Int} {s : Nat} {g : Nat → Sm} (h : GoodSet S W size s g) (hW1 : 1 ≤ W) (hW4 : W ≤ 4) (hf : ∀ r, r < W → (g r).u = true) : ∃ r, r < W ∧ (g r).age = (W : Int) - 1 := by
  have a0 : ∀ r, r < W → 0 ≤ (g r).age := fun r hr => h.age0 r hr (hf r hr)
  have aU : ∀ r, r < W → (g r).age < (W : Int) := fun r hr => (h.ageU r hr (hf r hr)).1
  have d : ∀ r r', r < W → r' < W → r ≠ r' → (g r).age ≠ (g r').age := fun r r' hr hr' hne e => hne (h.ageD r r' hr hr' (hf r hr) (hf r' hr') e)
  have hW : W = 1 ∨ W = 2 ∨ W = 3 ∨ W = 4 := by omega
  apply Classical.byContradiction
  intro hn
  have hn' : ∀ r, r < W → (g r).age ≠ (W : Int) - 1 := fun r hr e => hn ⟨r, hr, e⟩
  rcases hW with rfl | rfl | rfl | rfl
  · have := a0 0 (by omega); have := aU 0 (by omega); have := hn' 0 (by omega); omega
  · have := a0 0 (by omega); have := aU 0 (by omega); have := hn' 0 (by omega)
    have := a0 1 (by omega); have := aU 1 (by omega); have := hn' 1 (by omega)
    have := d 0 1 (by omega) (by omega) (by omega)
    omega
  · have := a0 0 (by omega); have := aU 0 (by omega); have := hn' 0 (by omega)
    have := a0 1 (by omega); have := aU 1 (by omega); have := hn' 1 (by omega)
    have := a0 2 (by omega); have := aU 2 (by omega); have := hn' 2 (by omega)
    have := d 0 1 (by omega) (by omega) (by omega)
    have := d 0 2 (by omega) (by omega) (by omega)
    have := d 1 2 (by omega) (by omega) (by omega)
    omega
  · have := a0 0 (by omega); have := aU 0 (by omega); have := hn' 0 (by omega)
    have := a0 1 (by omega); have := aU 1 (by omega); have := hn' 1 (by omega)
    have := a0 2 (by omega); have := aU 2 (by omega); have := hn' 2 (by omega)
    have := a0 3 (by omega); have := aU 3 (by omega); have := hn' 3 (by omega)
    have := d 0 1 (by omega) (by omega) (by omega)
    have := d 0 2 (by omega) (by omega) (by omega)
    have := d 0 3 (by omega) (by omega) (by omega)
    have := d 1 2 (by omega) (by omega) (by omega)
    have := d 1 3 (by omega) (by omega) (by omega)
    have := d 2 3 (by omega) (by omega) (by omega)
    omega
/-- A call that hands back a cache, a line, whether there was one, and an error. -/
def GivesPt (S W : Nat) (size : Int) (P : List Sm × Lm × Bool × Int → Prop) (w : World) (e : Ending) (w' : World) : Prop := ∃ (o : List Sm × Lm × Bool × Int) (s : Option Addr) (c : Nat) (qs : List Sw) (y : Sv) (F : Nat → Prop), P o ∧ qs.map Sw.s = o.1 ∧ e = .returned (.tuple #[caV S W size ⟨s, qs.length, c⟩, lnV o.2.1 y, .bool o.2.2.1, .int .i64 o.2.2.2]) ∧ HS NoD w [rowS s qs.length c qs, .any F (fun w => SlotsOk w qs ∧ BytesAt w y o.2.1.bs)] w'
end Go.Proofs.Ytfmcicmbehjdcaa
