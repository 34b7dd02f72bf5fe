/- Plain laws of Dirty and Flush. -/
import Derived.Test.YtfmcicmbehjdcaaLrSl
import Derived.Test.YtfmcicmbehjdcaaLrY
namespace Go.Proofs.Ytfmcicmbehjdcaa
set_option linter.unusedSimpArgs false
set_option linter.unusedVariables false
open Go.RowKit

theorem mem_dirtyL {l : List Sm} {m : Lm} (h : m ∈ dirtyL l) : ∃ j, j < l.length ∧ Hit l m.ad j ∧ (l[j]!).ln = m ∧ m.d = true := by
  unfold dirtyL at h
  obtain ⟨s, hs, rfl⟩ := List.mem_map.1 h
  obtain ⟨h1, h2⟩ := List.mem_filter.1 hs
  obtain ⟨j, hj, rfl⟩ := List.getElem_of_mem h1
  simp only [isDi, Bool.and_eq_true] at h2
  have e : l[j]! = l[j] := getElem!_pos l j hj
  exact ⟨j, hj, ⟨by rw [e]; exact h2.1, by rw [e]⟩, by rw [e], h2.2⟩
theorem GoodC.hit_j {S W : Nat} {size : Int} {l : List Sm} (h : GoodC S W size l) {a : Int} {j j' : Nat} (hj : j < l.length) (hj' : j' < l.length) (h1 : Hit l a j) (h2 : Hit l a j') : j = j' := by
  obtain ⟨c1, c2, c3⟩ := h.coord hj
  obtain ⟨d1, d2, d3⟩ := h.coord hj'
  obtain ⟨e1, e2⟩ := h.hit_one c1 c2 d1 d2 (by rw [c3]; exact h1) (by rw [d3]; exact h2)
  rw [← c3, ← d3, e1, e2]
theorem dirty_ad {S W : Nat} {size : Int} {l : List Sm} (h : GoodC S W size l) {m m' : Lm} (h1 : m ∈ dirtyL l) (h2 : m' ∈ dirtyL l) (e : m.ad = m'.ad) : m = m' := by
  obtain ⟨j, hj, hh, rfl, -⟩ := mem_dirtyL h1
  obtain ⟨j', hj', hh', rfl, -⟩ := mem_dirtyL h2
  rw [h.hit_j hj hj' hh (by rw [e]; exact hh')]
/-- What the dirty lines are, is one list. -/
theorem GoodC.dirty_one {S W : Nat} {size : Int} {l : List Sm} (h : GoodC S W size l) {ts us : List Lm} (h1 : DirtyR l ts) (h2 : DirtyR l us) : ts = us :=
  List.Perm.eq_of_pairwise (le := fun x y : Lm => ¬ y.ad < x.ad) (fun a b ha hb n1 n2 => dirty_ad h (h1.1.mem_iff.1 ha) (h2.1.mem_iff.1 hb) (by omega)) h1.2 h2.2 (h1.1.trans h2.1.symm)
theorem dirtyL_nodup {S W : Nat} {size : Int} {l : List Sm} (h : GoodC S W size l) : (dirtyL l).Pairwise (fun x y => x.ad ≠ y.ad) := by
  unfold dirtyL
  rw [List.pairwise_map, List.pairwise_filter]
  rw [List.pairwise_iff_getElem]
  intro i j hi hj hij u1 u2 e
  simp only [isDi, Bool.and_eq_true] at u1 u2
  have e1 : l[i]! = l[i] := getElem!_pos l i hi
  have e2 : l[j]! = l[j] := getElem!_pos l j hj
  have := h.hit_j (a := l[i].ln.ad) hi hj ⟨by rw [e1]; exact u1.1, by rw [e1]⟩ ⟨by rw [e2]; exact u2.1, by rw [e2, e]⟩
  omega
/-- The dirty lines lie by strictly rising addresses. -/
theorem GoodC.dirty_up {S W : Nat} {size : Int} {l : List Sm} (h : GoodC S W size l) {ts : List Lm} (h1 : DirtyR l ts) : ts.Pairwise (fun x y => x.ad < y.ad) := by
  have hn : ts.Pairwise (fun x y => x.ad ≠ y.ad) := (h1.1.pairwise_iff (fun {x y} hxy e => hxy e.symm)).2 (dirtyL_nodup h)
  exact (hn.and h1.2).imp fun ⟨a, b⟩ => by omega
theorem flush_get {l : List Sm} {j : Nat} (hj : j < l.length) : (flushL l)[j]! = cleanS l[j]! := by
  unfold flushL
  rw [getElem!_pos _ j (by rw [List.length_map]; exact hj), List.getElem_map, getElem!_pos l j hj]
theorem flush_len (l : List Sm) : (flushL l).length = l.length := List.length_map _
theorem flush_hit {l : List Sm} {a : Int} {j : Nat} (hj : j < l.length) : Hit (flushL l) a j ↔ Hit l a j := by
  unfold Hit
  rw [flush_get hj]
  exact Iff.rfl
theorem dirty_flush (l : List Sm) : dirtyL (flushL l) = [] := by
  unfold dirtyL
  have : (flushL l).filter isDi = [] := by
    rw [List.filter_eq_nil_iff]
    intro s hs
    obtain ⟨s0, -, rfl⟩ := List.mem_map.1 hs
    simp [isDi, cleanS, cleanM]
  rw [this]; rfl
theorem dirtyR_flush {l : List Sm} {ts : List Lm} (h : DirtyR (flushL l) ts) : ts = [] := by
  have := h.1
  rw [dirty_flush] at this
  exact this.eq_nil
theorem dirty_len {S W : Nat} {size : Int} {l : List Sm} (h : GoodC S W size l) {ts : List Lm} (h1 : DirtyR l ts) : ts.length ≤ 32 := by
  rw [h1.1.length_eq]
  unfold dirtyL
  rw [List.length_map]
  exact Nat.le_trans (List.length_filter_le _ _) h.len32
/-- A flushed cache is a good one. -/
theorem GoodC.flush {S W : Nat} {size : Int} {l : List Sm} (h : GoodC S W size l) : GoodC S W size (flushL l) := by
  refine ⟨h.S1, h.S8, h.W1, h.W4, h.z1, h.z32, by rw [flush_len]; exact h.len, fun s hs => ?_⟩
  have hf := h.fits hs
  have e : ∀ r, r < W → rowG W (flushL l) s r = cleanS (rowG W l s r) := fun r hr => flush_get (by omega)
  have g := h.sets s hs
  refine ⟨fun r hr hu => ?_, fun r hr hu => ?_, fun r hr hu => ?_, fun r hr hu => ?_, fun r r' hr hr' hu hu' e1 => ?_, fun r r' hr hr' hu hu' e1 => ?_, fun r hr hu => ?_, fun r hr hu => ?_⟩
  · rw [e _ hr] at hu; rw [e _ (by omega)]; exact g.pre r hr hu
  · rw [e _ hr] at hu ⊢; rw [g.zero r hr hu]; rfl
  · rw [e _ hr] at hu ⊢; exact g.age0 r hr hu
  · rw [e _ hr] at hu ⊢
    have := g.ageU r hr hu
    have h0 := g.age0 r hr hu
    refine ⟨this.1, ?_⟩
    have hlt : (cleanS (rowG W l s r)).age.toNat < W := by show (rowG W l s r).age.toNat < W; omega
    rw [e _ hlt]
    exact this.2
  · rw [e _ hr] at hu e1; rw [e _ hr'] at hu' e1; exact g.ageD r r' hr hr' hu hu' e1
  · rw [e _ hr] at hu e1; rw [e _ hr'] at hu' e1; exact g.adD r r' hr hr' hu hu' e1
  · rw [e _ hr] at hu ⊢; exact g.line r hr hu
  · rw [e _ hr] at hu ⊢; exact g.mod r hr hu
/-- What Get answers of a flushed cache. -/
theorem get_flush {S W : Nat} {size : Int} {l : List Sm} (h : GoodC S W size l) {a : Int} {o u : List Sm × Lm × Bool} (h1 : GetR S W l a o) (h2 : GetR S W (flushL l) a u) : u.2.2 = o.2.2 ∧ u.2.1 = cleanM o.2.1 := by
  rcases h1 with ⟨n1, rfl⟩ | ⟨s, r, hs, hr, hh, rfl⟩
  · rcases h2 with ⟨n2, rfl⟩ | ⟨s, r, hs, hr, hh, rfl⟩
    · exact ⟨rfl, rfl⟩
    · have hlt : s * W + r < l.length := by have := h.fits hs; omega
      exact absurd ((flush_hit hlt).1 hh) (n1 _ hlt)
  · have hlt : s * W + r < l.length := by have := h.fits hs; omega
    rcases h2 with ⟨n2, rfl⟩ | ⟨s', r', hs', hr', hh', rfl⟩
    · exact absurd ((flush_hit hlt).2 hh) (n2 _ (by rw [flush_len]; exact hlt))
    · have hlt' : s' * W + r' < l.length := by have := h.fits hs'; omega
      have e := h.hit_j hlt hlt' hh ((flush_hit hlt').1 hh')
      refine ⟨rfl, ?_⟩
      dsimp only
      rw [flush_get hlt', ← e]
      rfl
end Go.Proofs.Ytfmcicmbehjdcaa
