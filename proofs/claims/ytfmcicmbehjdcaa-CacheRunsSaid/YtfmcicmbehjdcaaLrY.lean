/- Plain laws of CacheSets. -/
import Derived.Test.YtfmcicmbehjdcaaLrP
namespace Go.Proofs.Ytfmcicmbehjdcaa
set_option linter.unusedSimpArgs false
set_option linter.unusedVariables false
open Go.RowKit

theorem onSet_id {W s : Nat} {l : List Sm} {g : Nat → Sm} (h : ∀ r, r < W → g r = rowG W l s r) : onSet W s l g = l := list_ext! (onSet_len _ _ _ _) fun j hj => by
  rw [onSet_len] at hj
  rw [onSet_get hj]
  by_cases c : s * W ≤ j ∧ j < s * W + W
  · rw [if_pos c, h _ (by omega)]
    unfold rowG
    rw [show s * W + (j - s * W) = j by omega]
  · rw [if_neg c]
/-- Where a line that was put lies. -/
structure PutIn (S W : Nat) (l : List Sm) (x : Lm) (l' : List Sm) (s r : Nat) : Prop where
  hs : s < S
  hr : r < W
  mod : x.ad % S = s
  len : l'.length = l.length
  at' : rowG W l' s r = ⟨true, 0, x⟩
  out : ∀ i, i < l.length → ¬ (s * W ≤ i ∧ i < s * W + W) → l'[i]! = l[i]!
theorem put_spec {S W : Nat} {size : Int} {l : List Sm} (h : GoodC S W size l) {x : Lm} (hx : lineB size x = true) {o : List Sm × Lm × Bool × Int} (ho : PutR S W size l x o) : o.2.2.2 = 0 ∧ ∃ s r, PutIn S W l x o.1 s r := by
  have key : ∀ (s r : Nat) (g : Nat → Sm), s < S → r < W → x.ad % S = s → g r = ⟨true, 0, x⟩ → PutIn S W l x (onSet W s l g) s r := fun s r g hs hr hm hg =>
    ⟨hs, hr, hm, onSet_len _ _ _ _, by rw [onSet_same (h.fits hs) hr, hg], fun i hi hn => by rw [onSet_get hi, if_neg hn]⟩
  rcases ho with ⟨n1, rfl⟩ | ⟨n1, s, r, hs, hr, hh, rfl⟩ | ⟨n1, hn, s, r, hs, hm, hp, rfl⟩
  · rw [hx] at n1; cases n1
  · refine ⟨rfl, s, r, key s r _ hs hr (h.hit_set hs hr hh) ?_⟩
    have hu : (rowG W l s r).u = true := hh.1
    unfold useG lnG
    rw [if_pos rfl, if_pos rfl, hu]
  · refine ⟨rfl, s, r, key s r _ hs hp.1 hm ?_⟩
    unfold putG
    rw [if_pos rfl]
theorem PutIn.hit {S W : Nat} {l : List Sm} {x : Lm} {l' : List Sm} {s r : Nat} (h : PutIn S W l x l' s r) : Hit l' x.ad (s * W + r) := by
  have e : l'[s * W + r]! = ⟨true, 0, x⟩ := h.at'
  unfold Hit
  rw [e]
  exact ⟨rfl, rfl⟩
theorem use_young {S W : Nat} {size : Int} {s : Nat} {g : Nat → Sm} (h : GoodSet S W size s g) {r : Nat} (h0 : (g r).age = 0) {t : Nat} (ht : t < W) : useG g r t = g t := by
  unfold useG
  by_cases e : t = r
  · rw [if_pos e, e, ← h0]
  · rw [if_neg e]
    by_cases c : (g t).u = true ∧ (g t).age < (g r).age
    · have := h.age0 t ht c.1; omega
    · rw [if_neg c]
/-- A second put of the line changes nothing. -/
theorem put_again {S W : Nat} {size : Int} {l l' : List Sm} (h' : GoodC S W size l') {x : Lm} (hx : lineB size x = true) {s r : Nat} (hp : PutIn S W l x l' s r) : PutR S W size l' x (l', zLm, false, 0) := by
  refine .inr (.inl ⟨hx, s, r, hp.hs, hp.hr, hp.hit, ?_⟩)
  have hln : lnG (rowG W l' s) r x = rowG W l' s := by
    funext t
    unfold lnG
    by_cases e : t = r
    · rw [if_pos e, e, hp.at']
    · rw [if_neg e]
  rw [hln, onSet_id fun t ht => use_young (h'.sets s hp.hs) (by rw [hp.at']) ht]
theorem get_again {S W : Nat} {size : Int} {l l' : List Sm} (h' : GoodC S W size l') {x : Lm} {s r : Nat} (hp : PutIn S W l x l' s r) : GetR S W l' x.ad (l', x, true) := by
  refine .inr ⟨s, r, hp.hs, hp.hr, hp.hit, ?_⟩
  rw [onSet_id fun t ht => use_young (h'.sets s hp.hs) (by rw [hp.at']) ht, show l'[s * W + r]! = ⟨true, 0, x⟩ from hp.at']
/-- What is dropped is gone, and other sets stay. -/
theorem drop_gone {S W : Nat} {size : Int} {l : List Sm} (h : GoodC S W size l) {a : Int} {o : List Sm × Lm × Bool} (ho : DropR S W l a o) : ∀ k, k < o.1.length → ¬ Hit o.1 a k := by
  have hg' := h.drop ho
  rcases ho with ⟨hn, rfl⟩ | ⟨s, r, hs, hr, hh, rfl⟩
  · exact hn
  · intro k hk hit
    obtain ⟨c1, c2, c3⟩ := hg'.coord hk
    have m1 := hg'.hit_set (s := k / W) (r := k % W) c1 c2 (by rw [c3]; exact hit)
    have m2 := h.hit_set hs hr hh
    have es : k / W = s := by omega
    have hrow : (onSet W s l (dropG W (rowG W l s) r))[k]! = dropG W (rowG W l s) r (k % W) := by
      have := onSet_same (g := dropG W (rowG W l s) r) (h.fits hs) c2
      unfold rowG at this
      rw [← es, c3] at this
      rw [← es]; exact this
    have hu := hit.1
    have ha := hit.2
    dsimp only at hu ha
    rw [hrow] at hu ha
    obtain ⟨t, h1, h2, -, h4, e⟩ := dropG_used c2 hu
    rw [e, decG_ln] at ha
    exact h2 ((h.sets s hs).adD t r h1 hr h4 hh.1 (by rw [ha]; exact hh.2.symm))
theorem drop_out {S W : Nat} {size : Int} {l : List Sm} (h : GoodC S W size l) {a : Int} {s : Nat} (hm : a % S = s) {o : List Sm × Lm × Bool} (ho : DropR S W l a o) : o.1.length = l.length ∧ ∀ i, i < l.length → ¬ (s * W ≤ i ∧ i < s * W + W) → (o.1)[i]! = l[i]! := by
  rcases ho with ⟨hn, rfl⟩ | ⟨s', r, hs, hr, hh, rfl⟩
  · exact ⟨rfl, fun _ _ _ => rfl⟩
  · have m2 := h.hit_set hs hr hh
    obtain rfl : s' = s := by omega
    exact ⟨onSet_len _ _ _ _, fun i hi hn => by rw [onSet_get hi, if_neg hn]⟩
/-- A line of another set is answered as before. -/
theorem get_other {S W : Nat} {size : Int} {l l' : List Sm} (h : GoodC S W size l) (h' : GoodC S W size l') {s : Nat} (hlen : l'.length = l.length) (hout : ∀ i, i < l.length → ¬ (s * W ≤ i ∧ i < s * W + W) → l'[i]! = l[i]!) {k : Int} (hk : k % S ≠ s) {u u' : List Sm × Lm × Bool} (hu : GetR S W l k u) (hu' : GetR S W l' k u') : u'.2 = u.2 := by
  have hsame : ∀ t r, t < S → r < W → t ≠ s → l'[t * W + r]! = l[t * W + r]! := fun t r ht hr hne => hout _ (by have := h.fits ht; omega) (apart_sets hne hr)
  rcases hu with ⟨n1, rfl⟩ | ⟨s1, r1, hs1, hr1, hh1, rfl⟩ <;> rcases hu' with ⟨n2, rfl⟩ | ⟨s2, r2, hs2, hr2, hh2, rfl⟩
  · rfl
  · have m := h'.hit_set hs2 hr2 hh2
    have e := hsame s2 r2 hs2 hr2 (by omega)
    unfold Hit at hh2
    rw [e] at hh2
    exact absurd hh2 (h.hit_in hs2 hr2 n1)
  · have m := h.hit_set hs1 hr1 hh1
    have e := hsame s1 r1 hs1 hr1 (by omega)
    unfold Hit at hh1
    rw [← e] at hh1
    exact absurd hh1 (h'.hit_in hs1 hr1 n2)
  · have m1 := h.hit_set hs1 hr1 hh1
    have m2 := h'.hit_set hs2 hr2 hh2
    have e := hsame s2 r2 hs2 hr2 (by omega)
    have hh3 := hh2
    unfold Hit at hh3
    rw [e] at hh3
    obtain ⟨rfl, rfl⟩ := h.hit_one hs1 hr1 hs2 hr2 hh1 hh3
    dsimp only
    rw [e]
end Go.Proofs.Ytfmcicmbehjdcaa
