/- Good caches: valid; what Get, Drop and Put answer. Plain words. -/
import Derived.Test.YtfmcicmbehjdcaaLrH
namespace Go.Proofs.Ytfmcicmbehjdcaa
set_option linter.unusedSimpArgs false
set_option linter.unusedVariables false
open Go.RowKit

def rowG (W : Nat) (l : List Sm) (s : Nat) (r : Nat) : Sm := l[s * W + r]!
structure GoodC (S W : Nat) (size : Int) (l : List Sm) : Prop where
  S1 : 1 ≤ S
  S8 : S ≤ 8
  W1 : 1 ≤ W
  W4 : W ≤ 4
  z1 : 1 ≤ size
  z32 : size ≤ 32
  len : l.length = S * W
  sets : ∀ s, s < S → GoodSet S W size s (rowG W l s)
theorem usedN_spec : ∀ (m : List Sm), (∀ i, i < usedN m → (m[i]!).u = true) ∧ (usedN m = m.length ∨ (usedN m < m.length ∧ (m[usedN m]!).u = false))
  | [] => ⟨fun i hi => absurd hi (Nat.not_lt_zero _), .inl rfl⟩
  | s :: m => by
    obtain ⟨h1, h2⟩ := usedN_spec m
    cases hs : s.u
    · have e : usedN (s :: m) = 0 := by simp [usedN, List.takeWhile_cons, hs]
      rw [e]
      exact ⟨fun i hi => absurd hi (Nat.not_lt_zero _), .inr ⟨by simp, hs⟩⟩
    · have e : usedN (s :: m) = usedN m + 1 := by simp [usedN, List.takeWhile_cons, hs]
      rw [e]
      refine ⟨fun i hi => ?_, ?_⟩
      · cases i with
        | zero => exact hs
        | succ i => exact h1 i (by omega)
      · rcases h2 with h2 | ⟨h2, h3⟩
        · exact .inl (by simp [h2])
        · exact .inr ⟨by simp; exact h2, h3⟩
theorem GoodSet.right {S W : Nat} {size : Int} {s : Nat} {m : List Sm} (hm : m.length = W) (h : GoodSet S W size s (fun r => m[r]!)) : rightB S size s m = true := by
  obtain ⟨u1, u2⟩ := usedN_spec m
  have hU := usedN_le m
  have hno : ∀ r, r < W → (m[r]!).u = true → r < usedN m := fun r hr hu => Nat.lt_of_not_le fun hle => by
    rcases u2 with u2 | ⟨u2, u3⟩
    · omega
    · have := h.down' (r := usedN m) (r' := r) hle hr hu
      rw [u3] at this; cases this
  refine decide_eq_true fun i hi => ?_
  rw [hm] at hi
  unfold slotB
  by_cases hlt : i < usedN m
  · rw [if_pos hlt]
    have hu := u1 i hlt
    have a0 := h.age0 i hi hu
    have aU := h.ageU i hi hu
    have a1 := hno _ (by have := aU.1; omega) aU.2
    have hl := h.line i hi hu
    have hmo := h.mod i hi hu
    have n1 : (m[i]!).age ∉ (m.take i).map (·.age) := fun hmem => by
      obtain ⟨q, hq, e⟩ := List.mem_map.1 hmem
      obtain ⟨j, hj, e2⟩ := List.getElem_of_mem hq
      rw [List.length_take] at hj
      rw [List.getElem_take, ← getElem!_pos m j (by omega)] at e2
      have := h.ageD j i (by omega) hi (u1 j (by omega)) hu (by rw [e2]; exact e)
      omega
    have n2 : (m[i]!).ln.ad ∉ (m.take i).map (·.ln.ad) := fun hmem => by
      obtain ⟨q, hq, e⟩ := List.mem_map.1 hmem
      obtain ⟨j, hj, e2⟩ := List.getElem_of_mem hq
      rw [List.length_take] at hj
      rw [List.getElem_take, ← getElem!_pos m j (by omega)] at e2
      have := h.adD j i (by omega) hi (u1 j (by omega)) hu (by rw [e2]; exact e)
      omega
    rw [decide_eq_true a0, decide_eq_true (show (m[i]!).age < (usedN m : Int) by omega), decide_eq_true n1, decide_eq_true n2, hl, decide_eq_true hmo]
    rfl
  · rw [if_neg hlt]
    have hu : (m[i]!).u = false := by
      cases hc : (m[i]!).u
      · rfl
      · exact absurd (hno i hi hc) hlt
    rw [h.zero i hi hu]
    rfl
theorem GoodSet.congr {S W : Nat} {size : Int} {s : Nat} {g g' : Nat → Sm} (h : GoodSet S W size s g) (e : ∀ r, r < W → g' r = g r) : GoodSet S W size s g' := by
  refine ⟨fun r hr hu => ?_, fun r hr hu => ?_, fun r hr hu => ?_, fun r hr hu => ?_, fun r r' hr hr' hu hu' e1 => ?_, fun r r' hr hr' hu hu' e1 => ?_, fun r hr hu => ?_, fun r hr hu => ?_⟩
  · rw [e _ (by omega)] at hu ⊢; exact h.pre r hr hu
  · rw [e _ hr] at hu ⊢; exact h.zero r hr hu
  · rw [e _ hr] at hu ⊢; exact h.age0 r hr hu
  · rw [e _ hr] at hu ⊢
    have h0 := h.age0 r hr hu
    have h1 := h.ageU r hr hu
    rw [e _ (by omega)]
    exact h1
  · rw [e _ hr] at hu e1; rw [e _ hr'] at hu' e1; exact h.ageD r r' hr hr' hu hu' e1
  · rw [e _ hr] at hu e1; rw [e _ hr'] at hu' e1; exact h.adD r r' hr hr' hu hu' e1
  · rw [e _ hr] at hu ⊢; exact h.line r hr hu
  · rw [e _ hr] at hu ⊢; exact h.mod r hr hu
theorem GoodC.fits {S W : Nat} {size : Int} {l : List Sm} (h : GoodC S W size l) {s : Nat} (hs : s < S) : s * W + W ≤ l.length := set_in hs h.len
theorem GoodC.valid {S W : Nat} {size : Int} {l : List Sm} (h : GoodC S W size l) : validB S W size l = true := by
  have h1 := h.S1; have h2 := h.S8; have h3 := h.W1; have h4 := h.W4; have h5 := h.z1; have h6 := h.z32
  unfold validB
  rw [show sizedB (S : Int) W size = true from decide_eq_true (by omega), decide_eq_true (show (l.length : Int) = (S : Int) * W by rw [h.len]; push_cast; rfl)]
  simp only [Bool.true_and, Int.toNat_natCast]
  refine decide_eq_true fun s hs => ?_
  refine GoodSet.right (W := W) (setOf_len (h.fits hs)) ?_
  exact (h.sets s hs).congr fun r hr => setOf_get (h.fits hs) hr
/-- One set exchanged. -/
def onSet (W s : Nat) (l : List Sm) (g : Nat → Sm) : List Sm := l.mapIdx fun k q => if s * W ≤ k ∧ k < s * W + W then g (k - s * W) else q
theorem onSet_len (W s : Nat) (l : List Sm) (g : Nat → Sm) : (onSet W s l g).length = l.length := List.length_mapIdx
theorem onSet_get {W s : Nat} {l : List Sm} {g : Nat → Sm} {k : Nat} (hk : k < l.length) : (onSet W s l g)[k]! = if s * W ≤ k ∧ k < s * W + W then g (k - s * W) else l[k]! := by
  unfold onSet
  rw [getElem!_pos _ k (by rw [List.length_mapIdx]; exact hk), List.getElem_mapIdx, getElem!_pos l k hk]
theorem onSet_same {W s : Nat} {l : List Sm} {g : Nat → Sm} (h : s * W + W ≤ l.length) {r : Nat} (hr : r < W) : rowG W (onSet W s l g) s r = g r := by
  unfold rowG
  rw [onSet_get (by omega), if_pos (by omega), show s * W + r - s * W = r by omega]
theorem apart_sets {W s t r : Nat} (hne : t ≠ s) (hr : r < W) : ¬ (s * W ≤ t * W + r ∧ t * W + r < s * W + W) := fun ⟨h1, h2⟩ => by
  rcases Nat.lt_or_ge t s with h | h
  · have := Nat.mul_le_mul_right W (show t + 1 ≤ s from h)
    rw [Nat.add_mul, Nat.one_mul] at this
    omega
  · have := Nat.mul_le_mul_right W (show s + 1 ≤ t by omega)
    rw [Nat.add_mul, Nat.one_mul] at this
    omega
theorem onSet_other {W s t : Nat} {l : List Sm} {g : Nat → Sm} (hne : t ≠ s) (h : t * W + W ≤ l.length) {r : Nat} (hr : r < W) : rowG W (onSet W s l g) t r = rowG W l t r := by
  unfold rowG
  rw [onSet_get (by omega), if_neg (apart_sets hne hr)]
theorem GoodC.onSet {S W : Nat} {size : Int} {l : List Sm} (h : GoodC S W size l) {s : Nat} (hs : s < S) {g : Nat → Sm} (hg : GoodSet S W size s g) : GoodC S W size (onSet W s l g) :=
  ⟨h.S1, h.S8, h.W1, h.W4, h.z1, h.z32, (onSet_len _ _ _ _).trans h.len, fun t ht => by
    by_cases e : t = s
    · subst e; exact hg.congr fun r hr => onSet_same (h.fits hs) hr
    · exact (h.sets t ht).congr fun r hr => onSet_other e (h.fits ht) hr⟩
/-- The slot k holds the line a. -/
def Hit (l : List Sm) (a : Int) (k : Nat) : Prop := (l[k]!).u = true ∧ (l[k]!).ln.ad = a
theorem GoodC.coord {S W : Nat} {size : Int} {l : List Sm} (h : GoodC S W size l) {k : Nat} (hk : k < l.length) : k / W < S ∧ k % W < W ∧ k / W * W + k % W = k := by
  have hW := h.W1
  rw [h.len] at hk
  exact ⟨Nat.div_lt_of_lt_mul (by rwa [Nat.mul_comm]), Nat.mod_lt _ (by omega), by rw [Nat.mul_comm]; exact Nat.div_add_mod k W⟩
theorem GoodC.hit_one {S W : Nat} {size : Int} {l : List Sm} (h : GoodC S W size l) {a : Int} {s r s' r' : Nat} (hs : s < S) (hr : r < W) (hs' : s' < S) (hr' : r' < W) (h1 : Hit l a (s * W + r)) (h2 : Hit l a (s' * W + r')) : s = s' ∧ r = r' := by
  have m1 := (h.sets s hs).mod r hr h1.1
  have m2 := (h.sets s' hs').mod r' hr' h2.1
  have e1 : (rowG W l s r).ln.ad = a := h1.2
  have e2 : (rowG W l s' r').ln.ad = a := h2.2
  rw [e1] at m1
  rw [e2] at m2
  have hss : s = s' := by omega
  subst hss
  exact ⟨rfl, (h.sets s hs).adD r r' hr hr' h1.1 h2.1 (by rw [e1, e2])⟩
theorem GoodC.hit_set {S W : Nat} {size : Int} {l : List Sm} (h : GoodC S W size l) {a : Int} {s r : Nat} (hs : s < S) (hr : r < W) (h1 : Hit l a (s * W + r)) : a % S = s := by
  have m1 := (h.sets s hs).mod r hr h1.1
  have e1 : (rowG W l s r).ln.ad = a := h1.2
  rwa [e1] at m1
def zLm : Lm := ⟨0, [], false, false⟩
def GetR (S W : Nat) (l : List Sm) (a : Int) (o : List Sm × Lm × Bool) : Prop := ((∀ k, k < l.length → ¬ Hit l a k) ∧ o = (l, zLm, false)) ∨ ∃ s r, s < S ∧ r < W ∧ Hit l a (s * W + r) ∧ o = (onSet W s l (useG (rowG W l s) r), (l[s * W + r]!).ln, true)
def DropR (S W : Nat) (l : List Sm) (a : Int) (o : List Sm × Lm × Bool) : Prop := ((∀ k, k < l.length → ¬ Hit l a k) ∧ o = (l, zLm, false)) ∨ ∃ s r, s < S ∧ r < W ∧ Hit l a (s * W + r) ∧ o = (onSet W s l (dropG W (rowG W l s) r), (l[s * W + r]!).ln, true)
/-- Where a new line goes. -/
def PutAt (W : Nat) (g : Nat → Sm) (r : Nat) : Prop := r < W ∧ (((g r).u = false ∧ ∀ t, t < r → (g t).u = true) ∨ ((∀ t, t < W → (g t).u = true) ∧ (g r).age = (W : Int) - 1))
def PutR (S W : Nat) (size : Int) (l : List Sm) (x : Lm) (o : List Sm × Lm × Bool × Int) : Prop :=
  (lineB size x = false ∧ o = (l, zLm, false, 1)) ∨
  (lineB size x = true ∧ ∃ s r, s < S ∧ r < W ∧ Hit l x.ad (s * W + r) ∧ o = (onSet W s l (useG (lnG (rowG W l s) r x) r), zLm, false, 0)) ∨
  (lineB size x = true ∧ (∀ k, k < l.length → ¬ Hit l x.ad k) ∧ ∃ s r, s < S ∧ x.ad % S = s ∧ PutAt W (rowG W l s) r ∧ o = (onSet W s l (putG (rowG W l s) r x), if (rowG W l s r).u then (rowG W l s r).ln else zLm, (rowG W l s r).u, 0))
theorem GoodC.get {S W : Nat} {size : Int} {l : List Sm} (h : GoodC S W size l) {a : Int} {o : List Sm × Lm × Bool} (ho : GetR S W l a o) : GoodC S W size o.1 := by
  rcases ho with ⟨_, rfl⟩ | ⟨s, r, hs, hr, hh, rfl⟩
  · exact h
  · exact h.onSet hs ((h.sets s hs).use hr hh.1)
theorem GoodC.drop {S W : Nat} {size : Int} {l : List Sm} (h : GoodC S W size l) {a : Int} {o : List Sm × Lm × Bool} (ho : DropR S W l a o) : GoodC S W size o.1 := by
  rcases ho with ⟨_, rfl⟩ | ⟨s, r, hs, hr, hh, rfl⟩
  · exact h
  · exact h.onSet hs ((h.sets s hs).drop hr hh.1)
theorem GoodC.put {S W : Nat} {size : Int} {l : List Sm} (h : GoodC S W size l) {x : Lm} {o : List Sm × Lm × Bool × Int} (ho : PutR S W size l x o) : GoodC S W size o.1 := by
  rcases ho with ⟨_, rfl⟩ | ⟨hx, s, r, hs, hr, hh, rfl⟩ | ⟨hx, hn, s, r, hs, hm, ⟨hr, hp⟩, rfl⟩
  · exact h
  · refine h.onSet hs (((h.sets s hs).ln hr hh.1 hx hh.2.symm).use hr (by rw [lnG_u]; exact hh.1))
  · refine h.onSet hs ((h.sets s hs).put hr hx hm (fun t ht hu e => hn (s * W + t) (by have := h.fits hs; omega) ⟨hu, e⟩) ?_)
    exact hp
theorem GoodC.hit_in {S W : Nat} {size : Int} {l : List Sm} (h : GoodC S W size l) {a : Int} {s r : Nat} (hs : s < S) (hr : r < W) (hn : ∀ k, k < l.length → ¬ Hit l a k) : ¬ Hit l a (s * W + r) := hn _ (by have := h.fits hs; omega)
theorem GoodC.get_one {S W : Nat} {size : Int} {l : List Sm} (h : GoodC S W size l) {a : Int} {o o' : List Sm × Lm × Bool} (h1 : GetR S W l a o) (h2 : GetR S W l a o') : o = o' := by
  rcases h1 with ⟨n1, rfl⟩ | ⟨s, r, hs, hr, hh, rfl⟩ <;> rcases h2 with ⟨n2, rfl⟩ | ⟨s', r', hs', hr', hh', rfl⟩
  · rfl
  · exact absurd hh' (h.hit_in hs' hr' n1)
  · exact absurd hh (h.hit_in hs hr n2)
  · obtain ⟨rfl, rfl⟩ := h.hit_one hs hr hs' hr' hh hh'; rfl
theorem GoodC.drop_one {S W : Nat} {size : Int} {l : List Sm} (h : GoodC S W size l) {a : Int} {o o' : List Sm × Lm × Bool} (h1 : DropR S W l a o) (h2 : DropR S W l a o') : o = o' := by
  rcases h1 with ⟨n1, rfl⟩ | ⟨s, r, hs, hr, hh, rfl⟩ <;> rcases h2 with ⟨n2, rfl⟩ | ⟨s', r', hs', hr', hh', rfl⟩
  · rfl
  · exact absurd hh' (h.hit_in hs' hr' n1)
  · exact absurd hh (h.hit_in hs hr n2)
  · obtain ⟨rfl, rfl⟩ := h.hit_one hs hr hs' hr' hh hh'; rfl
theorem PutAt.one {S W : Nat} {size : Int} {s : Nat} {g : Nat → Sm} (h : GoodSet S W size s g) {r r' : Nat} (h1 : PutAt W g r) (h2 : PutAt W g r') : r = r' := by
  obtain ⟨hr, h1⟩ := h1
  obtain ⟨hr', h2⟩ := h2
  rcases h1 with ⟨a1, a2⟩ | ⟨a1, a2⟩ <;> rcases h2 with ⟨b1, b2⟩ | ⟨b1, b2⟩
  · rcases Nat.lt_trichotomy r r' with e | e | e
    · have := b2 r e; rw [a1] at this; cases this
    · exact e
    · have := a2 r' e; rw [b1] at this; cases this
  · have := b1 r hr; rw [a1] at this; cases this
  · have := a1 r' hr'; rw [b1] at this; cases this
  · exact h.ageD r r' hr hr' (a1 r hr) (a1 r' hr') (by rw [a2, b2])
theorem GoodC.put_one {S W : Nat} {size : Int} {l : List Sm} (h : GoodC S W size l) {x : Lm} {o o' : List Sm × Lm × Bool × Int} (h1 : PutR S W size l x o) (h2 : PutR S W size l x o') : o = o' := by
  rcases h1 with ⟨n1, rfl⟩ | ⟨n1, s, r, hs, hr, hh, rfl⟩ | ⟨n1, hn, s, r, hs, hm, hp, rfl⟩ <;> rcases h2 with ⟨m1, rfl⟩ | ⟨m1, s', r', hs', hr', hh', rfl⟩ | ⟨m1, hn', s', r', hs', hm', hp', rfl⟩
  · rfl
  · rw [n1] at m1; cases m1
  · rw [n1] at m1; cases m1
  · rw [m1] at n1; cases n1
  · obtain ⟨rfl, rfl⟩ := h.hit_one hs hr hs' hr' hh hh'; rfl
  · exact absurd hh (h.hit_in hs hr hn')
  · rw [m1] at n1; cases n1
  · exact absurd hh' (h.hit_in hs' hr' hn)
  · have e : s = s' := by omega
    subst e
    obtain rfl := PutAt.one (h.sets s hs) hp hp'
    rfl
theorem GoodC.new {S W : Nat} {size : Int} (h : sizedB S W size = true) : GoodC S W size (List.replicate (S * W) zSm) := by
  have h1 := of_decide_eq_true h
  refine ⟨by omega, by omega, by omega, by omega, by omega, by omega, List.length_replicate, fun s hs => ?_⟩
  have key : ∀ r, r < W → rowG W (List.replicate (S * W) zSm) s r = zSm := fun r hr => by
    have := set_in (W := W) hs (n := S * W) rfl
    unfold rowG
    rw [getElem!_pos _ _ (by rw [List.length_replicate]; omega), List.getElem_replicate]
  have hz : GoodSet S W size s (fun _ => zSm) := ⟨fun r _ hu => (nomatch hu), fun r _ _ => rfl, fun r _ hu => (nomatch hu), fun r _ hu => (nomatch hu), fun r r' _ _ hu => (nomatch hu), fun r r' _ _ hu => (nomatch hu), fun r _ hu => (nomatch hu), fun r _ hu => (nomatch hu)⟩
  exact hz.congr key
end Go.Proofs.Ytfmcicmbehjdcaa
