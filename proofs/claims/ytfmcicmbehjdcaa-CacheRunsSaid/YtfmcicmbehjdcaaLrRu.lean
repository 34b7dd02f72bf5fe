/- Plain law of CacheRuns: the lines by their last use. -/
import Derived.Test.YtfmcicmbehjdcaaLrPl
namespace Go.Proofs.Ytfmcicmbehjdcaa
set_option linter.unusedSimpArgs false
set_option linter.unusedVariables false
open Go.RowKit

/-- Line m lies in the cache and has age a. -/
def Has (l : List Sm) (m : Lm) (a : Int) : Prop := ∃ j, j < l.length ∧ (l[j]!).u = true ∧ (l[j]!).ln = m ∧ (l[j]!).age = a
/-- The lines of the cache, the one that was used last at the end. -/
structure Runs (S : Nat) (l : List Sm) (ms : List Lm) : Prop where
  mem : ∀ m, m ∈ ms ↔ ∃ a, Has l m a
  ads : ms.Pairwise (fun (x y : Lm) => x.ad ≠ y.ad)
  ord : ms.Pairwise (fun (x y : Lm) => x.ad % (S : Int) = y.ad % (S : Int) → ∀ a b, Has l x a → Has l y b → b < a)
theorem Runs.new (S n : Nat) : Runs S (List.replicate n zSm) [] := by
  refine ⟨fun m => ⟨fun h => absurd h List.not_mem_nil, fun hh => ?_⟩, .nil, .nil⟩
  obtain ⟨a, j, hj, hu, -⟩ := hh
  rw [List.length_replicate] at hj
  rw [getElem!_pos _ j (by rw [List.length_replicate]; exact hj), List.getElem_replicate] at hu
  cases hu
theorem Has.hit {l : List Sm} {m : Lm} {a : Int} (h : Has l m a) : ∃ j, j < l.length ∧ Hit l m.ad j ∧ (l[j]!).ln = m ∧ (l[j]!).age = a := by
  obtain ⟨j, hj, hu, rfl, ha⟩ := h
  exact ⟨j, hj, ⟨hu, rfl⟩, rfl, ha⟩
section
variable {S W : Nat} {size : Int} {l : List Sm}
theorem GoodC.has_ad (h : GoodC S W size l) {m m' : Lm} {a b : Int} (h1 : Has l m a) (h2 : Has l m' b) (e : m.ad = m'.ad) : m = m' ∧ a = b := by
  obtain ⟨j, hj, hh, rfl, rfl⟩ := h1.hit
  obtain ⟨j', hj', hh', rfl, rfl⟩ := h2.hit
  obtain rfl := h.hit_j hj hj' hh (by rw [e]; exact hh')
  exact ⟨rfl, rfl⟩
theorem GoodC.has_age (h : GoodC S W size l) {m m' : Lm} {a b : Int} (h1 : Has l m a) (h2 : Has l m' b) (e : m.ad % (S : Int) = m'.ad % (S : Int)) (ea : a = b) : m = m' := by
  obtain ⟨j, hj, hh, rfl, rfl⟩ := h1.hit
  obtain ⟨j', hj', hh', rfl, rfl⟩ := h2.hit
  obtain ⟨c1, c2, c3⟩ := h.coord hj
  obtain ⟨d1, d2, d3⟩ := h.coord hj'
  have m1 := h.hit_set c1 c2 (by rw [c3]; exact hh)
  have m2 := h.hit_set d1 d2 (by rw [d3]; exact hh')
  have es : j / W = j' / W := by omega
  have r1 : rowG W l (j / W) (j % W) = l[j]! := by unfold rowG; rw [c3]
  have r2 : rowG W l (j / W) (j' % W) = l[j']! := by unfold rowG; rw [es, d3]
  have := (h.sets _ c1).ageD (j % W) (j' % W) c2 d2 (by rw [r1]; exact hh.1) (by rw [r2]; exact hh'.1) (by rw [r1, r2]; exact ea)
  have e2 : j = j' := by rw [← c3, ← d3, ← es, this]
  rw [e2]
theorem GoodC.has_range (h : GoodC S W size l) {m : Lm} {a : Int} (h1 : Has l m a) : 0 ≤ a ∧ a < W := by
  obtain ⟨j, hj, hh, rfl, rfl⟩ := h1.hit
  obtain ⟨c1, c2, c3⟩ := h.coord hj
  have r1 : rowG W l (j / W) (j % W) = l[j]! := by unfold rowG; rw [c3]
  have g := h.sets _ c1
  have := g.age0 _ c2 (by rw [r1]; exact hh.1)
  have := (g.ageU _ c2 (by rw [r1]; exact hh.1)).1
  rw [r1] at *
  exact ⟨by assumption, by assumption⟩
/-- What happens to the lines that stay: their order in their sets. -/
def Keeps (S : Nat) (l l' : List Sm) (ms : List Lm) : Prop := ∀ x y, x ∈ ms → y ∈ ms → x.ad ≠ y.ad → x.ad % (S : Int) = y.ad % (S : Int) → ∀ a b a' b', Has l x a → Has l y b → Has l' x a' → Has l' y b' → b < a → b' < a'
theorem Runs.keep {l' : List Sm} {ms ks : List Lm} (h : Runs S l ms) (hs : ks.Sublist ms) (hk : Keeps S l l' ks) : ks.Pairwise (fun (x y : Lm) => x.ad % (S : Int) = y.ad % (S : Int) → ∀ a b, Has l' x a → Has l' y b → b < a) := by
  have h1 := (h.ord.sublist hs).and (h.ads.sublist hs)
  refine List.Pairwise.imp_of_mem ?_ h1
  intro x y hx hy hxy he a' b' ha hb
  obtain ⟨a, h2⟩ := (h.mem x).1 (hs.subset hx)
  obtain ⟨b, h3⟩ := (h.mem y).1 (hs.subset hy)
  exact hk x y hx hy hxy.2 he a b a' b' h2 h3 ha hb (hxy.1 he a b h2 h3)
/-- A line goes. -/
theorem Runs.drop {l' : List Sm} {A B : List Lm} {x : Lm} (h : Runs S l (A ++ x :: B)) (hm : ∀ m, (∃ a, Has l' m a) ↔ m ≠ x ∧ ∃ a, Has l m a) (hk : Keeps S l l' (A ++ B)) : Runs S l' (A ++ B) := by
  have hs : (A ++ B).Sublist (A ++ x :: B) := List.Sublist.append (List.Sublist.refl A) (List.sublist_cons_self x B)
  refine ⟨fun m => ?_, h.ads.sublist hs, h.keep hs hk⟩
  rw [hm m, ← h.mem m]
  have hx : x ∉ A ++ B := fun hx => by
    have h2 := List.pairwise_append.1 h.ads
    rcases List.mem_append.1 hx with hx | hx
    · exact h2.2.2 x hx x List.mem_cons_self rfl
    · exact (List.pairwise_cons.1 h2.2.1).1 x hx rfl
  constructor
  · intro hh
    exact ⟨fun e => hx (e ▸ hh), hs.subset hh⟩
  · rintro ⟨h1, h2⟩
    rcases List.mem_append.1 h2 with h2 | h2
    · exact List.mem_append_left _ h2
    · rcases List.mem_cons.1 h2 with h2 | h2
      · exact absurd h2 h1
      · exact List.mem_append_right _ h2
/-- A line is used, or put, and is the youngest one. -/
theorem Runs.young {l' : List Sm} {ks ms : List Lm} {z : Lm} (h : Runs S l ms) (hs : ks.Sublist ms) (hm : ∀ m, (∃ a, Has l' m a) ↔ m = z ∨ m ∈ ks) (hz : ∀ m, m ∈ ks → m.ad ≠ z.ad) (h0 : ∀ a, Has l' z a → a = 0) (hp : ∀ m a, m ∈ ks → m.ad % (S : Int) = z.ad % (S : Int) → Has l' m a → 0 < a) (hk : Keeps S l l' ks) : Runs S l' (ks ++ [z]) := by
  refine ⟨fun m => ?_, ?_, ?_⟩
  · rw [hm m, List.mem_append, List.mem_singleton]
    exact Or.comm
  · refine List.pairwise_append.2 ⟨h.ads.sublist hs, List.pairwise_singleton _ _, fun m hm' y hy => ?_⟩
    rw [List.mem_singleton.1 hy]
    exact hz m hm'
  · refine List.pairwise_append.2 ⟨h.keep hs hk, List.pairwise_singleton _ _, fun m hm' y hy => ?_⟩
    obtain rfl := List.mem_singleton.1 hy
    intro e a b ha hb
    rw [h0 b hb]
    exact hp m a hm' e ha
theorem GoodC.has_at (h : GoodC S W size l) {s : Nat} (hs : s < S) {m : Lm} {a : Int} (h1 : Has l m a) :
    (m.ad % (S : Int) = s ∧ ∃ t, t < W ∧ (rowG W l s t).u = true ∧ (rowG W l s t).ln = m ∧ (rowG W l s t).age = a) ∨ (m.ad % (S : Int) ≠ s ∧ ∃ j, j < l.length ∧ ¬ (s * W ≤ j ∧ j < s * W + W) ∧ (l[j]!).u = true ∧ (l[j]!).ln = m ∧ (l[j]!).age = a) := by
  obtain ⟨j, hj, hh, rfl, rfl⟩ := h1.hit
  obtain ⟨c1, c2, c3⟩ := h.coord hj
  have m1 := h.hit_set c1 c2 (by rw [c3]; exact hh)
  by_cases e : j / W = s
  · refine .inl ⟨by rw [m1, e], j % W, c2, ?_⟩
    have r1 : rowG W l s (j % W) = l[j]! := by unfold rowG; rw [← e, c3]
    rw [r1]
    exact ⟨hh.1, rfl, rfl⟩
  · refine .inr ⟨by rw [m1]; omega, j, hj, fun hc => e ?_, hh.1, rfl, rfl⟩
    have hW := h.W1
    rw [Nat.div_eq_of_lt_le (k := s) hc.1 (by rw [Nat.add_mul, Nat.one_mul]; exact hc.2)]
theorem has_onSet_in {s : Nat} (hf : s * W + W ≤ l.length) (g : Nat → Sm) {t : Nat} (ht : t < W) (hu : (g t).u = true) : Has (onSet W s l g) (g t).ln (g t).age := by
  have := onSet_same (g := g) hf ht
  unfold rowG at this
  exact ⟨s * W + t, by rw [onSet_len]; omega, by rw [this]; exact hu, by rw [this], by rw [this]⟩
theorem has_onSet_out {s : Nat} (g : Nat → Sm) {j : Nat} (hj : j < l.length) (hn : ¬ (s * W ≤ j ∧ j < s * W + W)) (hu : (l[j]!).u = true) : Has (onSet W s l g) (l[j]!).ln (l[j]!).age := by
  have e : (onSet W s l g)[j]! = l[j]! := by rw [onSet_get hj, if_neg hn]
  exact ⟨j, by rw [onSet_len]; exact hj, by rw [e]; exact hu, by rw [e], by rw [e]⟩
theorem has_onSet {s : Nat} {g : Nat → Sm} {m : Lm} {a : Int} (h : Has (onSet W s l g) m a) : (∃ t, t < W ∧ (g t).u = true ∧ (g t).ln = m ∧ (g t).age = a) ∨ (∃ j, j < l.length ∧ ¬ (s * W ≤ j ∧ j < s * W + W) ∧ (l[j]!).u = true ∧ (l[j]!).ln = m ∧ (l[j]!).age = a) := by
  obtain ⟨j, hj, hu, hm, ha⟩ := h
  rw [onSet_len] at hj
  rw [onSet_get hj] at hu hm ha
  by_cases c : s * W ≤ j ∧ j < s * W + W
  · rw [if_pos c] at hu hm ha
    exact .inl ⟨j - s * W, by omega, hu, hm, ha⟩
  · rw [if_neg c] at hu hm ha
    exact .inr ⟨j, hj, c, hu, hm, ha⟩
theorem GoodC.has_out (h : GoodC S W size l) {s : Nat} {j : Nat} (hj : j < l.length) (hn : ¬ (s * W ≤ j ∧ j < s * W + W)) (hu : (l[j]!).u = true) : (l[j]!).ln.ad % (S : Int) ≠ s := by
  obtain ⟨c1, c2, c3⟩ := h.coord hj
  have m1 := h.hit_set c1 c2 (a := (l[j]!).ln.ad) (by rw [c3]; exact ⟨hu, rfl⟩)
  rw [m1]
  intro e
  have e2 : j / W = s := by omega
  rw [e2] at c3
  exact hn ⟨by omega, by omega⟩
/-- What a slot's use leaves of the others. -/
theorem use_keeps (h : GoodC S W size l) {s r : Nat} (hs : s < S) (hr : r < W) {x z : Lm} (hx : (rowG W l s r).ln = x) (hu : (rowG W l s r).u = true) (hz : z.ad = x.ad) (h' : GoodC S W size (onSet W s l (useG (lnG (rowG W l s) r z) r))) {ks : List Lm} (hk : ∀ m ∈ ks, m.ad ≠ z.ad) : Keeps S l (onSet W s l (useG (lnG (rowG W l s) r z) r)) ks := by
  have key : ∀ m a a', m ∈ ks → Has l m a → Has (onSet W s l (useG (lnG (rowG W l s) r z) r)) m a' → (m.ad % (S : Int) ≠ s ∧ a' = a) ∨ (m.ad % (S : Int) = s ∧ ((a < (rowG W l s r).age ∧ a' = a + 1) ∨ ((rowG W l s r).age < a ∧ a' = a))) := by
    intro m a a' hm h1 h2
    rcases h.has_at hs h1 with ⟨e, t, ht, hut, rfl, rfl⟩ | ⟨e, j, hj, hn, huj, rfl, rfl⟩
    · refine .inr ⟨e, ?_⟩
      have htr : t ≠ r := fun e2 => hk _ hm (by rw [e2, hx, hz])
      have hl : lnG (rowG W l s) r z t = rowG W l s t := by unfold lnG; rw [if_neg htr]
      have hlr : (lnG (rowG W l s) r z r).age = (rowG W l s r).age := by unfold lnG; rw [if_pos rfl]
      have h3 := has_onSet_in (h.fits hs) (useG (lnG (rowG W l s) r z) r) ht (by rw [useG_u, hl]; exact hut)
      rw [useG_ln, hl] at h3
      have ea := (h'.has_ad h2 h3 rfl).2
      have hne : (rowG W l s t).age ≠ (rowG W l s r).age := fun e2 => htr ((h.sets s hs).ageD t r ht hr hut hu e2)
      rcases useG_age (lnG (rowG W l s) r z) r t (by rw [hl]; exact hut) with ⟨e3, -⟩ | ⟨-, e3, e4⟩ | ⟨-, e3, e4⟩
      · exact absurd e3 htr
      · rw [hl, hlr] at e3; rw [hl] at e4; exact .inl ⟨e3, by rw [ea, e4]⟩
      · rw [hl, hlr] at e3; rw [hl] at e4; exact .inr ⟨by omega, by rw [ea, e4]⟩
    · exact .inl ⟨e, (h'.has_ad h2 (has_onSet_out _ hj hn huj) rfl).2⟩
  intro p q hp hq hpq he a b a' b' h1 h2 h3 h4 hab
  have k1 := key p a a' hp h1 h3
  have k2 := key q b b' hq h2 h4
  omega
theorem mid_sub {A B : List Lm} {x : Lm} : (A ++ B).Sublist (A ++ x :: B) := List.Sublist.append (List.Sublist.refl A) (List.sublist_cons_self x B)
theorem Runs.mid_ad {A B : List Lm} {x : Lm} (h : Runs S l (A ++ x :: B)) : ∀ m ∈ A ++ B, m.ad ≠ x.ad := fun m hm => by
  have h2 := List.pairwise_append.1 h.ads
  rcases List.mem_append.1 hm with hm | hm
  · exact h2.2.2 m hm x List.mem_cons_self
  · exact fun e => (List.pairwise_cons.1 h2.2.1).1 m hm e.symm
theorem mid_of {A B : List Lm} {x m : Lm} (h : m ∈ A ++ x :: B) (hn : m ≠ x) : m ∈ A ++ B := by
  rcases List.mem_append.1 h with h | h
  · exact List.mem_append_left _ h
  · rcases List.mem_cons.1 h with h | h
    · exact absurd h hn
    · exact List.mem_append_right _ h
/-- A slot is used, its line stored over or not: its line is the youngest one. -/
theorem runs_use (h : GoodC S W size l) {A B : List Lm} {x z : Lm} (hR : Runs S l (A ++ x :: B)) {s r : Nat} (hs : s < S) (hr : r < W) (hx : (rowG W l s r).ln = x) (hu : (rowG W l s r).u = true) (hz : z.ad = x.ad) (h' : GoodC S W size (onSet W s l (useG (lnG (rowG W l s) r z) r))) : Runs S (onSet W s l (useG (lnG (rowG W l s) r z) r)) (A ++ B ++ [z]) := by
  have hlr : ∀ t, t ≠ r → lnG (rowG W l s) r z t = rowG W l s t := fun t ht => by unfold lnG; rw [if_neg ht]
  have hrr : lnG (rowG W l s) r z r = ⟨true, (rowG W l s r).age, z⟩ := by unfold lnG; rw [if_pos rfl, hu]
  have hxs : x.ad % (S : Int) = s := by
    have := (h.sets s hs).mod r hr hu
    rwa [hx] at this
  have hzin : Has (onSet W s l (useG (lnG (rowG W l s) r z) r)) z 0 := by
    have h3 := has_onSet_in (h.fits hs) (useG (lnG (rowG W l s) r z) r) hr (by rw [useG_u, hrr])
    have e : useG (lnG (rowG W l s) r z) r r = ⟨true, 0, z⟩ := by unfold useG; rw [if_pos rfl, hrr]
    rwa [e] at h3
  have hma : ∀ m ∈ A ++ B, m.ad ≠ z.ad := fun m hm => by rw [hz]; exact hR.mid_ad m hm
  refine hR.young mid_sub (fun m => ⟨?_, ?_⟩) hma (fun a ha => (h'.has_ad ha hzin rfl).2) (fun m a hm e ha => ?_) (use_keeps h hs hr hx hu hz h' hma)
  · rintro ⟨a', ha⟩
    rcases has_onSet ha with ⟨t, ht, hut, rfl, -⟩ | ⟨j, hj, hn, huj, rfl, -⟩
    · by_cases e : t = r
      · left
        rw [useG_ln, e, hrr]
      · right
        rw [useG_u, hlr t e] at hut
        rw [useG_ln, hlr t e]
        refine mid_of ((hR.mem _).2 ⟨_, s * W + t, by have := h.fits hs; omega, hut, rfl, rfl⟩) fun e2 => e ?_
        exact (h.sets s hs).adD t r ht hr hut hu (by rw [hx]; exact congrArg Lm.ad e2)
    · right
      refine mid_of ((hR.mem _).2 ⟨_, j, hj, huj, rfl, rfl⟩) fun e2 => ?_
      have := h.has_out hj hn huj
      rw [e2] at this
      exact this hxs
  · rintro (rfl | hm)
    · exact ⟨0, hzin⟩
    · obtain ⟨a, ha⟩ := (hR.mem m).1 (mid_sub.subset hm)
      rcases h.has_at hs ha with ⟨-, t, ht, hut, rfl, -⟩ | ⟨-, j, hj, hn, huj, rfl, -⟩
      · have e : t ≠ r := fun e => hR.mid_ad _ hm (by rw [e, hx])
        have h3 := has_onSet_in (h.fits hs) (useG (lnG (rowG W l s) r z) r) ht (by rw [useG_u, hlr t e]; exact hut)
        rw [useG_ln, hlr t e] at h3
        exact ⟨_, h3⟩
      · exact ⟨_, has_onSet_out _ hj hn huj⟩
  · have h0 := (h'.has_range ha).1
    have h1 : a ≠ 0 := fun e2 => hma m hm (by rw [h'.has_age ha hzin e e2])
    omega
theorem hit_of {S : Nat} {l : List Sm} {ms : List Lm} (hR : Runs S l ms) {x : Lm} (hx : x ∈ ms) : ∃ j, j < l.length ∧ Hit l x.ad j ∧ (l[j]!).ln = x := by
  obtain ⟨a, ha⟩ := (hR.mem x).1 hx
  obtain ⟨j, h1, h2, h3, -⟩ := ha.hit
  exact ⟨j, h1, h2, h3⟩
theorem lnG_id {g : Nat → Sm} {r : Nat} {x : Lm} (h : (g r).ln = x) : lnG g r x = g := by
  funext t
  unfold lnG
  by_cases e : t = r
  · rw [if_pos e, e, ← h]
  · rw [if_neg e]
/-- Get, where the line is there. -/
theorem runs_get (h : GoodC S W size l) {A B : List Lm} {x : Lm} (hR : Runs S l (A ++ x :: B)) {o : List Sm × Lm × Bool} (ho : GetR S W l x.ad o) : o.2.2 = true ∧ o.2.1 = x ∧ Runs S o.1 (A ++ B ++ [x]) := by
  have hg' := h.get ho
  obtain ⟨j, hj, hh, hl⟩ := hit_of hR (x := x) (List.mem_append_right _ List.mem_cons_self)
  rcases ho with ⟨hn, rfl⟩ | ⟨s, r, hs, hr, hh2, rfl⟩
  · exact absurd hh (hn j hj)
  · have hlt : s * W + r < l.length := by have := h.fits hs; omega
    obtain rfl := h.hit_j hj hlt hh hh2
    refine ⟨rfl, hl, ?_⟩
    have hx : (rowG W l s r).ln = x := hl
    have e := lnG_id (g := rowG W l s) hx
    have := runs_use h hR hs hr hx hh2.1 rfl (by rw [e]; exact hg')
    rw [e] at this
    exact this
/-- Get, Drop, where the line is not there. -/
theorem runs_miss {ms : List Lm} (hR : Runs S l ms) {a : Int} (hn : ∀ m ∈ ms, m.ad ≠ a) : ∀ k, k < l.length → ¬ Hit l a k := fun k hk hh =>
  hn (l[k]!).ln ((hR.mem _).2 ⟨_, k, hk, hh.1, rfl, rfl⟩) hh.2
theorem decG_uln (a : Int) (q : Sm) : (decG a q).u = q.u ∧ (decG a q).ln = q.ln := by
  unfold decG
  split <;> exact ⟨rfl, rfl⟩
theorem drop_has (h : GoodC S W size l) {s r t : Nat} (hs : s < S) (hr : r < W) (ht : t < W) (hn : t ≠ r) (hu : (rowG W l s t).u = true) : Has (onSet W s l (dropG W (rowG W l s) r)) (rowG W l s t).ln (decG (rowG W l s r).age (rowG W l s t)).age := by
  have hd := decG_uln (rowG W l s r).age (rowG W l s t)
  by_cases c : t < r
  · have e : dropG W (rowG W l s) r t = decG (rowG W l s r).age (rowG W l s t) := by unfold dropG; rw [if_pos c]
    have h3 := has_onSet_in (h.fits hs) (dropG W (rowG W l s) r) ht (by rw [e, hd.1]; exact hu)
    rwa [e, hd.2] at h3
  · have e : dropG W (rowG W l s) r (t - 1) = decG (rowG W l s r).age (rowG W l s t) := by
      unfold dropG
      rw [if_neg (by omega), if_pos (by omega), show t - 1 + 1 = t by omega]
    have h3 := has_onSet_in (h.fits hs) (dropG W (rowG W l s) r) (t := t - 1) (by omega) (by rw [e, hd.1]; exact hu)
    rwa [e, hd.2] at h3
theorem drop_from (h : GoodC S W size l) {s r : Nat} (hs : s < S) (hr : r < W) {m : Lm} {a : Int} (hh : Has (onSet W s l (dropG W (rowG W l s) r)) m a) : (∃ t, t < W ∧ t ≠ r ∧ (rowG W l s t).u = true ∧ (rowG W l s t).ln = m) ∨ (∃ j, j < l.length ∧ ¬ (s * W ≤ j ∧ j < s * W + W) ∧ (l[j]!).u = true ∧ (l[j]!).ln = m) := by
  rcases has_onSet hh with ⟨t, ht, hu, hm, -⟩ | ⟨j, hj, hn, hu, hm, -⟩
  · left
    unfold dropG at hu hm
    by_cases c : t < r
    · rw [if_pos c] at hu hm
      have hd := decG_uln (rowG W l s r).age (rowG W l s t)
      exact ⟨t, ht, by omega, by rw [← hd.1]; exact hu, by rw [← hd.2]; exact hm⟩
    · rw [if_neg c] at hu hm
      by_cases c2 : t + 1 < W
      · rw [if_pos c2] at hu hm
        have hd := decG_uln (rowG W l s r).age (rowG W l s (t + 1))
        exact ⟨t + 1, c2, by omega, by rw [← hd.1]; exact hu, by rw [← hd.2]; exact hm⟩
      · rw [if_neg c2] at hu
        rw [(decG_uln (rowG W l s r).age zSm).1] at hu
        cases hu
  · exact .inr ⟨j, hj, hn, hu, hm⟩
/-- Drop, where the line is there. -/
theorem runs_drop (h : GoodC S W size l) {A B : List Lm} {x : Lm} (hR : Runs S l (A ++ x :: B)) {o : List Sm × Lm × Bool} (ho : DropR S W l x.ad o) : o.2.2 = true ∧ o.2.1 = x ∧ Runs S o.1 (A ++ B) := by
  have hg' := h.drop ho
  obtain ⟨j, hj, hh, hl⟩ := hit_of hR (x := x) (List.mem_append_right _ List.mem_cons_self)
  rcases ho with ⟨hn, rfl⟩ | ⟨s, r, hs, hr, hh2, rfl⟩
  · exact absurd hh (hn j hj)
  · have hlt : s * W + r < l.length := by have := h.fits hs; omega
    obtain rfl := h.hit_j hj hlt hh hh2
    refine ⟨rfl, hl, ?_⟩
    have hx : (rowG W l s r).ln = x := hl
    have hu : (rowG W l s r).u = true := hh2.1
    have hxs : x.ad % (S : Int) = s := by
      have := (h.sets s hs).mod r hr hu
      rwa [hx] at this
    have hma := hR.mid_ad
    dsimp only at hg' ⊢
    refine hR.drop (fun m => ⟨?_, ?_⟩) ?_
    · rintro ⟨a, ha⟩
      rcases drop_from h hs hr ha with ⟨t, ht, htr, hut, rfl⟩ | ⟨j, hj, hn, huj, rfl⟩
      · exact ⟨fun e => htr ((h.sets s hs).adD t r ht hr hut hu (by rw [hx]; exact congrArg Lm.ad e)), _, s * W + t, by have := h.fits hs; omega, hut, rfl, rfl⟩
      · refine ⟨fun e => ?_, _, j, hj, huj, rfl, rfl⟩
        have := h.has_out hj hn huj
        rw [e] at this
        exact this hxs
    · rintro ⟨hmx, a, ha⟩
      rcases h.has_at hs ha with ⟨-, t, ht, hut, rfl, -⟩ | ⟨-, j, hj, hn, huj, rfl, -⟩
      · exact ⟨_, drop_has h hs hr ht (fun e => hmx (by rw [e, hx])) hut⟩
      · exact ⟨_, has_onSet_out _ hj hn huj⟩
    · have key : ∀ m a a', m ∈ A ++ B → Has l m a → Has (onSet W s l (dropG W (rowG W l s) r)) m a' → (m.ad % (S : Int) ≠ s ∧ a' = a) ∨ (m.ad % (S : Int) = s ∧ ((a < (rowG W l s r).age ∧ a' = a) ∨ ((rowG W l s r).age < a ∧ a' = a - 1))) := by
        intro m a a' hm h1 h2
        rcases h.has_at hs h1 with ⟨e, t, ht, hut, rfl, rfl⟩ | ⟨e, j, hj, hn, huj, rfl, rfl⟩
        · have htr : t ≠ r := fun e2 => hma _ hm (by rw [e2, hx])
          have ea := (hg'.has_ad h2 (drop_has h hs hr ht htr hut) rfl).2
          have hne : (rowG W l s t).age ≠ (rowG W l s r).age := fun e2 => htr ((h.sets s hs).ageD t r ht hr hut hu e2)
          refine .inr ⟨e, ?_⟩
          unfold decG at ea
          by_cases c : (rowG W l s r).age < (rowG W l s t).age
          · rw [if_pos ⟨hut, c⟩] at ea
            exact .inr ⟨c, ea⟩
          · rw [if_neg (fun hc => c hc.2)] at ea
            exact .inl ⟨by omega, ea⟩
        · exact .inl ⟨e, (hg'.has_ad h2 (has_onSet_out _ hj hn huj) rfl).2⟩
      intro p q hp hq hpq he a b a' b' h1 h2 h3 h4 hab
      have k1 := key p a a' hp h1 h3
      have k2 := key q b b' hq h2 h4
      omega
theorem putG_at (g : Nat → Sm) (r : Nat) (z : Lm) : putG g r z r = ⟨true, 0, z⟩ := by unfold putG; rw [if_pos rfl]
theorem putG_old (g : Nat → Sm) {r t : Nat} (z : Lm) (h : t ≠ r) (hu : (g t).u = true) : putG g r z t = ⟨true, (g t).age + 1, (g t).ln⟩ := by unfold putG; rw [if_neg h, if_pos hu, hu]
theorem putG_no (g : Nat → Sm) {r t : Nat} (z : Lm) (h : t ≠ r) (hu : ¬ (g t).u = true) : putG g r z t = g t := by unfold putG; rw [if_neg h, if_neg hu]
/-- A new line, in place of what lay in its slot. -/
theorem runs_new (h : GoodC S W size l) {ms ks : List Lm} {z : Lm} (hR : Runs S l ms) {s r : Nat} (hs : s < S) (hr : r < W) (hsub : ks.Sublist ms) (hks : ∀ m, m ∈ ks ↔ m ∈ ms ∧ ((rowG W l s r).u = true → m ≠ (rowG W l s r).ln)) (hz : ∀ m, m ∈ ks → m.ad ≠ z.ad) (h' : GoodC S W size (onSet W s l (putG (rowG W l s) r z))) : Runs S (onSet W s l (putG (rowG W l s) r z)) (ks ++ [z]) := by
  have hzin : Has (onSet W s l (putG (rowG W l s) r z)) z 0 := by
    have h3 := has_onSet_in (h.fits hs) (putG (rowG W l s) r z) hr (by rw [putG_at])
    rwa [putG_at] at h3
  have hold : ∀ t, t < W → t ≠ r → (rowG W l s t).u = true → Has (onSet W s l (putG (rowG W l s) r z)) (rowG W l s t).ln ((rowG W l s t).age + 1) := fun t ht hn hu => by
    have h3 := has_onSet_in (h.fits hs) (putG (rowG W l s) r z) ht (by rw [putG_old _ z hn hu])
    rwa [putG_old _ z hn hu] at h3
  have hne : ∀ t, t < W → (rowG W l s t).u = true → (rowG W l s t).ln ∈ ks → t ≠ r := fun t ht hu hm e => by
    have := ((hks _).1 hm).2 (by rw [← e]; exact hu)
    rw [e] at this
    exact this rfl
  refine hR.young hsub (fun m => ⟨?_, ?_⟩) hz (fun a ha => (h'.has_ad ha hzin rfl).2) (fun m a hm e ha => ?_) ?_
  · rintro ⟨a, ha⟩
    rcases has_onSet ha with ⟨t, ht, hut, rfl, -⟩ | ⟨j, hj, hn, huj, rfl, -⟩
    · by_cases e : t = r
      · left; rw [e, putG_at]
      · right
        by_cases hu : (rowG W l s t).u = true
        · rw [putG_old _ z e hu]
          refine (hks _).2 ⟨(hR.mem _).2 ⟨_, s * W + t, by have := h.fits hs; omega, hu, rfl, rfl⟩, fun hur e2 => e ?_⟩
          exact (h.sets s hs).adD t r ht hr hu hur (congrArg Lm.ad e2)
        · rw [putG_no _ z e hu] at hut
          exact absurd hut hu
    · right
      refine (hks _).2 ⟨(hR.mem _).2 ⟨_, j, hj, huj, rfl, rfl⟩, fun hur e2 => ?_⟩
      have := h.has_out hj hn huj
      rw [e2] at this
      exact this ((h.sets s hs).mod r hr hur)
  · rintro (rfl | hm)
    · exact ⟨0, hzin⟩
    · obtain ⟨a, ha⟩ := (hR.mem m).1 (hsub.subset hm)
      rcases h.has_at hs ha with ⟨-, t, ht, hut, rfl, -⟩ | ⟨-, j, hj, hn, huj, rfl, -⟩
      · exact ⟨_, hold t ht (hne t ht hut hm) hut⟩
      · exact ⟨_, has_onSet_out _ hj hn huj⟩
  · have h0 := (h'.has_range ha).1
    have h1 : a ≠ 0 := fun e2 => hz m hm (by rw [h'.has_age ha hzin e e2])
    omega
  · have key : ∀ m a a', m ∈ ks → Has l m a → Has (onSet W s l (putG (rowG W l s) r z)) m a' → (m.ad % (S : Int) ≠ s ∧ a' = a) ∨ (m.ad % (S : Int) = s ∧ a' = a + 1) := by
      intro m a a' hm h1 h2
      rcases h.has_at hs h1 with ⟨e, t, ht, hut, rfl, rfl⟩ | ⟨e, j, hj, hn, huj, rfl, rfl⟩
      · exact .inr ⟨e, (h'.has_ad h2 (hold t ht (hne t ht hut hm) hut) rfl).2⟩
      · exact .inl ⟨e, (h'.has_ad h2 (has_onSet_out _ hj hn huj) rfl).2⟩
    intro p q hp hq hpq he a b a' b' h1 h2 h3 h4 hab
    have k1 := key p a a' hp h1 h3
    have k2 := key q b b' hq h2 h4
    omega
/-- As many of the lines lie in a set as slots of it are used. -/
theorem runs_count (h : GoodC S W size l) {ms : List Lm} (hR : Runs S l ms) {s : Nat} (hs : s < S) : (ms.filter (fun m => decide (m.ad % (S : Int) = s))).length = ((List.range W).filter (fun t => (rowG W l s t).u)).length := by
  have hlm : (((List.range W).filter (fun t => (rowG W l s t).u)).map (fun t => (rowG W l s t).ln)).length = ((List.range W).filter (fun t => (rowG W l s t).u)).length := List.length_map _
  rw [← hlm]
  refine List.Perm.length_eq ((List.perm_ext_iff_of_nodup ?_ ?_).2 fun m => ?_)
  · exact (hR.ads.sublist List.filter_sublist).imp fun h e => h (congrArg Lm.ad e)
  · refine List.pairwise_map.2 ?_
    have h1 := (List.pairwise_lt_range (n := W)).sublist (List.filter_sublist (p := fun t => (rowG W l s t).u))
    refine List.Pairwise.imp_of_mem ?_ h1
    intro t u ht hu htu e
    obtain ⟨t1, t2⟩ := List.mem_filter.1 ht
    obtain ⟨u1, u2⟩ := List.mem_filter.1 hu
    have := (h.sets s hs).adD t u (List.mem_range.1 t1) (List.mem_range.1 u1) t2 u2 (congrArg Lm.ad e)
    omega
  · rw [List.mem_filter, List.mem_map]
    constructor
    · rintro ⟨hm, hd⟩
      obtain ⟨a, ha⟩ := (hR.mem m).1 hm
      rcases h.has_at hs ha with ⟨-, t, ht, hut, rfl, -⟩ | ⟨e, -⟩
      · exact ⟨t, List.mem_filter.2 ⟨List.mem_range.2 ht, hut⟩, rfl⟩
      · exact absurd (of_decide_eq_true hd) e
    · rintro ⟨t, ht, rfl⟩
      obtain ⟨t1, t2⟩ := List.mem_filter.1 ht
      have t3 := List.mem_range.1 t1
      exact ⟨(hR.mem _).2 ⟨_, s * W + t, by have := h.fits hs; omega, t2, rfl, rfl⟩, decide_eq_true ((h.sets s hs).mod t t3 t2)⟩
theorem count_full (h : GoodC S W size l) {ms : List Lm} (hR : Runs S l ms) {s : Nat} (hs : s < S) : (ms.filter (fun m => decide (m.ad % (S : Int) = s))).length = W ↔ ∀ t, t < W → (rowG W l s t).u = true := by
  rw [runs_count h hR hs]
  constructor
  · intro he t ht
    have : (List.range W).filter (fun t => (rowG W l s t).u) = List.range W := List.Sublist.eq_of_length List.filter_sublist (by rw [he, List.length_range])
    exact List.filter_eq_self.1 this t (List.mem_range.2 ht)
  · intro ha
    rw [List.filter_eq_self.2 fun t ht => ha t (List.mem_range.1 ht), List.length_range]
/-- The oldest line of a full set is the first one. -/
theorem runs_oldest (h : GoodC S W size l) {A B : List Lm} {v : Lm} (hR : Runs S l (A ++ v :: B)) {s r : Nat} (hs : s < S) (hr : r < W) (hu : (rowG W l s r).u = true) (hage : (rowG W l s r).age = (W : Int) - 1) (hA : ∀ m ∈ A, m.ad % (S : Int) ≠ s) (hv : v.ad % (S : Int) = s) : (rowG W l s r).ln = v := by
  have hx : Has l (rowG W l s r).ln (rowG W l s r).age := ⟨s * W + r, by have := h.fits hs; omega, hu, rfl, rfl⟩
  have hm := (hR.mem _).2 ⟨_, hx⟩
  have hmod := (h.sets s hs).mod r hr hu
  rcases List.mem_append.1 hm with hm | hm
  · exact absurd hmod (hA _ hm)
  · rcases List.mem_cons.1 hm with hm | hm
    · exact hm
    · exfalso
      obtain ⟨a, ha⟩ := (hR.mem v).1 (List.mem_append_right _ List.mem_cons_self)
      have h1 := (List.pairwise_cons.1 (List.pairwise_append.1 hR.ord).2.1).1 _ hm (by rw [hv, hmod]) a _ ha hx
      have := (h.has_range ha).2
      omega
/-- Put. -/
theorem runs_put_hit (h : GoodC S W size l) {A B : List Lm} {x z : Lm} (hR : Runs S l (A ++ x :: B)) (he : x.ad = z.ad) (hl : lineB size z = true) {o : List Sm × Lm × Bool × Int} (ho : PutR S W size l z o) : o.2.2.1 = false ∧ o.2.2.2 = 0 ∧ Runs S o.1 (A ++ B ++ [z]) := by
  have hg' := h.put ho
  obtain ⟨j, hj, hh, hl2⟩ := hit_of hR (x := x) (List.mem_append_right _ List.mem_cons_self)
  rw [he] at hh
  rcases ho with ⟨n1, rfl⟩ | ⟨-, s, r, hs, hr, hh2, rfl⟩ | ⟨-, hn, -⟩
  · rw [hl] at n1; cases n1
  · have hlt : s * W + r < l.length := by have := h.fits hs; omega
    obtain rfl := h.hit_j hj hlt hh hh2
    exact ⟨rfl, rfl, runs_use h hR hs hr hl2 hh2.1 he.symm hg'⟩
  · exact absurd hh (hn j hj)
theorem runs_put_new (h : GoodC S W size l) {ms : List Lm} {z : Lm} (hR : Runs S l ms) (hne : ∀ m ∈ ms, m.ad ≠ z.ad) (hl : lineB size z = true) {o : List Sm × Lm × Bool × Int} (ho : PutR S W size l z o) :
    o.2.2.2 = 0 ∧ (o.2.2.1 = true ↔ (ms.filter (fun m => decide (m.ad % (S : Int) = z.ad % (S : Int)))).length = W) ∧ (o.2.2.1 = false → Runs S o.1 (ms ++ [z])) ∧ (o.2.2.1 = true → ∀ A v B, ms = A ++ v :: B → (∀ m ∈ A, m.ad % (S : Int) ≠ z.ad % (S : Int)) → v.ad % (S : Int) = z.ad % (S : Int) → o.2.1 = v ∧ Runs S o.1 (A ++ B ++ [z])) := by
  have hg' := h.put ho
  rcases ho with ⟨n1, rfl⟩ | ⟨-, s, r, hs, hr, hh2, rfl⟩ | ⟨-, hn, s, r, hs, hm, hp, rfl⟩
  · rw [hl] at n1; cases n1
  · exact absurd hh2 (runs_miss hR hne _ (by have := h.fits hs; omega))
  · dsimp only at hg' ⊢
    have hr := hp.1
    refine ⟨rfl, ?_, ?_, ?_⟩
    · rw [hm, count_full h hR hs]
      rcases hp.2 with ⟨hu, -⟩ | ⟨hall, -⟩
      · exact ⟨fun e => (by rw [hu] at e; cases e), fun ha => ha r hr⟩
      · exact ⟨fun _ => hall, fun _ => hall r hr⟩
    · intro hu
      exact runs_new h hR hs hr (List.Sublist.refl _) (fun m => ⟨fun hm => ⟨hm, fun e => by rw [hu] at e; cases e⟩, fun hm => hm.1⟩) hne hg'
    · intro hu A v B hms hA hv
      subst hms
      rcases hp.2 with ⟨hu2, -⟩ | ⟨hall, hage⟩
      · rw [hu] at hu2; cases hu2
      · have hv2 := runs_oldest h hR hs hr hu hage (fun m hmA => by rw [← hm]; exact hA m hmA) (by rw [← hm]; exact hv)
        refine ⟨by rw [if_pos hu]; exact hv2, ?_⟩
        refine runs_new h hR hs hr mid_sub (fun m => ⟨fun hm => ⟨mid_sub.subset hm, fun _ e => hR.mid_ad m hm (by rw [e, hv2])⟩, fun hm => mid_of hm.1 (by rw [← hv2]; exact hm.2 hu)⟩) (fun m hm => hne m (mid_sub.subset hm)) hg'
end
end Go.Proofs.Ytfmcicmbehjdcaa
