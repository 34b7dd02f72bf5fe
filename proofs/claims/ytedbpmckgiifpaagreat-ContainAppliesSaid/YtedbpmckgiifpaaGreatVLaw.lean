/- Valid programs, step by step as the code looks at them: plain words. -/
import Derived.Test.YtedbpmckgiifpaaGreatPGood
namespace Go.Proofs.YtedbpmckgiifpaaGreat
set_option linter.unusedSimpArgs false
set_option linter.unusedVariables false

/-- Pages that are right so far. -/
structure OkPg (F : Int) (l : List Pg) : Prop where
  pasc : l.Pairwise (·.n < ·.n)
  pnum : ∀ x ∈ l, 0 ≤ x.n ∧ x.n ≤ 999 ∧ 0 ≤ x.f ∧ x.f < F
  pfr : l.Pairwise (·.f ≠ ·.f)
theorem OkPg.nil (F : Int) : OkPg F [] := ⟨.nil, fun x hx => absurd hx List.not_mem_nil, .nil⟩
theorem Good1.okPg {F : Int} {p : Pr} (h : Good1 F p) : OkPg F p.pages := ⟨h.pasc, h.pnum, h.pfr⟩
theorem OkPg.take {F : Int} {l : List Pg} (h : OkPg F l) (k : Nat) : OkPg F (l.take k) :=
  ⟨h.pasc.sublist (List.take_sublist _ _), fun x hx => h.pnum x ((List.take_sublist _ _).subset hx), h.pfr.sublist (List.take_sublist _ _)⟩
theorem good1_iff {F : Int} {p : Pr} (h : OkPg F p.pages) : Good1 F p ↔ (1 ≤ p.id ∧ p.id ≤ 999) ∧ p.pages.length ≤ 16 ∧ (p.dead = true → p.pages = []) ∧ p.told.length ≤ 200 :=
  ⟨fun g => ⟨g.ids, g.plen, g.dead, g.told⟩, fun ⟨a, b, c, d⟩ => ⟨a, b, h.pasc, h.pnum, h.pfr, c, d⟩⟩
/-- One page more. -/
theorem okPg_succ {F : Int} {l : List Pg} {k : Nat} (hk : k < l.length) (h : OkPg F (l.take k)) :
    OkPg F (l.take (k + 1)) ↔ (0 < k → (l[k - 1]!).n < (l[k]!).n) ∧ (0 ≤ (l[k]!).n ∧ (l[k]!).n ≤ 999 ∧ 0 ≤ (l[k]!).f ∧ (l[k]!).f < F) ∧ (l.take k).any (fun y => decide (y.f = (l[k]!).f)) = false := by
  have e : l.take (k + 1) = l.take k ++ [l[k]!] := by
    rw [List.take_add_one, List.getElem?_eq_getElem hk, getElem!_pos l k hk]; rfl
  rw [e]
  constructor
  · intro g
    have a := (List.pairwise_append.1 g.pasc).2.2
    have b := (List.pairwise_append.1 g.pfr).2.2
    refine ⟨fun h0 => ?_, g.pnum _ (by simp), ?_⟩
    · refine a _ ?_ _ (by simp)
      rw [getElem!_pos l (k - 1) (by omega)]
      exact List.mem_take_iff_getElem.2 ⟨k - 1, by omega, rfl⟩
    · rw [List.any_eq_false]
      intro y hy
      have := b y hy l[k]! (List.mem_singleton.2 rfl)
      rw [decide_eq_true_eq]
      exact this
  · rintro ⟨h1, h2, h3⟩
    refine ⟨List.pairwise_append.2 ⟨h.pasc, List.pairwise_singleton _ _, fun y hy z hz => ?_⟩, fun x hx => ?_, List.pairwise_append.2 ⟨h.pfr, List.pairwise_singleton _ _, fun y hy z hz => ?_⟩⟩
    · cases List.mem_singleton.1 hz
      obtain ⟨i, hi, rfl⟩ := List.mem_take_iff_getElem.1 hy
      have h0 : 0 < k := by omega
      have h4 := h1 h0
      by_cases ei : i = k - 1
      · subst ei
        rw [getElem!_pos l (k - 1) (by omega)] at h4
        exact h4
      · have h5 := List.pairwise_iff_getElem.1 h.pasc i (k - 1) (by simp; omega) (by simp; omega) (by omega)
        rw [List.getElem_take, List.getElem_take] at h5
        rw [getElem!_pos l (k - 1) (by omega)] at h4
        omega
    · rcases List.mem_append.1 hx with hx | hx
      · exact h.pnum x hx
      · cases List.mem_singleton.1 hx; exact h2
    · cases List.mem_singleton.1 hz
      have := List.any_eq_false.1 h3 y hy
      rw [decide_eq_true_eq] at this
      exact this
/-- All pages of some programs. -/
def allPg (ps : List Pr) : List Pg := ps.flatMap (·.pages)
def ofFr (f : Int) (l : List Pg) : List Pg := l.filter fun x => decide (x.f = f)
/-- A frame's pages are all shared, if it is more than one. -/
def FrOk (l : List Pg) : Prop := 1 < l.length → ∀ x ∈ l, x.s = true
theorem ofFr_app (f : Int) (a b : List Pg) : ofFr f (a ++ b) = ofFr f a ++ ofFr f b := List.filter_append _ _
theorem mem_ofFr {f : Int} {l : List Pg} {x : Pg} : x ∈ ofFr f l ↔ x ∈ l ∧ x.f = f := by simp [ofFr]
theorem ofFr_one {f : Int} : ∀ {l : List Pg}, l.Pairwise (·.f ≠ ·.f) → (ofFr f l).length ≤ 1
  | [], _ => Nat.zero_le _
  | x :: l, h => by
    have h' := List.pairwise_cons.1 h
    have ih := ofFr_one (f := f) h'.2
    by_cases e : x.f = f
    · have : ofFr f l = [] := by
        unfold ofFr
        rw [List.filter_eq_nil_iff]
        intro y hy hyf
        exact h'.1 y hy (e.trans (of_decide_eq_true hyf).symm)
      unfold ofFr at this ⊢
      rw [List.filter_cons_of_pos (by simpa using e), this]
      simp
    · unfold ofFr at ih ⊢
      rw [List.filter_cons_of_neg (by simpa using e)]
      exact ih
theorem shar_iff : ∀ {ps : List Pr}, (∀ p ∈ ps, p.pages.Pairwise (·.f ≠ ·.f)) → (ps.Pairwise Sh ↔ ∀ f, FrOk (ofFr f (allPg ps)))
  | [], _ => ⟨fun _ f h => absurd h (by simp [ofFr, allPg]), fun _ => .nil⟩
  | p :: ps, hp => by
    have ih := shar_iff (ps := ps) fun q hq => hp q (by simp [hq])
    have e : ∀ f, ofFr f (allPg (p :: ps)) = ofFr f p.pages ++ ofFr f (allPg ps) := fun f => by
      unfold allPg; rw [List.flatMap_cons, ofFr_app]
    rw [List.pairwise_cons]
    constructor
    · rintro ⟨h1, h2⟩ f hl x hx
      have h3 := ih.1 h2 f
      rw [e] at hl hx
      have hone := ofFr_one (f := f) (hp p (by simp))
      rw [List.length_append] at hl
      have hsh : ∀ y ∈ ofFr f p.pages, ∀ z ∈ ofFr f (allPg ps), y.s = true ∧ z.s = true := fun y hy z hz => by
        obtain ⟨hy1, hy2⟩ := mem_ofFr.1 hy
        obtain ⟨hz1, hz2⟩ := mem_ofFr.1 hz
        obtain ⟨q, hq, hzq⟩ := List.mem_flatMap.1 hz1
        exact h1 q hq y hy1 z hzq (hy2.trans hz2.symm)
      rcases List.mem_append.1 hx with hx | hx
      · obtain ⟨z, hz⟩ : ∃ z, z ∈ ofFr f (allPg ps) := List.exists_mem_of_length_pos (by omega)
        exact (hsh x hx z hz).1
      · by_cases h0 : (ofFr f p.pages).length = 0
        · exact h3 (by omega) x hx
        · obtain ⟨y, hy⟩ : ∃ y, y ∈ ofFr f p.pages := List.exists_mem_of_length_pos (by omega)
          exact (hsh y hy x hx).2
    · intro h
      refine ⟨fun q hq x hx y hy exy => ?_, ih.2 fun f hl x hx => ?_⟩
      · have h1 : x ∈ ofFr x.f p.pages := mem_ofFr.2 ⟨hx, rfl⟩
        have h2 : y ∈ ofFr x.f (allPg ps) := mem_ofFr.2 ⟨List.mem_flatMap.2 ⟨q, hq, hy⟩, exy.symm⟩
        have h3 := h x.f
        rw [e] at h3
        have h4 := h3 (by rw [List.length_append]; have := List.length_pos_of_mem h1; have := List.length_pos_of_mem h2; omega)
        exact ⟨h4 x (by simp [h1]), h4 y (by simp [h2])⟩
      · have h3 := h f
        rw [e] at h3
        exact h3 (by rw [List.length_append]; omega) x (by simp [hx])
/-- Programs that are right so far, but for what they share. -/
structure OkPr (F : Int) (ps : List Pr) : Prop where
  one : ∀ p ∈ ps, Good1 F p
  asc : ps.Pairwise (·.id < ·.id)
theorem OkPr.nil (F : Int) : OkPr F [] := ⟨fun x hx => absurd hx List.not_mem_nil, .nil⟩
theorem OkPr.take {F : Int} {l : List Pr} (h : OkPr F l) (k : Nat) : OkPr F (l.take k) :=
  ⟨fun x hx => h.one x ((List.take_sublist _ _).subset hx), h.asc.sublist (List.take_sublist _ _)⟩
theorem GoodP.okPr {F : Int} {ps : List Pr} (h : GoodP F ps) : OkPr F ps := ⟨h.one, h.asc⟩
theorem goodP_iff {F : Int} {ps : List Pr} (h : OkPr F ps) : GoodP F ps ↔ ps.length ≤ 8 ∧ ∀ f, FrOk (ofFr f (allPg ps)) := by
  have hs := shar_iff (ps := ps) fun p hp => (h.one p hp).pfr
  exact ⟨fun g => ⟨g.len, hs.1 g.shar⟩, fun ⟨a, b⟩ => ⟨a, h.one, h.asc, hs.2 b⟩⟩
theorem okPr_succ {F : Int} {l : List Pr} {k : Nat} (hk : k < l.length) (h : OkPr F (l.take k)) :
    OkPr F (l.take (k + 1)) ↔ Good1 F l[k]! ∧ (0 < k → (l[k - 1]!).id < (l[k]!).id) := by
  have e : l.take (k + 1) = l.take k ++ [l[k]!] := by
    rw [List.take_add_one, List.getElem?_eq_getElem hk, getElem!_pos l k hk]; rfl
  rw [e]
  constructor
  · intro g
    have a := (List.pairwise_append.1 g.asc).2.2
    refine ⟨g.one _ (by simp), fun h0 => ?_⟩
    refine a _ ?_ _ (by simp)
    rw [getElem!_pos l (k - 1) (by omega)]
    exact List.mem_take_iff_getElem.2 ⟨k - 1, by omega, rfl⟩
  · rintro ⟨h2, h1⟩
    refine ⟨fun x hx => ?_, List.pairwise_append.2 ⟨h.asc, List.pairwise_singleton _ _, fun y hy z hz => ?_⟩⟩
    · rcases List.mem_append.1 hx with hx | hx
      · exact h.one x hx
      · cases List.mem_singleton.1 hx; exact h2
    · cases List.mem_singleton.1 hz
      obtain ⟨i, hi, rfl⟩ := List.mem_take_iff_getElem.1 hy
      have h0 : 0 < k := by omega
      have h4 := h1 h0
      by_cases ei : i = k - 1
      · subst ei
        rw [getElem!_pos l (k - 1) (by omega)] at h4
        exact h4
      · have h5 := List.pairwise_iff_getElem.1 h.asc i (k - 1) (by simp; omega) (by simp; omega) (by omega)
        rw [List.getElem_take, List.getElem_take] at h5
        rw [getElem!_pos l (k - 1) (by omega)] at h4
        omega
end Go.Proofs.YtedbpmckgiifpaaGreat
