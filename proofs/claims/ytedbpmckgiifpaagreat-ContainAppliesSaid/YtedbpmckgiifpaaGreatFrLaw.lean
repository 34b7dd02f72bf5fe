/- How many have a frame, before and after a drop, an own and an end; the frames that an end gives back: plain words. -/
import Derived.Test.YtedbpmckgiifpaaGreatPGood2
import Derived.Test.YtedbpmckgiifpaaGreatO7
namespace Go.Proofs.YtedbpmckgiifpaaGreat
set_option linter.unusedSimpArgs false
set_option linter.unusedVariables false

/-- How many pages have a frame. -/
def cf (pg : List Pg) (f : Int) : Nat := (pg.filter fun x => decide (x.f = f)).length
def cnt (ps : List Pr) (f : Int) : Nat := (usersL ps f).length
theorem usesOf_cf (id : Int) (pg : List Pg) (f : Int) : (usesOf id pg f).length = cf pg f := by unfold usesOf cf; rw [List.length_map]
theorem cnt_cons (p : Pr) (ps : List Pr) (f : Int) : cnt (p :: ps) f = cf p.pages f + cnt ps f := by
  unfold cnt; rw [usersL_eq, usersL_eq, List.flatMap_cons, List.length_append, usesOf_cf]
theorem cnt_app : ∀ (a b : List Pr) (f : Int), cnt (a ++ b) f = cnt a f + cnt b f
  | [], b, f => by rw [List.nil_append, show cnt [] f = 0 from rfl, Nat.zero_add]
  | p :: a, b, f => by rw [List.cons_append, cnt_cons, cnt_cons, cnt_app a b f]; omega
theorem split_bang {α : Type} [Inhabited α] {l : List α} {i : Nat} (h : i < l.length) : l = l.take i ++ l[i]! :: l.drop (i + 1) := by
  rw [getElem!_pos l i h, ← List.drop_eq_getElem_cons h, List.take_append_drop]
theorem set_split {α : Type} {l : List α} {i : Nat} (x : α) (h : i < l.length) : l.set i x = l.take i ++ x :: l.drop (i + 1) := by
  rw [List.set_eq_take_append_cons_drop, if_pos h]
theorem cnt_set {ps : List Pr} {i : Nat} (hi : i < ps.length) (q : Pr) (f : Int) : cnt (ps.set i q) f + cf (ps[i]!).pages f = cnt ps f + cf q.pages f := by
  have h := congrArg (fun l => cnt l f) (split_bang hi)
  try dsimp only at h
  rw [cnt_app, cnt_cons] at h
  rw [set_split q hi, cnt_app, cnt_cons]
  omega
theorem cf_cons (x : Pg) (l : List Pg) (f : Int) : cf (x :: l) f = (if x.f = f then 1 else 0) + cf l f := by
  unfold cf
  by_cases e : x.f = f
  · rw [List.filter_cons_of_pos (by simpa using e), List.length_cons, if_pos e]; omega
  · rw [List.filter_cons_of_neg (by simpa using e), if_neg e]; omega
theorem cf_app (a b : List Pg) (f : Int) : cf (a ++ b) f = cf a f + cf b f := by unfold cf; rw [List.filter_append, List.length_append]
theorem cf_set {pg : List Pg} {k : Nat} (hk : k < pg.length) (x : Pg) (f : Int) : cf (pg.set k x) f + (if (pg[k]!).f = f then 1 else 0) = cf pg f + (if x.f = f then 1 else 0) := by
  have h := congrArg (fun l => cf l f) (split_bang hk)
  try dsimp only at h
  rw [cf_app, cf_cons] at h
  rw [set_split x hk, cf_app, cf_cons]
  omega
theorem cf_erase {pg : List Pg} {k : Nat} (hk : k < pg.length) (f : Int) : cf (pg.eraseIdx k) f + (if (pg[k]!).f = f then 1 else 0) = cf pg f := by
  have h := congrArg (fun l => cf l f) (split_bang hk)
  try dsimp only at h
  rw [cf_app, cf_cons] at h
  rw [List.eraseIdx_eq_take_drop_succ, cf_app]
  omega
theorem cf_le {pg : List Pg} (h : pg.Pairwise (·.f ≠ ·.f)) (f : Int) : cf pg f ≤ 1 := by
  induction pg with
  | nil => exact Nat.zero_le _
  | cons x l ih =>
    have h' := List.pairwise_cons.1 h
    rw [cf_cons]
    by_cases e : x.f = f
    · have : cf l f = 0 := by
        unfold cf
        rw [List.length_eq_zero_iff, List.filter_eq_nil_iff]
        intro y hy hyf
        exact h'.1 y hy (e.trans (of_decide_eq_true hyf).symm)
      rw [if_pos e, this]
      exact Nat.le_refl _
    · rw [if_neg e]; have := ih h'.2; omega
theorem cf_pos {pg : List Pg} {k : Nat} (hk : k < pg.length) : 0 < cf pg (pg[k]!).f := by
  have := cf_erase hk (pg[k]!).f
  rw [if_pos rfl] at this
  omega
theorem cf_pos_iff {pg : List Pg} {f : Int} : 0 < cf pg f ↔ ∃ x ∈ pg, x.f = f := by
  unfold cf
  rw [List.length_pos_iff_exists_mem]
  exact ⟨fun ⟨x, hx⟩ => ⟨x, (List.mem_filter.1 hx).1, of_decide_eq_true (List.mem_filter.1 hx).2⟩, fun ⟨x, hx, e⟩ => ⟨x, List.mem_filter.2 ⟨hx, decide_eq_true e⟩⟩⟩
theorem used_cnt (ps : List Pr) (f : Int) : usedB ps f = true ↔ 0 < cnt ps f := used_iff ps f
theorem left_cnt (ps : List Pr) (f : Int) : leftP ps f = if 0 < cnt ps f then -1 else f := by
  unfold leftP
  by_cases h : 0 < cnt ps f
  · rw [if_pos h, if_pos ((used_cnt ps f).2 h)]
  · rw [if_neg h, if_neg fun e => h ((used_cnt ps f).1 e)]
/-- What a drop and an own of a page say about its frame. -/
structure FrX (ps : List Pr) (i j : Nat) (n f : Int) (out z : List Pr) (fr : Int) : Prop where
  drop : dropP ps (ps[i]!).id n = (0, out, fr)
  own : ownP ps (ps[i]!).id n 40 = (0, z, fr)
  one : (fr = f) = (cnt ps f = 1)
  gone : fr = f ∨ fr = -1
  less : cnt out f = cnt ps f - 1
  had : 1 ≤ cnt ps f
  new : cnt z 40 = 1
theorem frX_of {F : Int} {ps : List Pr} (h : GoodP F ps) (hF : F ≤ 40) {i j : Nat} (hi : i < ps.length) (hd : (ps[i]!).dead = false) (hj : j < (ps[i]!).pages.length) : ∃ out z fr, FrX ps i j ((ps[i]!).pages[j]!).n ((ps[i]!).pages[j]!).f out z fr := by
  have hg := h.one _ (at_mem hi)
  have hf := findP_at h.asc hi hd hg.pasc hj
  have hx := hg.pnum _ (at_mem hj)
  have hu := unused_of h hF
  have hd1 := dropP_of hf
  have hd2 := (ownP_of hf 40).trans (if_neg (by decide))
  rw [if_neg hu] at hd2
  have c1 := cnt_set hi { ps[i]! with pages := (ps[i]!).pages.eraseIdx j } ((ps[i]!).pages[j]!).f
  have c2 := cnt_set hi { ps[i]! with pages := (ps[i]!).pages.set j ⟨((ps[i]!).pages[j]!).n, 40, false⟩ } ((ps[i]!).pages[j]!).f
  have c3 := cnt_set hi { ps[i]! with pages := (ps[i]!).pages.set j ⟨((ps[i]!).pages[j]!).n, 40, false⟩ } 40
  have e1 := cf_erase hj ((ps[i]!).pages[j]!).f
  have e2 := cf_set hj ⟨((ps[i]!).pages[j]!).n, 40, false⟩ ((ps[i]!).pages[j]!).f
  have e3 := cf_set hj ⟨((ps[i]!).pages[j]!).n, 40, false⟩ 40
  have hz : cnt ps 40 = 0 := by
    rcases Nat.eq_zero_or_pos (cnt ps 40) with h0 | h0
    · exact h0
    · exact absurd ((used_cnt ps 40).2 h0) hu
  have hp := cf_pos hj
  have hone := cf_le hg.pfr ((ps[i]!).pages[j]!).f
  dsimp only at c1 c2 c3 e1 e2 e3
  generalize ps.set i { ps[i]! with pages := (ps[i]!).pages.eraseIdx j } = out at *
  generalize ps.set i { ps[i]! with pages := (ps[i]!).pages.set j ⟨((ps[i]!).pages[j]!).n, 40, false⟩ } = z at *
  generalize ((ps[i]!).pages[j]!).f = f at *
  generalize ((ps[i]!).pages[j]!).n = n at *
  rw [if_pos rfl] at e1 e2
  rw [if_neg (show ¬ f = 40 by omega), if_pos rfl] at e3
  rw [if_neg (show ¬ (40 : Int) = f by omega)] at e2
  have hcz : cnt z f = cnt out f := by omega
  have hle : 1 ≤ cnt ps f := by omega
  refine ⟨out, z, leftP out f, hd1, ?_, ?_, ?_, by omega, hle, ?_⟩
  · rw [hd2, left_cnt, left_cnt, hcz]
  · rw [left_cnt]
    apply propext
    by_cases hc : 0 < cnt out f
    · rw [if_pos hc]; omega
    · rw [if_neg hc]; omega
  · rw [left_cnt]; split
    · exact .inr rfl
    · exact .inl rfl
  · have : cf (ps[i]!).pages 40 = 0 := by
      rcases Nat.eq_zero_or_pos (cf (ps[i]!).pages 40) with h0 | h0
      · exact h0
      · obtain ⟨x, hx', e⟩ := cf_pos_iff.1 h0
        have := hg.pnum x hx'; omega
    omega
/-- An end. -/
def endX (ps : List Pr) (i : Nat) : List Pr := ps.set i { ps[i]! with dead := true, pages := [] }
theorem endP_of {ps : List Pr} {id : Int} {i : Nat} (h : ps.findIdx? (live id) = some i) : endP ps id = (0, endX ps i, goneK ps (endX ps i) 64) := by
  unfold endP; rw [h]; rfl
theorem cnt_end {ps : List Pr} {i : Nat} (hi : i < ps.length) (f : Int) : cnt (endX ps i) f + cf (ps[i]!).pages f = cnt ps f := by
  have := cnt_set hi { ps[i]! with dead := true, pages := [] } f
  dsimp only at this
  rw [show cf [] f = 0 from rfl] at this
  exact this
theorem mem_goneK {ps out : List Pr} {k : Nat} {f : Int} : f ∈ goneK ps out k ↔ (0 ≤ f ∧ f < k) ∧ 0 < cnt ps f ∧ ¬ 0 < cnt out f := by
  unfold goneK
  rw [List.mem_filter, List.mem_map]
  constructor
  · rintro ⟨⟨m, hm, rfl⟩, h⟩
    rw [Bool.and_eq_true] at h
    refine ⟨by have := List.mem_range.1 hm; omega, (used_cnt _ _).1 h.1, fun e => ?_⟩
    rw [(used_cnt out _).2 e] at h
    exact absurd h.2 (by decide)
  · rintro ⟨h1, h2, h3⟩
    refine ⟨⟨f.toNat, List.mem_range.2 (by omega), by omega⟩, ?_⟩
    rw [Bool.and_eq_true]
    refine ⟨(used_cnt _ _).2 h2, ?_⟩
    cases hb : usedB out f with
    | true => exact absurd ((used_cnt _ _).1 hb) h3
    | false => rfl
theorem goneK_asc (ps out : List Pr) (k : Nat) : (goneK ps out k).Pairwise (· < ·) := by
  unfold goneK
  refine List.Pairwise.filter _ ?_
  rw [List.pairwise_map]
  exact List.pairwise_lt_range.imp fun h => by omega
/-- The frames that the ended program alone had, in the order of its pages. -/
def goneL (ps : List Pr) (i : Nat) : List Int := ((ps[i]!).pages.filter fun x => !usedB (endX ps i) x.f).map (·.f)
theorem mem_goneL {ps : List Pr} {i : Nat} {f : Int} : f ∈ goneL ps i ↔ 0 < cf (ps[i]!).pages f ∧ ¬ 0 < cnt (endX ps i) f := by
  unfold goneL
  rw [List.mem_map, cf_pos_iff]
  constructor
  · rintro ⟨x, hx, rfl⟩
    obtain ⟨h1, h2⟩ := List.mem_filter.1 hx
    exact ⟨⟨x, h1, rfl⟩, fun e => by rw [(used_cnt _ _).2 e] at h2; exact absurd h2 (by decide)⟩
  · rintro ⟨⟨x, hx, rfl⟩, h⟩
    refine ⟨x, List.mem_filter.2 ⟨hx, ?_⟩, rfl⟩
    cases hb : usedB (endX ps i) x.f with
    | true => exact absurd ((used_cnt _ _).1 hb) h
    | false => rfl
theorem goneL_perm {F : Int} {ps : List Pr} (h : GoodP F ps) (hF : F ≤ 64) {i : Nat} (hi : i < ps.length) : (goneL ps i).Perm (goneK ps (endX ps i) 64) := by
  have hg := h.one _ (at_mem hi)
  have n1 : (goneL ps i).Nodup := by
    unfold goneL
    rw [List.Nodup, List.pairwise_map]
    exact hg.pfr.filter _
  have n2 : (goneK ps (endX ps i) 64).Nodup := (goneK_asc _ _ _).imp fun h => by omega
  rw [List.perm_ext_iff_of_nodup n1 n2]
  intro f
  rw [mem_goneL, mem_goneK]
  have hc := cnt_end hi f
  constructor
  · rintro ⟨h1, h2⟩
    obtain ⟨x, hx, e⟩ := cf_pos_iff.1 h1
    have := hg.pnum x hx
    refine ⟨by omega, by omega, h2⟩
  · rintro ⟨h1, h2, h3⟩
    exact ⟨by omega, h3⟩
theorem sorted_same {a b : List Int} (h : a.Perm b) (ha : a.Pairwise (· ≤ ·)) (hb : b.Pairwise (· < ·)) : a = b :=
  h.eq_of_pairwise (le := (· ≤ ·)) (fun x y _ _ h1 h2 => by omega) ha (hb.imp fun h => by omega)
theorem gone_one {F : Int} {ps : List Pr} (h : GoodP F ps) {i : Nat} (hi : i < ps.length) {f : Int} (hf : f ∈ goneK ps (endX ps i) 64) : cnt ps f = 1 ∧ cnt (endX ps i) f = 0 := by
  have hg := h.one _ (at_mem hi)
  obtain ⟨h1, h2, h3⟩ := mem_goneK.1 hf
  have hc := cnt_end hi f
  have := cf_le hg.pfr f
  omega
/-- How many of the first pages have a frame alone. -/
def aloneN (ps : List Pr) (pg : List Pg) : Nat := (pg.filter fun x => decide (cnt ps x.f = 1)).length
theorem aloneN_succ (ps : List Pr) {pg : List Pg} {k : Nat} (h : k < pg.length) : aloneN ps (pg.take (k + 1)) = aloneN ps (pg.take k) + (if cnt ps (pg[k]!).f = 1 then 1 else 0) := by
  rw [take_snoc h]
  unfold aloneN
  rw [List.filter_append, List.length_append]
  generalize pg[k]! = x
  by_cases e : cnt ps x.f = 1 <;> simp [e]
theorem alone_gone {F : Int} {ps : List Pr} (h : GoodP F ps) (hF : F ≤ 64) {i : Nat} (hi : i < ps.length) : aloneN ps (ps[i]!).pages = (goneK ps (endX ps i) 64).length := by
  rw [← (goneL_perm h hF hi).length_eq]
  unfold aloneN goneL
  rw [List.length_map]
  congr 1
  refine List.filter_congr fun x hx => ?_
  have hg := h.one _ (at_mem hi)
  have hc := cnt_end hi x.f
  have h1 := cf_le hg.pfr x.f
  have h2 : 0 < cf (ps[i]!).pages x.f := cf_pos_iff.2 ⟨x, hx, rfl⟩
  cases hb : usedB (endX ps i) x.f with
  | true =>
    have := (used_cnt _ _).1 hb
    exact decide_eq_false (by omega)
  | false =>
    have : ¬ 0 < cnt (endX ps i) x.f := fun e => by rw [(used_cnt _ _).2 e] at hb; cases hb
    exact decide_eq_true (by omega)
end Go.Proofs.YtedbpmckgiifpaaGreat
