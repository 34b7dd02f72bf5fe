/- What becomes of a program that is told: plain words. -/
import Derived.Test.YtedbpmckgiifpaaGreatC9
import Derived.Test.YtedbpmckgiifpaaGreatPGood2
namespace Go.Proofs.YtedbpmckgiifpaaGreat
set_option linter.unusedSimpArgs false
set_option linter.unusedVariables false
open Go.RowKit

theorem erase_get {pg : List Pg} {m j : Nat} (hm : m < pg.length) (hj : j < pg.length) (hne : j ≠ m) : ∃ i, i < (pg.eraseIdx m).length ∧ (pg.eraseIdx m)[i]! = pg[j]! := by
  have hl : (pg.eraseIdx m).length = pg.length - 1 := List.length_eraseIdx_of_lt hm
  by_cases h : j < m
  · have hi : j < (pg.eraseIdx m).length := by omega
    refine ⟨j, hi, ?_⟩
    rw [getElem!_pos _ j hi, getElem!_pos pg j hj, List.getElem_eraseIdx, dif_pos h]
  · have hi : j - 1 < (pg.eraseIdx m).length := by omega
    refine ⟨j - 1, hi, ?_⟩
    rw [getElem!_pos _ (j - 1) hi, getElem!_pos pg j hj, List.getElem_eraseIdx, dif_neg (by omega)]
    congr 1
    omega
theorem erase_none {pg : List Pg} {m : Nat} (asc : pg.Pairwise (·.n < ·.n)) (hm : m < pg.length) : (pg.eraseIdx m).findIdx? (numb (pg[m]!).n) = none := by
  rw [List.findIdx?_eq_none_iff]
  intro x hx
  obtain ⟨i, hi, hne, rfl⟩ := List.mem_eraseIdx_iff_getElem.1 hx
  unfold numb
  rw [getElem!_pos pg m hm]
  refine decide_eq_false fun e => ?_
  rcases Nat.lt_trichotomy i m with h | h | h
  · have := List.pairwise_iff_getElem.1 asc i m hi hm h; omega
  · exact hne h
  · have := List.pairwise_iff_getElem.1 asc m i hm hi h; omega
structure ToldR (F : List Fr) (ps : List Pr) (k m : Nat) (pi : Int) (pt pd : Bool) (pg : List Pg) (td : List Int) (xn xf : Int) : Prop where
  live : pd = false
  tol : td = []
  app : applyP F ps ⟨4, xf, 0, pi, xn⟩ = (0, F, ps.set k ⟨pi, pt, false, pg.eraseIdx m, [xn]⟩)
  good : GoodP F.length (ps.set k ⟨pi, pt, false, pg.eraseIdx m, [xn]⟩)
  find : ∀ j, j < pg.length → getP (ps.set k ⟨pi, pt, false, pg.eraseIdx m, [xn]⟩) pi (pg[j]!).n = if j = m then (zPg, 41) else (pg[j]!, 0)
  apart : ∀ j, j < pg.length → j ≠ m → (pg[j]!).n ≠ xn
theorem told_law {F : List Fr} {ps : List Pr} (h : Held F ps) {k m : Nat} (hk : k < ps.length) {pi : Int} {pt pd : Bool} {pg : List Pg} {td : List Int} (hp : ps[k]! = ⟨pi, pt, pd, pg, td⟩) (hm : m < pg.length) {xn xf : Int} {xs : Bool} (hx : pg[m]! = ⟨xn, xf, xs⟩) : ToldR F ps k m pi pt pd pg td xn xf := by
  have g := h.pr.good
  have g1 := g.one _ (at_mem hk)
  have gl := (h.pr.low _ (at_mem hk)).2
  rw [hp] at g1 gl
  have hd : pd = false := by
    cases pd with
    | false => rfl
    | true => have := g1.dead rfl; dsimp only at this; rw [this] at hm; exact absurd hm (Nat.not_lt_zero _)
  have ht : td = [] := gl
  subst hd ht
  have hf := findP_at' g.asc hk hp rfl g1.pasc hm hx
  dsimp only at hf
  have hte : tellP ps pi xn = (0, ps.set k ⟨pi, pt, false, pg.eraseIdx m, [xn]⟩, leftP (ps.set k { ps[k]! with pages := (ps[k]!).pages.eraseIdx m }) ((ps[k]!).pages[m]!).f) := by
    rw [tellP_of hf]
    rw [hp]
    rfl
  have hgd := (g.tell hte).1
  have hpn := g1.pnum _ (at_mem hm)
  rw [hx] at hpn
  dsimp only at hpn
  have hhas : hasB ps xf pi xn = true := by
    unfold hasB
    rw [List.any_eq_true]
    refine ⟨(pi, xn), ?_, by unfold hasT; simp⟩
    rw [usersL_eq]
    refine List.mem_flatMap.2 ⟨ps[k]!, at_mem hk, ?_⟩
    rw [hp]
    exact List.mem_map.2 ⟨⟨xn, xf, xs⟩, List.mem_filter.2 ⟨by rw [← hx]; exact at_mem hm, by simp⟩, rfl⟩
  have hca : carryP F ps ⟨4, xf, 0, pi, xn⟩ = (0, F, ps.set k ⟨pi, pt, false, pg.eraseIdx m, [xn]⟩) := by
    unfold carryP
    dsimp only
    rw [if_neg (by decide), if_neg (by decide), if_pos rfl]
    unfold ctellP
    dsimp only
    rw [hte, hhas]
    rfl
  have hst : stateE F ps ⟨4, xf, 0, pi, xn⟩ = 0 := by
    unfold stateE
    dsimp only
    rw [if_neg (by simp)]
  have hpl : (pg.eraseIdx m).length = pg.length - 1 := List.length_eraseIdx_of_lt hm
  have hkl : k < (ps.set k ⟨pi, pt, false, pg.eraseIdx m, [xn]⟩).length := by rw [List.length_set]; exact hk
  have hq : (ps.set k ⟨pi, pt, false, pg.eraseIdx m, [xn]⟩)[k]! = ⟨pi, pt, false, pg.eraseIdx m, [xn]⟩ := set_bang _ hk
  have g2 := hgd.one _ (at_mem hkl)
  rw [hq] at g2
  refine ⟨rfl, rfl, ?_, hgd, fun j hj => ?_, fun j hj hne e => ?_⟩
  · unfold applyP
    dsimp only
    rw [if_neg (by decide), if_neg (by omega), hst, if_neg (by simp), hca]
    rfl
  · by_cases e : j = m
    · subst e
      rw [if_pos rfl]
      refine getP_err ?_ (.inl rfl)
      have hlv := live_find hgd.asc hkl (by rw [hq])
      rw [hq] at hlv
      have hno := erase_none g1.pasc hm
      dsimp only at hlv hno
      unfold findP
      rw [hlv]
      dsimp only
      rw [hq]
      dsimp only
      rw [hno]
    · rw [if_neg e]
      obtain ⟨i, hi, hi2⟩ := erase_get hm hj e
      exact getP_at' hgd.asc hkl hq rfl g2.pasc hi hi2
  · have e2 : (pg[m]!).n = xn := by rw [hx]
    rw [← e2, getElem!_pos pg j hj, getElem!_pos pg m hm] at e
    rcases Nat.lt_trichotomy j m with h1 | h1 | h1
    · have := List.pairwise_iff_getElem.1 g1.pasc j m hj hm h1; exact absurd e (Int.ne_of_lt this)
    · exact hne h1
    · have := List.pairwise_iff_getElem.1 g1.pasc m j hm hj h1; exact absurd e.symm (Int.ne_of_lt this)
end Go.Proofs.YtedbpmckgiifpaaGreat
