/- All that is decided about a damaged frame, done in order: one program after the other; the end. Plain words. -/
import Derived.Test.YtmnddnlabdafcaaWhLaw
namespace Go.Proofs.Ytmnddnlabdafcaa
set_option linter.unusedSimpArgs false
set_option linter.unusedVariables false
open Go.RowKit

theorem one_use {pg : List Pg} (hd : pg.Pairwise (·.f ≠ ·.f)) {m : Nat} (hm : m < pg.length) {xn xf : Int} {xs : Bool} (hx : pg[m]! = ⟨xn, xf, xs⟩) (id : Int) : usesOf id pg xf = [(id, xn)] := by
  have h1 := ofFr_one (f := xf) hd
  have h2 : (⟨xn, xf, xs⟩ : Pg) ∈ ofFr xf pg := mem_ofFr.2 ⟨by rw [← hx]; exact at_mem hm, rfl⟩
  have h3 : ofFr xf pg = [⟨xn, xf, xs⟩] := by
    rcases h9 : ofFr xf pg with _ | ⟨a, _ | ⟨b, l⟩⟩
    · rw [h9] at h2; exact absurd h2 List.not_mem_nil
    · rw [h9] at h2; rw [List.mem_singleton.1 h2]
    · rw [h9] at h1; simp at h1
  unfold usesOf
  unfold ofFr at h3
  rw [h3]
  rfl
theorem no_use {f : Int} {p : Pr} (h : hasF f p = false) : usesOf p.id p.pages f = [] ∧ ∀ x ∈ p.pages, x.f ≠ f := by
  unfold hasF at h
  have h1 : ∀ x ∈ p.pages, x.f ≠ f := fun x hx e => List.any_eq_false.1 h x hx (decide_eq_true e)
  refine ⟨?_, h1⟩
  unfold usesOf
  rw [List.map_eq_nil_iff, List.filter_eq_nil_iff]
  intro x hx e
  exact h1 x hx (of_decide_eq_true e)
theorem erase_mem {pg : List Pg} {m : Nat} (hd : pg.Pairwise (·.f ≠ ·.f)) (hm : m < pg.length) : ∀ x ∈ pg.eraseIdx m, x ∈ pg ∧ x.f ≠ (pg[m]!).f := fun x hx => by
  obtain ⟨i, hi, hne, rfl⟩ := List.mem_eraseIdx_iff_getElem.1 hx
  refine ⟨List.getElem_mem _, ?_⟩
  rw [getElem!_pos pg m hm]
  rcases Nat.lt_trichotomy i m with h | h | h
  · exact List.pairwise_iff_getElem.1 hd i m hi hm h
  · exact absurd h hne
  · exact fun e => List.pairwise_iff_getElem.1 hd m i hm hi h e.symm
theorem stage {F0 : List Fr} {ps : List Pr} (h : Held F0 ps) {f : Nat} {i : Nat} (hi : i < ps.length) {F : List Fr} {b : List Pr} (S : StV F0 ps f i F b) :
    ∃ F' b', RunsD ((usesOf (ps[i]!).id (ps[i]!).pages f).map (ddOf ps f)) F b F' b' ∧ StV F0 ps f (i + 1) F' b' := by
  have hbi := S.rest i (Nat.le_refl _) hi
  have hil : i < b.length := by rw [S.blen]; exact hi
  cases hh : hasF f ps[i]! with
  | false =>
    obtain ⟨h1, h2⟩ := no_use hh
    rw [h1]
    refine ⟨F, b, .nil, S.fr, S.flen, S.good, S.held, S.ff, S.blen, fun j hj hjl => ?_, fun j hj hjl => S.rest j (by omega) hjl⟩
    by_cases e : j = i
    · subst e
      rw [hbi]
      exact ⟨rfl, fun _ => rfl, h2, (fun e => by rw [hh] at e; cases e), (fun e => by rw [hh] at e; cases e)⟩
    · exact S.done j (by omega) hjl
  | true =>
    have g1 := h.pr.good.one _ (at_mem hi)
    have gl := (h.pr.low _ (at_mem hi)).2
    have hta := tells_at h.pr.good hi rfl
    obtain ⟨p, hp⟩ : ∃ p, p = ps[i]! := ⟨_, rfl⟩
    rw [← hp] at hh g1 gl hta hbi ⊢
    obtain ⟨pi, pt, pd, pg, td⟩ := p
    obtain ⟨x, hx, hxf⟩ := List.any_eq_true.1 hh
    obtain ⟨m, hm, hxm⟩ := List.getElem_of_mem hx
    have hm' : m < pg.length := hm
    have hxm' : pg[m]! = x := by rw [getElem!_pos pg m hm']; exact hxm
    obtain ⟨xn, xf, xs⟩ := x
    obtain rfl : xf = f := of_decide_eq_true hxf
    have hd : pd = false := by
      cases pd with
      | false => rfl
      | true => have := g1.dead rfl; dsimp only at this; subst this; exact absurd hm' (Nat.not_lt_zero _)
    have ht : td = [] := gl
    subst hd ht
    have hus := one_use g1.pfr hm' hxm' pi
    dsimp only at hus hta ⊢
    rw [hus]
    have hdd : ddOf ps f (pi, xn) = ⟨if pt = true then 4 else 5, f, 0, pi, xn⟩ := by unfold ddOf; dsimp only; rw [hta]
    rw [List.map_cons, List.map_nil, hdd]
    have hset : ∀ q : Pr, VicR f ⟨pi, pt, false, pg, []⟩ q → (∀ j, j < i + 1 → j < ps.length → VicR f ps[j]! (b.set i q)[j]!) ∧ ∀ j, i + 1 ≤ j → j < ps.length → (b.set i q)[j]! = ps[j]! := fun q hq => by
      refine ⟨fun j hj hjl => ?_, fun j hj hjl => ?_⟩
      · by_cases e : j = i
        · subst e
          rw [set_bang _ hil, ← hp]; exact hq
        · rw [set_bang_ne _ (by rw [S.blen]; exact hjl) (by omega)]
          exact S.done j (by omega) hjl
      · rw [set_bang_ne _ (by rw [S.blen]; exact hjl) (by omega)]
        exact S.rest j (by omega) hjl
    have hhas : hasF f ⟨pi, pt, false, pg, []⟩ = true := hh
    cases pt with
    | true =>
      obtain ⟨e1, e2⟩ := tell_step S.good hil hbi hm' hxm'
      have hv : VicR f ⟨pi, true, false, pg, []⟩ ⟨pi, true, false, pg.eraseIdx m, [xn]⟩ := by
        refine ⟨rfl, (fun e => by rw [hhas] at e; cases e), fun x hx => ?_, fun _ _ => ⟨rfl, rfl, ?_, rfl⟩, (fun _ e => by cases e)⟩
        · have := (erase_mem g1.pfr hm' x hx).2
          rw [hxm'] at this
          exact this
        · have := List.length_eraseIdx_of_lt hm'
          dsimp only
          omega
      obtain ⟨d1, d2⟩ := hset _ hv
      refine ⟨F, _, .cons S.fr S.good e1 rfl (List.length_set ..) .nil, S.fr, S.flen, e2, fun t ht hu => ?_, S.ff, by rw [List.length_set]; exact S.blen, d1, d2⟩
      refine S.held t ht (used_not_nil.2 ?_)
      obtain ⟨p, hpm, x, hxm, e⟩ := usedB_iff.1 (used_not_nil.1 hu)
      rcases List.mem_or_eq_of_mem_set hpm with hpm | rfl
      · exact usedB_iff.2 ⟨p, hpm, x, hxm, e⟩
      · exact usedB_iff.2 ⟨_, at_mem hil, x, by rw [hbi]; exact (erase_mem g1.pfr hm' x hxm).1, e⟩
    | false =>
      obtain ⟨G, e1, e2, e3, e4, e5, e6⟩ := kill_step S.fr S.good S.held hil hbi hm' hxm'
      have hv : VicR f ⟨pi, false, false, pg, []⟩ ⟨pi, false, true, [], []⟩ :=
        ⟨rfl, (fun e => by rw [hhas] at e; cases e), fun x hx => absurd hx List.not_mem_nil, (fun _ e => by cases e), fun _ _ => ⟨rfl, rfl, rfl⟩⟩
      obtain ⟨d1, d2⟩ := hset _ hv
      refine ⟨G, _, .cons S.fr S.good e1 e3 (List.length_set ..) .nil, e2, e3.trans S.flen, by rw [e3]; exact e5, fun t ht hu => e6 t (by rw [← e3]; exact ht) hu, e4.trans S.ff, by rw [List.length_set]; exact S.blen, d1, d2⟩
theorem stages {F0 : List Fr} {ps : List Pr} (h : Held F0 ps) (f : Nat) : ∀ n, n ≤ ps.length → ∃ F b, RunsD ((usersL (ps.take n) f).map (ddOf ps f)) F0 ps F b ∧ StV F0 ps f n F b
  | 0, _ => ⟨F0, ps, .nil, h.fr, rfl, h.pr.good, h.held, rfl, rfl, fun j hj => absurd hj (Nat.not_lt_zero _), fun _ _ _ => rfl⟩
  | n + 1, hn => by
    obtain ⟨F, b, h1, h2⟩ := stages h f n (by omega)
    obtain ⟨F', b', h3, h4⟩ := stage h (show n < ps.length by omega) h2
    refine ⟨F', b', ?_, h4⟩
    have e : usersL (ps.take (n + 1)) f = usersL (ps.take n) f ++ usesOf (ps[n]!).id (ps[n]!).pages f := by
      rw [usersL_eq, usersL_eq, take_snoc (show n < ps.length by omega), List.flatMap_append]
      simp
    rw [e, List.map_append]
    exact h1.app h3
theorem retire_step {F : List Fr} {b : List Pr} {f : Nat} (hf : f < F.length) (h4 : (F[f]!).st ≠ 4) (h5 : (F[f]!).st ≠ 5) (hu : usedB b f = false) : applyP F b ⟨1, f, 0, 0, 0⟩ = (0, F.set f ⟨5, 0⟩, b) := by
  have hst : stateE F b ⟨1, f, 0, 0, 0⟩ = 0 := by
    unfold stateE
    dsimp only
    rw [hu, if_neg (by simp)]
  have hca : carryP F b ⟨1, f, 0, 0, 0⟩ = (0, F.set f ⟨5, 0⟩, b) := by
    unfold carryP
    dsimp only
    rw [if_pos rfl]
    have : retireP F f = (0, F.set f ⟨5, 0⟩) := by
      unfold retireP
      rw [if_neg (by omega), if_neg (fun h => h.elim h4 h5)]
      rfl
    rw [this]
  unfold applyP
  dsimp only
  rw [if_neg (by decide), if_neg (by simp; omega), hst, if_neg (by simp), hca]
  rfl
/-- What becomes of one program in the end. -/
def OutP (f : Nat) (s : Int) (mv : Bool) (p q : Pr) : Prop :=
  (q.told.length = p.told.length ∧ q.dead = p.dead ∧ q.pages.length = p.pages.length ∧ (hasF f p = true → s ≠ 2)) ∨
  (hasF f p = true ∧ p.tells = true ∧ q.dead = false ∧ p.dead = false ∧ q.pages.length + 1 = p.pages.length ∧ q.told.length = 1 ∧ p.told.length = 0 ∧ ¬ (s = 1 ∧ mv = true)) ∨
  (hasF f p = true ∧ p.tells = false ∧ q.dead = true ∧ p.dead = false ∧ q.told.length = p.told.length ∧ ¬ (s = 1 ∧ mv = true))
/-- The end of it all. -/
structure Fin (F : List Fr) (ps : List Pr) (f : Nat) (s : Int) (mv : Bool) (l : List Dd) (a : List Fr) (b : List Pr) : Prop where
  runs : RunsD l F ps a b
  fr : FrV a
  good : GoodP a.length b
  alen : a.length = F.length
  blen : b.length = ps.length
  stop : (∃ d ∈ l, d.k = 6) ↔ s = 4 ∨ s = 3 ∧ mv = false
  clear : ¬ (s = 4 ∨ s = 3 ∧ mv = false) → usersL b f = [] ∧ (a[f]!).st = 5
  out : ∀ i, i < ps.length → OutP f s mv ps[i]! b[i]!
end Go.Proofs.Ytmnddnlabdafcaa
