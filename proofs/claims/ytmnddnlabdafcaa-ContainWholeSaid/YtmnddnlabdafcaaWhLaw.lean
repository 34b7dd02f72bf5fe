/- All that is decided about a damaged frame, done in order: plain words. -/
import Derived.Test.YtmnddnlabdafcaaRelo
import Derived.Test.YtmnddnlabdafcaaToLaw
namespace Go.Proofs.Ytmnddnlabdafcaa
set_option linter.unusedSimpArgs false
set_option linter.unusedVariables false
open Go.RowKit

/-- Deeds done in order, each without an error. -/
inductive RunsD : List Dd → List Fr → List Pr → List Fr → List Pr → Prop
  | nil {F : List Fr} {ps : List Pr} : RunsD [] F ps F ps
  | cons {d : Dd} {l : List Dd} {F F' Fz : List Fr} {ps ps' pz : List Pr} (hF : FrV F) (hg : GoodP F.length ps) (h : applyP F ps d = (0, F', ps')) (h1 : F'.length = F.length) (h2 : ps'.length = ps.length) (r : RunsD l F' ps' Fz pz) : RunsD (d :: l) F ps Fz pz
theorem RunsD.app {l1 l2 : List Dd} {F F1 Fz : List Fr} {ps p1 pz : List Pr} (a : RunsD l1 F ps F1 p1) (b : RunsD l2 F1 p1 Fz pz) : RunsD (l1 ++ l2) F ps Fz pz := by
  induction a with
  | nil => exact b
  | cons hF hg h h1 h2 r ih => exact .cons hF hg h h1 h2 (ih b)
def hasF (f : Int) (p : Pr) : Bool := p.pages.any fun x => decide (x.f = f)
/-- What becomes of a program. -/
structure VicR (f : Int) (p q : Pr) : Prop where
  id : q.id = p.id
  off : hasF f p = false → q = p
  no : ∀ x ∈ q.pages, x.f ≠ f
  tel : hasF f p = true → p.tells = true → q.dead = false ∧ p.dead = false ∧ q.pages.length + 1 = p.pages.length ∧ q.told.length = 1
  kil : hasF f p = true → p.tells = false → q.dead = true ∧ p.dead = false ∧ q.told = p.told
structure StV (F0 : List Fr) (ps : List Pr) (f : Nat) (i : Nat) (F : List Fr) (b : List Pr) : Prop where
  fr : FrV F
  flen : F.length = F0.length
  good : GoodP F.length b
  held : ∀ t, t < F.length → usersL b t ≠ [] → (F[t]!).st = 1 ∨ (F[t]!).st = 2
  ff : F[f]! = F0[f]!
  blen : b.length = ps.length
  done : ∀ j, j < i → j < ps.length → VicR f ps[j]! b[j]!
  rest : ∀ j, i ≤ j → j < ps.length → b[j]! = ps[j]!
theorem used_not_nil {ps : List Pr} {f : Int} : usersL ps f ≠ [] ↔ usedB ps f = true := by
  rw [used_iff]; exact List.length_pos_iff.symm
/-- Frames given back: all but f. -/
theorem gives_all (f : Int) : ∀ (l : List Int) {F : List Fr}, FrV F → l.Nodup → (∀ g ∈ l, 0 ≤ g ∧ g < F.length ∧ occB (F[g.toNat]!).st = true) → ∃ G, givesP f F l = (0, G) ∧ FrV G ∧ G.length = F.length ∧ ∀ t : Nat, ((t : Int) ∉ l ∨ (t : Int) = f) → G[t]! = F[t]!
  | [], F, hF, _, _ => ⟨F, rfl, hF, rfl, fun _ _ => rfl⟩
  | g :: l, F, hF, hn, h => by
    rw [List.nodup_cons] at hn
    by_cases e : g = f
    · obtain ⟨G, h1, h2, h3, h4⟩ := gives_all f l hF hn.2 (fun g hg => h g (by simp [hg]))
      refine ⟨G, by unfold givesP; rw [if_pos e]; exact h1, h2, h3, fun t ht => h4 t ?_⟩
      rcases ht with ht | ht
      · exact .inl fun hm => ht (by simp [hm])
      · exact .inr ht
    · obtain ⟨g0, g1, g2⟩ := h g (by simp)
      obtain ⟨k, rfl⟩ : ∃ k : Nat, g = k := ⟨g.toNat, by omega⟩
      have hk : k < F.length := by omega
      have hgv : giveP F k = (0, F.set k ⟨0, 0⟩) := by
        unfold giveP
        rw [if_neg (by omega), if_neg (by rw [g2]; decide)]
        rfl
      have hF2 : FrV (F.set k ⟨0, 0⟩) := hF.set k rfl
      obtain ⟨G, h1, h2, h3, h4⟩ := gives_all f l hF2 hn.2 (fun g hg => by
        obtain ⟨a, b, c⟩ := h g (by simp [hg])
        refine ⟨a, by rw [List.length_set]; exact b, ?_⟩
        have hne : g.toNat ≠ k := fun e2 => hn.1 (by have : g = (k : Int) := by omega
                                                     rw [← this]; exact hg)
        rw [set_bang_ne _ (by omega) (by omega)]; exact c)
      rw [List.length_set] at h3
      refine ⟨G, ?_, h2, h3, fun t ht => ?_⟩
      · unfold givesP
        rw [if_neg e, hgv]
        exact h1
      · have htk : t ≠ k := fun e2 => by
          subst e2
          rcases ht with ht | ht
          · exact ht (by simp)
          · exact e ht
        rw [h4 t (by rcases ht with ht | ht
                     · exact .inl fun hm => ht (by simp [hm])
                     · exact .inr ht)]
        by_cases h9 : t < F.length
        · rw [set_bang_ne _ (by omega) (by omega)]
        · rw [getElem!_neg _ t (by rw [List.length_set]; exact h9), getElem!_neg _ t h9]
theorem has_at {F : Int} {b : List Pr} {i m : Nat} (hi : i < b.length) {pi : Int} {pt pd : Bool} {pg : List Pg} {td : List Int} (hp : b[i]! = ⟨pi, pt, pd, pg, td⟩) (hm : m < pg.length) {xn xf : Int} {xs : Bool} (hx : pg[m]! = ⟨xn, xf, xs⟩) (q : Int) (hq : q < 0 ∨ q = xn) : hasB b xf pi q = true := by
  unfold hasB
  rw [List.any_eq_true]
  refine ⟨(pi, xn), ?_, by unfold hasT; rcases hq with h | h <;> simp [h]⟩
  rw [usersL_eq]
  refine List.mem_flatMap.2 ⟨b[i]!, at_mem hi, ?_⟩
  rw [hp]
  exact List.mem_map.2 ⟨⟨xn, xf, xs⟩, List.mem_filter.2 ⟨by rw [← hx]; exact at_mem hm, by simp⟩, rfl⟩
theorem tell_step {F : List Fr} {b : List Pr} (g : GoodP F.length b) {i m : Nat} (hi : i < b.length) {pi : Int} {pt : Bool} {pg : List Pg} (hp : b[i]! = ⟨pi, pt, false, pg, []⟩) (hm : m < pg.length) {xn xf : Int} {xs : Bool} (hx : pg[m]! = ⟨xn, xf, xs⟩) :
    applyP F b ⟨4, xf, 0, pi, xn⟩ = (0, F, b.set i ⟨pi, pt, false, pg.eraseIdx m, [xn]⟩) ∧ GoodP F.length (b.set i ⟨pi, pt, false, pg.eraseIdx m, [xn]⟩) := by
  have g1 := g.one _ (at_mem hi)
  rw [hp] at g1
  have hf := findP_at' g.asc hi hp rfl g1.pasc hm hx
  dsimp only at hf
  have hte : tellP b pi xn = (0, b.set i ⟨pi, pt, false, pg.eraseIdx m, [xn]⟩, leftP (b.set i { b[i]! with pages := (b[i]!).pages.eraseIdx m }) ((b[i]!).pages[m]!).f) := by
    rw [tellP_of hf]
    rw [hp]
    rfl
  have hpn := g1.pnum _ (at_mem hm)
  rw [hx] at hpn
  dsimp only at hpn
  refine ⟨?_, (g.tell hte).1⟩
  have hhas := has_at (F := 0) hi hp hm hx xn (.inr rfl)
  have hca : carryP F b ⟨4, xf, 0, pi, xn⟩ = (0, F, b.set i ⟨pi, pt, false, pg.eraseIdx m, [xn]⟩) := by
    unfold carryP
    dsimp only
    rw [if_neg (by decide), if_neg (by decide), if_pos rfl]
    unfold ctellP
    dsimp only
    rw [hte, hhas]
    rfl
  have hst : stateE F b ⟨4, xf, 0, pi, xn⟩ = 0 := by
    unfold stateE
    dsimp only
    rw [if_neg (by simp)]
  unfold applyP
  dsimp only
  rw [if_neg (by decide), if_neg (by omega), hst, if_neg (by simp), hca]
  rfl
theorem usedB_iff {ps : List Pr} {f : Int} : usedB ps f = true ↔ ∃ p ∈ ps, ∃ x ∈ p.pages, x.f = f := by
  unfold usedB
  rw [List.any_eq_true]
  constructor
  · rintro ⟨p, hp, h⟩
    obtain ⟨x, hx, e⟩ := List.any_eq_true.1 h
    exact ⟨p, hp, x, hx, of_decide_eq_true e⟩
  · rintro ⟨p, hp, x, hx, e⟩
    exact ⟨p, hp, List.any_eq_true.2 ⟨x, hx, decide_eq_true e⟩⟩
theorem kill_step {F : List Fr} {b : List Pr} (hF : FrV F) (g : GoodP F.length b) (held : ∀ t, t < F.length → usersL b t ≠ [] → (F[t]!).st = 1 ∨ (F[t]!).st = 2) {i m : Nat} (hi : i < b.length) {pi : Int} {pt : Bool} {pg : List Pg} {td : List Int} (hp : b[i]! = ⟨pi, pt, false, pg, td⟩) (hm : m < pg.length) {xn : Int} {xf : Nat} {xs : Bool} (hx : pg[m]! = ⟨xn, xf, xs⟩) :
    ∃ G, applyP F b ⟨5, xf, 0, pi, xn⟩ = (0, G, b.set i ⟨pi, pt, true, [], td⟩) ∧ FrV G ∧ G.length = F.length ∧ G[xf]! = F[xf]! ∧ GoodP F.length (b.set i ⟨pi, pt, true, [], td⟩) ∧ ∀ t, t < F.length → usersL (b.set i ⟨pi, pt, true, [], td⟩) t ≠ [] → (G[t]!).st = 1 ∨ (G[t]!).st = 2 := by
  have g1 := g.one _ (at_mem hi)
  rw [hp] at g1
  have hpn := g1.pnum _ (at_mem hm)
  rw [hx] at hpn
  dsimp only at hpn
  have hlv := live_find g.asc hi (by rw [hp])
  rw [hp] at hlv
  dsimp only at hlv
  obtain ⟨gone, hgo⟩ : ∃ l, l = (((List.range 64).map fun (k : Nat) => (k : Int)).filter fun f => usedB b f && !usedB (b.set i ⟨pi, pt, true, [], td⟩) f) := ⟨_, rfl⟩
  have hen : endP b pi = (0, b.set i ⟨pi, pt, true, [], td⟩, gone) := by
    unfold endP
    rw [hlv]
    dsimp only
    rw [hp, hgo]
  have hmem : ∀ z ∈ gone, usedB b z = true ∧ usedB (b.set i ⟨pi, pt, true, [], td⟩) z = false := fun z hz => by
    rw [hgo] at hz
    have := (List.mem_filter.1 hz).2
    rw [Bool.and_eq_true] at this
    exact ⟨this.1, by have := this.2; simpa using this⟩
  have hnd : gone.Nodup := by
    rw [hgo]
    refine List.Pairwise.sublist List.filter_sublist ?_
    rw [List.pairwise_map]
    refine List.Pairwise.imp ?_ (show (List.range 64).Pairwise (· ≠ ·) from List.nodup_range)
    intro a c h e
    exact h (Int.ofNat_inj.1 e)
  have hocc : ∀ z ∈ gone, 0 ≤ z ∧ z < F.length ∧ occB (F[z.toNat]!).st = true := fun z hz => by
    obtain ⟨p, hpm, x, hxm, rfl⟩ := usedB_iff.1 (hmem z hz).1
    have h1 := (g.one p hpm).pnum x hxm
    refine ⟨h1.2.2.1, h1.2.2.2, ?_⟩
    have h2 := held x.f.toNat (by omega) (by rw [used_not_nil, show ((x.f.toNat : Nat) : Int) = x.f by omega]; exact (hmem x.f hz).1)
    unfold occB
    rcases h2 with h2 | h2 <;> rw [h2] <;> rfl
  obtain ⟨G, e1, e2, e3, e4⟩ := gives_all xf gone hF hnd hocc
  have hhas := has_at (F := 0) hi hp hm hx (-1) (.inl (by decide))
  have hca : carryP F b ⟨5, xf, 0, pi, xn⟩ = (0, G, b.set i ⟨pi, pt, true, [], td⟩) := by
    unfold carryP
    dsimp only
    rw [if_neg (by decide), if_neg (by decide), if_neg (by decide), if_pos rfl]
    unfold ckillP
    dsimp only
    rw [hen]
    dsimp only
    rw [e1, hhas]
    rfl
  have hst : stateE F b ⟨5, xf, 0, pi, xn⟩ = 0 := by
    unfold stateE
    dsimp only
    rw [if_neg (by simp)]
  refine ⟨G, ?_, e2, e3, e4 xf (.inr rfl), (g.ends hen).1, fun t ht hu => ?_⟩
  · unfold applyP
    dsimp only
    rw [if_neg (by decide), if_neg (by omega), hst, if_neg (by simp), hca]
    rfl
  · have hu2 := used_not_nil.1 hu
    have hng : (t : Int) ∉ gone := fun h => by have := (hmem _ h).2; rw [hu2] at this; cases this
    rw [e4 t (.inl hng)]
    refine held t ht (used_not_nil.2 ?_)
    obtain ⟨p, hpm, x, hxm, e⟩ := usedB_iff.1 hu2
    rcases List.mem_or_eq_of_mem_set hpm with hpm | rfl
    · exact usedB_iff.2 ⟨p, hpm, x, hxm, e⟩
    · exact absurd hxm List.not_mem_nil
end Go.Proofs.Ytmnddnlabdafcaa
