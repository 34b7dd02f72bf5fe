/- Several texts in one: WhLaw, WhLaw2, WhLaw3, ApLaw. -/
import Derived.Test.YtedbpmckgiifpaaGreatRelo
import Derived.Test.YtedbpmckgiifpaaGreatToLaw
/- All that is decided about a damaged frame, done in order: plain words. -/
namespace Go.Proofs.YtedbpmckgiifpaaGreat
set_option linter.unusedSimpArgs false
set_option linter.unusedVariables false
open Go.RowKit

/-- Deeds done in order, each without an error. -/
inductive RunsD : List Dd → List Fr → List Pr → List Fr → List Pr → Prop
  | nil {F : List Fr} {ps : List Pr} : RunsD [] F ps F ps
  | cons {d : Dd} {l : List Dd} {F F' Fz : List Fr} {ps ps' pz : List Pr} (hF : FrV F) (hg : GoodP F.length ps) (h : applyP F ps d = (0, F', ps')) (h1 : F'.length = F.length) (h2 : ps'.length = ps.length) (r : RunsD l F' ps' Fz pz) : RunsD (d :: l) F ps Fz pz
theorem RunsD.app {l1 l2 : List Dd} {F F1 Fz : List Fr} {ps p1 pz : List Pr} (a : RunsD l1 F ps F1 p1) (b : RunsD l2 F1 p1 Fz pz) : RunsD (l1 ++ l2) F ps Fz pz := by
  induction a with
  | nil => exact b
  | cons hF hg h h1 h2 r ih => exact .cons hF hg h h1 h2 (ih b)
def hasF (f : Int) (p : Pr) : Bool := p.pages.any fun x => decide (x.f = f)
/-- What becomes of a program. -/
structure VicR (f : Int) (p q : Pr) : Prop where
  id : q.id = p.id
  off : hasF f p = false → q = p
  no : ∀ x ∈ q.pages, x.f ≠ f
  tel : hasF f p = true → p.tells = true → q.dead = false ∧ p.dead = false ∧ q.pages.length + 1 = p.pages.length ∧ q.told.length = 1
  kil : hasF f p = true → p.tells = false → q.dead = true ∧ p.dead = false ∧ q.told = p.told
structure StV (F0 : List Fr) (ps : List Pr) (f : Nat) (i : Nat) (F : List Fr) (b : List Pr) : Prop where
  fr : FrV F
  flen : F.length = F0.length
  good : GoodP F.length b
  held : ∀ t, t < F.length → usersL b t ≠ [] → (F[t]!).st = 1 ∨ (F[t]!).st = 2
  ff : F[f]! = F0[f]!
  blen : b.length = ps.length
  done : ∀ j, j < i → j < ps.length → VicR f ps[j]! b[j]!
  rest : ∀ j, i ≤ j → j < ps.length → b[j]! = ps[j]!
theorem used_not_nil {ps : List Pr} {f : Int} : usersL ps f ≠ [] ↔ usedB ps f = true := by
  rw [used_iff]; exact List.length_pos_iff.symm
/-- Frames given back: all but f. -/
theorem gives_all (f : Int) : ∀ (l : List Int) {F : List Fr}, FrV F → l.Nodup → (∀ g ∈ l, 0 ≤ g ∧ g < F.length ∧ occB (F[g.toNat]!).st = true) → ∃ G, givesP f F l = (0, G) ∧ FrV G ∧ G.length = F.length ∧ ∀ t : Nat, ((t : Int) ∉ l ∨ (t : Int) = f) → G[t]! = F[t]!
  | [], F, hF, _, _ => ⟨F, rfl, hF, rfl, fun _ _ => rfl⟩
  | g :: l, F, hF, hn, h => by
    rw [List.nodup_cons] at hn
    by_cases e : g = f
    · obtain ⟨G, h1, h2, h3, h4⟩ := gives_all f l hF hn.2 (fun g hg => h g (by simp [hg]))
      refine ⟨G, by unfold givesP; rw [if_pos e]; exact h1, h2, h3, fun t ht => h4 t ?_⟩
      rcases ht with ht | ht
      · exact .inl fun hm => ht (by simp [hm])
      · exact .inr ht
    · obtain ⟨g0, g1, g2⟩ := h g (by simp)
      obtain ⟨k, rfl⟩ : ∃ k : Nat, g = k := ⟨g.toNat, by omega⟩
      have hk : k < F.length := by omega
      have hgv : giveP F k = (0, F.set k ⟨0, 0⟩) := by
        unfold giveP
        rw [if_neg (by omega), if_neg (by rw [g2]; decide)]
        rfl
      have hF2 : FrV (F.set k ⟨0, 0⟩) := hF.set k rfl
      obtain ⟨G, h1, h2, h3, h4⟩ := gives_all f l hF2 hn.2 (fun g hg => by
        obtain ⟨a, b, c⟩ := h g (by simp [hg])
        refine ⟨a, by rw [List.length_set]; exact b, ?_⟩
        have hne : g.toNat ≠ k := fun e2 => hn.1 (by have : g = (k : Int) := by omega
                                                     rw [← this]; exact hg)
        rw [set_bang_ne _ (by omega) (by omega)]; exact c)
      rw [List.length_set] at h3
      refine ⟨G, ?_, h2, h3, fun t ht => ?_⟩
      · unfold givesP
        rw [if_neg e, hgv]
        exact h1
      · have htk : t ≠ k := fun e2 => by
          subst e2
          rcases ht with ht | ht
          · exact ht (by simp)
          · exact e ht
        rw [h4 t (by rcases ht with ht | ht
                     · exact .inl fun hm => ht (by simp [hm])
                     · exact .inr ht)]
        by_cases h9 : t < F.length
        · rw [set_bang_ne _ (by omega) (by omega)]
        · rw [getElem!_neg _ t (by rw [List.length_set]; exact h9), getElem!_neg _ t h9]
theorem has_at {F : Int} {b : List Pr} {i m : Nat} (hi : i < b.length) {pi : Int} {pt pd : Bool} {pg : List Pg} {td : List Int} (hp : b[i]! = ⟨pi, pt, pd, pg, td⟩) (hm : m < pg.length) {xn xf : Int} {xs : Bool} (hx : pg[m]! = ⟨xn, xf, xs⟩) (q : Int) (hq : q < 0 ∨ q = xn) : hasB b xf pi q = true := by
  unfold hasB
  rw [List.any_eq_true]
  refine ⟨(pi, xn), ?_, by unfold hasT; rcases hq with h | h <;> simp [h]⟩
  rw [usersL_eq]
  refine List.mem_flatMap.2 ⟨b[i]!, at_mem hi, ?_⟩
  rw [hp]
  exact List.mem_map.2 ⟨⟨xn, xf, xs⟩, List.mem_filter.2 ⟨by rw [← hx]; exact at_mem hm, by simp⟩, rfl⟩
theorem tell_step {F : List Fr} {b : List Pr} (g : GoodP F.length b) {i m : Nat} (hi : i < b.length) {pi : Int} {pt : Bool} {pg : List Pg} (hp : b[i]! = ⟨pi, pt, false, pg, []⟩) (hm : m < pg.length) {xn xf : Int} {xs : Bool} (hx : pg[m]! = ⟨xn, xf, xs⟩) :
    applyP F b ⟨4, xf, 0, pi, xn⟩ = (0, F, b.set i ⟨pi, pt, false, pg.eraseIdx m, [xn]⟩) ∧ GoodP F.length (b.set i ⟨pi, pt, false, pg.eraseIdx m, [xn]⟩) := by
  have g1 := g.one _ (at_mem hi)
  rw [hp] at g1
  have hf := findP_at' g.asc hi hp rfl g1.pasc hm hx
  dsimp only at hf
  have hte : tellP b pi xn = (0, b.set i ⟨pi, pt, false, pg.eraseIdx m, [xn]⟩, leftP (b.set i { b[i]! with pages := (b[i]!).pages.eraseIdx m }) ((b[i]!).pages[m]!).f) := by
    rw [tellP_of hf]
    rw [hp]
    rfl
  have hpn := g1.pnum _ (at_mem hm)
  rw [hx] at hpn
  dsimp only at hpn
  refine ⟨?_, (g.tell hte).1⟩
  have hhas := has_at (F := 0) hi hp hm hx xn (.inr rfl)
  have hca : carryP F b ⟨4, xf, 0, pi, xn⟩ = (0, F, b.set i ⟨pi, pt, false, pg.eraseIdx m, [xn]⟩) := by
    unfold carryP
    dsimp only
    rw [if_neg (by decide), if_neg (by decide), if_pos rfl]
    unfold ctellP
    dsimp only
    rw [hte, hhas]
    rfl
  have hst : stateE F b ⟨4, xf, 0, pi, xn⟩ = 0 := by
    unfold stateE
    dsimp only
    rw [if_neg (by simp)]
  unfold applyP
  dsimp only
  rw [if_neg (by decide), if_neg (by omega), hst, if_neg (by simp), hca]
  rfl
theorem usedB_iff {ps : List Pr} {f : Int} : usedB ps f = true ↔ ∃ p ∈ ps, ∃ x ∈ p.pages, x.f = f := by
  unfold usedB
  rw [List.any_eq_true]
  constructor
  · rintro ⟨p, hp, h⟩
    obtain ⟨x, hx, e⟩ := List.any_eq_true.1 h
    exact ⟨p, hp, x, hx, of_decide_eq_true e⟩
  · rintro ⟨p, hp, x, hx, e⟩
    exact ⟨p, hp, List.any_eq_true.2 ⟨x, hx, decide_eq_true e⟩⟩
theorem kill_step {F : List Fr} {b : List Pr} (hF : FrV F) (g : GoodP F.length b) (held : ∀ t, t < F.length → usersL b t ≠ [] → (F[t]!).st = 1 ∨ (F[t]!).st = 2) {i m : Nat} (hi : i < b.length) {pi : Int} {pt : Bool} {pg : List Pg} {td : List Int} (hp : b[i]! = ⟨pi, pt, false, pg, td⟩) (hm : m < pg.length) {xn : Int} {xf : Nat} {xs : Bool} (hx : pg[m]! = ⟨xn, xf, xs⟩) :
    ∃ G, applyP F b ⟨5, xf, 0, pi, xn⟩ = (0, G, b.set i ⟨pi, pt, true, [], td⟩) ∧ FrV G ∧ G.length = F.length ∧ G[xf]! = F[xf]! ∧ GoodP F.length (b.set i ⟨pi, pt, true, [], td⟩) ∧ ∀ t, t < F.length → usersL (b.set i ⟨pi, pt, true, [], td⟩) t ≠ [] → (G[t]!).st = 1 ∨ (G[t]!).st = 2 := by
  have g1 := g.one _ (at_mem hi)
  rw [hp] at g1
  have hpn := g1.pnum _ (at_mem hm)
  rw [hx] at hpn
  dsimp only at hpn
  have hlv := live_find g.asc hi (by rw [hp])
  rw [hp] at hlv
  dsimp only at hlv
  obtain ⟨gone, hgo⟩ : ∃ l, l = (((List.range 64).map fun (k : Nat) => (k : Int)).filter fun f => usedB b f && !usedB (b.set i ⟨pi, pt, true, [], td⟩) f) := ⟨_, rfl⟩
  have hen : endP b pi = (0, b.set i ⟨pi, pt, true, [], td⟩, gone) := by
    unfold endP
    rw [hlv]
    dsimp only
    rw [hp, hgo]
  have hmem : ∀ z ∈ gone, usedB b z = true ∧ usedB (b.set i ⟨pi, pt, true, [], td⟩) z = false := fun z hz => by
    rw [hgo] at hz
    have := (List.mem_filter.1 hz).2
    rw [Bool.and_eq_true] at this
    exact ⟨this.1, by have := this.2; simpa using this⟩
  have hnd : gone.Nodup := by
    rw [hgo]
    refine List.Pairwise.sublist List.filter_sublist ?_
    rw [List.pairwise_map]
    refine List.Pairwise.imp ?_ (show (List.range 64).Pairwise (· ≠ ·) from List.nodup_range)
    intro a c h e
    exact h (Int.ofNat_inj.1 e)
  have hocc : ∀ z ∈ gone, 0 ≤ z ∧ z < F.length ∧ occB (F[z.toNat]!).st = true := fun z hz => by
    obtain ⟨p, hpm, x, hxm, rfl⟩ := usedB_iff.1 (hmem z hz).1
    have h1 := (g.one p hpm).pnum x hxm
    refine ⟨h1.2.2.1, h1.2.2.2, ?_⟩
    have h2 := held x.f.toNat (by omega) (by rw [used_not_nil, show ((x.f.toNat : Nat) : Int) = x.f by omega]; exact (hmem x.f hz).1)
    unfold occB
    rcases h2 with h2 | h2 <;> rw [h2] <;> rfl
  obtain ⟨G, e1, e2, e3, e4⟩ := gives_all xf gone hF hnd hocc
  have hhas := has_at (F := 0) hi hp hm hx (-1) (.inl (by decide))
  have hca : carryP F b ⟨5, xf, 0, pi, xn⟩ = (0, G, b.set i ⟨pi, pt, true, [], td⟩) := by
    unfold carryP
    dsimp only
    rw [if_neg (by decide), if_neg (by decide), if_neg (by decide), if_pos rfl]
    unfold ckillP
    dsimp only
    rw [hen]
    dsimp only
    rw [e1, hhas]
    rfl
  have hst : stateE F b ⟨5, xf, 0, pi, xn⟩ = 0 := by
    unfold stateE
    dsimp only
    rw [if_neg (by simp)]
  refine ⟨G, ?_, e2, e3, e4 xf (.inr rfl), (g.ends hen).1, fun t ht hu => ?_⟩
  · unfold applyP
    dsimp only
    rw [if_neg (by decide), if_neg (by omega), hst, if_neg (by simp), hca]
    rfl
  · have hu2 := used_not_nil.1 hu
    have hng : (t : Int) ∉ gone := fun h => by have := (hmem _ h).2; rw [hu2] at this; cases this
    rw [e4 t (.inl hng)]
    refine held t ht (used_not_nil.2 ?_)
    obtain ⟨p, hpm, x, hxm, e⟩ := usedB_iff.1 hu2
    rcases List.mem_or_eq_of_mem_set hpm with hpm | rfl
    · exact usedB_iff.2 ⟨p, hpm, x, hxm, e⟩
    · exact absurd hxm List.not_mem_nil
end Go.Proofs.YtedbpmckgiifpaaGreat

/- All that is decided about a damaged frame, done in order: one program after the other; the end. Plain words. -/
namespace Go.Proofs.YtedbpmckgiifpaaGreat
set_option linter.unusedSimpArgs false
set_option linter.unusedVariables false
open Go.RowKit

theorem one_use {pg : List Pg} (hd : pg.Pairwise (·.f ≠ ·.f)) {m : Nat} (hm : m < pg.length) {xn xf : Int} {xs : Bool} (hx : pg[m]! = ⟨xn, xf, xs⟩) (id : Int) : usesOf id pg xf = [(id, xn)] := by
  have h1 := ofFr_one (f := xf) hd
  have h2 : (⟨xn, xf, xs⟩ : Pg) ∈ ofFr xf pg := mem_ofFr.2 ⟨by rw [← hx]; exact at_mem hm, rfl⟩
  have h3 : ofFr xf pg = [⟨xn, xf, xs⟩] := by
    rcases h9 : ofFr xf pg with _ | ⟨a, _ | ⟨b, l⟩⟩
    · rw [h9] at h2; exact absurd h2 List.not_mem_nil
    · rw [h9] at h2; rw [List.mem_singleton.1 h2]
    · rw [h9] at h1; simp at h1
  unfold usesOf
  unfold ofFr at h3
  rw [h3]
  rfl
theorem no_use {f : Int} {p : Pr} (h : hasF f p = false) : usesOf p.id p.pages f = [] ∧ ∀ x ∈ p.pages, x.f ≠ f := by
  unfold hasF at h
  have h1 : ∀ x ∈ p.pages, x.f ≠ f := fun x hx e => List.any_eq_false.1 h x hx (decide_eq_true e)
  refine ⟨?_, h1⟩
  unfold usesOf
  rw [List.map_eq_nil_iff, List.filter_eq_nil_iff]
  intro x hx e
  exact h1 x hx (of_decide_eq_true e)
theorem erase_mem {pg : List Pg} {m : Nat} (hd : pg.Pairwise (·.f ≠ ·.f)) (hm : m < pg.length) : ∀ x ∈ pg.eraseIdx m, x ∈ pg ∧ x.f ≠ (pg[m]!).f := fun x hx => by
  obtain ⟨i, hi, hne, rfl⟩ := List.mem_eraseIdx_iff_getElem.1 hx
  refine ⟨List.getElem_mem _, ?_⟩
  rw [getElem!_pos pg m hm]
  rcases Nat.lt_trichotomy i m with h | h | h
  · exact List.pairwise_iff_getElem.1 hd i m hi hm h
  · exact absurd h hne
  · exact fun e => List.pairwise_iff_getElem.1 hd m i hm hi h e.symm
theorem stage {F0 : List Fr} {ps : List Pr} (h : Held F0 ps) {f : Nat} {i : Nat} (hi : i < ps.length) {F : List Fr} {b : List Pr} (S : StV F0 ps f i F b) :
    ∃ F' b', RunsD ((usesOf (ps[i]!).id (ps[i]!).pages f).map (ddOf ps f)) F b F' b' ∧ StV F0 ps f (i + 1) F' b' := by
  have hbi := S.rest i (Nat.le_refl _) hi
  have hil : i < b.length := by rw [S.blen]; exact hi
  cases hh : hasF f ps[i]! with
  | false =>
    obtain ⟨h1, h2⟩ := no_use hh
    rw [h1]
    refine ⟨F, b, .nil, S.fr, S.flen, S.good, S.held, S.ff, S.blen, fun j hj hjl => ?_, fun j hj hjl => S.rest j (by omega) hjl⟩
    by_cases e : j = i
    · subst e
      rw [hbi]
      exact ⟨rfl, fun _ => rfl, h2, (fun e => by rw [hh] at e; cases e), (fun e => by rw [hh] at e; cases e)⟩
    · exact S.done j (by omega) hjl
  | true =>
    have g1 := h.pr.good.one _ (at_mem hi)
    have gl := (h.pr.low _ (at_mem hi)).2
    have hta := tells_at h.pr.good hi rfl
    obtain ⟨p, hp⟩ : ∃ p, p = ps[i]! := ⟨_, rfl⟩
    rw [← hp] at hh g1 gl hta hbi ⊢
    obtain ⟨pi, pt, pd, pg, td⟩ := p
    obtain ⟨x, hx, hxf⟩ := List.any_eq_true.1 hh
    obtain ⟨m, hm, hxm⟩ := List.getElem_of_mem hx
    have hm' : m < pg.length := hm
    have hxm' : pg[m]! = x := by rw [getElem!_pos pg m hm']; exact hxm
    obtain ⟨xn, xf, xs⟩ := x
    obtain rfl : xf = f := of_decide_eq_true hxf
    have hd : pd = false := by
      cases pd with
      | false => rfl
      | true => have := g1.dead rfl; dsimp only at this; subst this; exact absurd hm' (Nat.not_lt_zero _)
    have ht : td = [] := gl
    subst hd ht
    have hus := one_use g1.pfr hm' hxm' pi
    dsimp only at hus hta ⊢
    rw [hus]
    have hdd : ddOf ps f (pi, xn) = ⟨if pt = true then 4 else 5, f, 0, pi, xn⟩ := by unfold ddOf; dsimp only; rw [hta]
    rw [List.map_cons, List.map_nil, hdd]
    have hset : ∀ q : Pr, VicR f ⟨pi, pt, false, pg, []⟩ q → (∀ j, j < i + 1 → j < ps.length → VicR f ps[j]! (b.set i q)[j]!) ∧ ∀ j, i + 1 ≤ j → j < ps.length → (b.set i q)[j]! = ps[j]! := fun q hq => by
      refine ⟨fun j hj hjl => ?_, fun j hj hjl => ?_⟩
      · by_cases e : j = i
        · subst e
          rw [set_bang _ hil, ← hp]; exact hq
        · rw [set_bang_ne _ (by rw [S.blen]; exact hjl) (by omega)]
          exact S.done j (by omega) hjl
      · rw [set_bang_ne _ (by rw [S.blen]; exact hjl) (by omega)]
        exact S.rest j (by omega) hjl
    have hhas : hasF f ⟨pi, pt, false, pg, []⟩ = true := hh
    cases pt with
    | true =>
      obtain ⟨e1, e2⟩ := tell_step S.good hil hbi hm' hxm'
      have hv : VicR f ⟨pi, true, false, pg, []⟩ ⟨pi, true, false, pg.eraseIdx m, [xn]⟩ := by
        refine ⟨rfl, (fun e => by rw [hhas] at e; cases e), fun x hx => ?_, fun _ _ => ⟨rfl, rfl, ?_, rfl⟩, (fun _ e => by cases e)⟩
        · have := (erase_mem g1.pfr hm' x hx).2
          rw [hxm'] at this
          exact this
        · have := List.length_eraseIdx_of_lt hm'
          dsimp only
          omega
      obtain ⟨d1, d2⟩ := hset _ hv
      refine ⟨F, _, .cons S.fr S.good e1 rfl (List.length_set ..) .nil, S.fr, S.flen, e2, fun t ht hu => ?_, S.ff, by rw [List.length_set]; exact S.blen, d1, d2⟩
      refine S.held t ht (used_not_nil.2 ?_)
      obtain ⟨p, hpm, x, hxm, e⟩ := usedB_iff.1 (used_not_nil.1 hu)
      rcases List.mem_or_eq_of_mem_set hpm with hpm | rfl
      · exact usedB_iff.2 ⟨p, hpm, x, hxm, e⟩
      · exact usedB_iff.2 ⟨_, at_mem hil, x, by rw [hbi]; exact (erase_mem g1.pfr hm' x hxm).1, e⟩
    | false =>
      obtain ⟨G, e1, e2, e3, e4, e5, e6⟩ := kill_step S.fr S.good S.held hil hbi hm' hxm'
      have hv : VicR f ⟨pi, false, false, pg, []⟩ ⟨pi, false, true, [], []⟩ :=
        ⟨rfl, (fun e => by rw [hhas] at e; cases e), fun x hx => absurd hx List.not_mem_nil, (fun _ e => by cases e), fun _ _ => ⟨rfl, rfl, rfl⟩⟩
      obtain ⟨d1, d2⟩ := hset _ hv
      refine ⟨G, _, .cons S.fr S.good e1 e3 (List.length_set ..) .nil, e2, e3.trans S.flen, by rw [e3]; exact e5, fun t ht hu => e6 t (by rw [← e3]; exact ht) hu, e4.trans S.ff, by rw [List.length_set]; exact S.blen, d1, d2⟩
theorem stages {F0 : List Fr} {ps : List Pr} (h : Held F0 ps) (f : Nat) : ∀ n, n ≤ ps.length → ∃ F b, RunsD ((usersL (ps.take n) f).map (ddOf ps f)) F0 ps F b ∧ StV F0 ps f n F b
  | 0, _ => ⟨F0, ps, .nil, h.fr, rfl, h.pr.good, h.held, rfl, rfl, fun j hj => absurd hj (Nat.not_lt_zero _), fun _ _ _ => rfl⟩
  | n + 1, hn => by
    obtain ⟨F, b, h1, h2⟩ := stages h f n (by omega)
    obtain ⟨F', b', h3, h4⟩ := stage h (show n < ps.length by omega) h2
    refine ⟨F', b', ?_, h4⟩
    have e : usersL (ps.take (n + 1)) f = usersL (ps.take n) f ++ usesOf (ps[n]!).id (ps[n]!).pages f := by
      rw [usersL_eq, usersL_eq, take_snoc (show n < ps.length by omega), List.flatMap_append]
      simp
    rw [e, List.map_append]
    exact h1.app h3
theorem retire_step {F : List Fr} {b : List Pr} {f : Nat} (hf : f < F.length) (h4 : (F[f]!).st ≠ 4) (h5 : (F[f]!).st ≠ 5) (hu : usedB b f = false) : applyP F b ⟨1, f, 0, 0, 0⟩ = (0, F.set f ⟨5, 0⟩, b) := by
  have hst : stateE F b ⟨1, f, 0, 0, 0⟩ = 0 := by
    unfold stateE
    dsimp only
    rw [hu, if_neg (by simp)]
  have hca : carryP F b ⟨1, f, 0, 0, 0⟩ = (0, F.set f ⟨5, 0⟩, b) := by
    unfold carryP
    dsimp only
    rw [if_pos rfl]
    have : retireP F f = (0, F.set f ⟨5, 0⟩) := by
      unfold retireP
      rw [if_neg (by omega), if_neg (fun h => h.elim h4 h5)]
      rfl
    rw [this]
  unfold applyP
  dsimp only
  rw [if_neg (by decide), if_neg (by simp; omega), hst, if_neg (by simp), hca]
  rfl
/-- What becomes of one program in the end. -/
def OutP (f : Nat) (s : Int) (mv : Bool) (p q : Pr) : Prop :=
  (q.told.length = p.told.length ∧ q.dead = p.dead ∧ q.pages.length = p.pages.length ∧ (hasF f p = true → s ≠ 2)) ∨
  (hasF f p = true ∧ p.tells = true ∧ q.dead = false ∧ p.dead = false ∧ q.pages.length + 1 = p.pages.length ∧ q.told.length = 1 ∧ p.told.length = 0 ∧ ¬ (s = 1 ∧ mv = true)) ∨
  (hasF f p = true ∧ p.tells = false ∧ q.dead = true ∧ p.dead = false ∧ q.told.length = p.told.length ∧ ¬ (s = 1 ∧ mv = true))
/-- The end of it all. -/
structure Fin (F : List Fr) (ps : List Pr) (f : Nat) (s : Int) (mv : Bool) (l : List Dd) (a : List Fr) (b : List Pr) : Prop where
  runs : RunsD l F ps a b
  fr : FrV a
  good : GoodP a.length b
  alen : a.length = F.length
  blen : b.length = ps.length
  stop : (∃ d ∈ l, d.k = 6) ↔ s = 4 ∨ s = 3 ∧ mv = false
  clear : ¬ (s = 4 ∨ s = 3 ∧ mv = false) → usersL b f = [] ∧ (a[f]!).st = 5
  out : ∀ i, i < ps.length → OutP f s mv ps[i]! b[i]!
end Go.Proofs.YtedbpmckgiifpaaGreat

/- All that is decided about a damaged frame, done in order: the end. Plain words. -/
namespace Go.Proofs.YtedbpmckgiifpaaGreat
set_option linter.unusedSimpArgs false
set_option linter.unusedVariables false
open Go.RowKit

theorem stop_step {F : List Fr} {b : List Pr} {f : Nat} (hf : f < F.length) : applyP F b ⟨6, f, 0, 0, 0⟩ = (0, F, b) := by
  have hst : stateE F b ⟨6, f, 0, 0, 0⟩ = 0 := by
    unfold stateE
    dsimp only
    rw [if_neg (by simp)]
  have hca : carryP F b ⟨6, f, 0, 0, 0⟩ = (0, F, b) := by
    unfold carryP
    dsimp only
    rw [if_neg (by decide), if_neg (by decide), if_neg (by decide), if_neg (by decide)]
  unfold applyP
  dsimp only
  rw [if_neg (by decide), if_neg (by simp; omega), hst, if_neg (by simp), hca]
  rfl
theorem move_step {F : List Fr} {ps : List Pr} (h : Held F ps) {f t : Nat} (hf : f < F.length) (ht : t < F.length) {kd : Int} (hk : kd = 2 ∧ (F[f]!).st = 1 ∨ kd = 3 ∧ (F[f]!).st = 3) (h0 : (F[t]!).st = 0) :
    applyP F ps ⟨kd, f, t, 0, 0⟩ = (0, (F.set t F[f]!).set f ⟨0, 0⟩, ps.map (moveP f t)) ∧ replP ps f t = (0, ps.map (moveP f t)) := by
  have hfr : freeAtF F t = true := by
    unfold freeAtF
    simp only [Bool.and_eq_true, decide_eq_true_eq]
    exact ⟨⟨by omega, by omega⟩, h0⟩
  have hF2 := h.fr.high
  have e3 : replP ps f t = (0, ps.map (moveP f t)) := by
    unfold replP
    rw [if_neg (by omega), if_neg (fun h' => by have := h.unused ht h0; rw [this] at h'; cases h'.2)]
  refine ⟨?_, e3⟩
  have e2 : stateE F ps ⟨kd, f, t, 0, 0⟩ = 0 := by
    unfold stateE
    dsimp only
    have e1 : ((F[((f : Nat) : Int).toNat]!).st) = (F[f]!).st := rfl
    rw [e1]
    rcases hk with ⟨rfl, hs⟩ | ⟨rfl, hs⟩ <;> rw [hs, if_neg (by simp)]
  have e4 : carryP F ps ⟨kd, f, t, 0, 0⟩ = (0, (F.set t F[f]!).set f ⟨0, 0⟩, ps.map (moveP f t)) := by
    unfold carryP
    dsimp only
    rw [if_neg (by omega), if_pos (by omega)]
    unfold shiftP
    rw [e3]
    rfl
  unfold applyP
  dsimp only
  rw [if_neg (by omega), if_neg (fun h' => by rcases h' with h' | h' | h'; omega; omega; rw [hfr] at h'; cases h'.2), e2, if_neg (by simp), e4]
  rfl
theorem same_out {f : Nat} {s : Int} {mv : Bool} {p q : Pr} (h1 : q.told.length = p.told.length) (h2 : q.dead = p.dead) (h3 : q.pages.length = p.pages.length) (h4 : s ≠ 2) : OutP f s mv p q := .inl ⟨h1, h2, h3, fun _ => h4⟩
theorem Held.not_used {F : List Fr} {ps : List Pr} (h : Held F ps) {f : Nat} (hf : f < F.length) (h1 : (F[f]!).st ≠ 1) (h2 : (F[f]!).st ≠ 2) : usersL ps f = [] := by
  refine Classical.byContradiction fun hn => ?_
  rcases h.held f hf hn with e | e
  · exact h1 e
  · exact h2 e
theorem not_usedB {ps : List Pr} {f : Int} (h : usersL ps f = []) : usedB ps f = false := by
  cases hu : usedB ps f with
  | false => rfl
  | true => exact absurd h (used_not_nil.2 hu)
theorem st_set {F : List Fr} {f : Nat} (hf : f < F.length) : ((F.set f ⟨5, 0⟩)[f]!).st = 5 := by rw [set_bang _ hf]
theorem whole_law {F : List Fr} {ps : List Pr} (h : Held F ps) {f : Nat} (hf : f < F.length) (tq : Int) (htq : tq = -1 ∨ freeAtF F tq = true ∧ tq ≠ f) :
    ∃ l a b, decP true F ps f tq = (0, l) ∧ Fin F ps f (F[f]!).st (decide (tq ≠ -1)) l a b := by
  have hfit := h.fr.fit _ (at_mem hf)
  obtain ⟨s, hs⟩ : ∃ s, s = (F[f]!).st := ⟨_, rfl⟩
  have hsr : s = 0 ∨ s = 1 ∨ s = 2 ∨ s = 3 ∨ s = 4 ∨ s = 5 := by
    unfold fitB at hfit
    rw [← hs] at hfit
    split at hfit
    · omega
    · have := of_decide_eq_true hfit; omega
  rw [← hs]
  have hdec : decP true F ps f tq = (if s = 5 then (0, []) else if s = 0 then (0, [⟨1, f, 0, 0, 0⟩]) else if s = 4 ∨ s = 3 ∧ tq = -1 then (0, [⟨6, f, 0, 0, 0⟩]) else if s = 3 then (0, [⟨3, f, tq, 0, 0⟩, ⟨1, f, 0, 0, 0⟩]) else if s = 1 ∧ tq ≠ -1 then (0, [⟨2, f, tq, 0, 0⟩, ⟨1, f, 0, 0, 0⟩]) else (0, vicP ps f ++ [⟨1, f, 0, 0, 0⟩])) := by
    unfold decP
    rw [if_neg (by decide), if_neg (by omega), if_neg (fun hh => by
      rcases htq with e | ⟨e1, e2⟩
      · exact hh.1 e
      · rcases hh.2 with e | e
        · exact e2 e
        · rw [e1] at e; cases e)]
    dsimp only
    rw [show (F[((f : Nat) : Int).toNat]!).st = s from hs.symm]
  rw [hdec]
  clear hdec
  have hrf : FrV (F.set f ⟨5, 0⟩) := h.fr.set f rfl
  have hgl : GoodP (F.set f ⟨5, 0⟩).length ps := by rw [List.length_set]; exact h.pr.good
  by_cases h5 : s = 5
  · rw [if_pos h5]
    have hu := h.not_used hf (by rw [← hs]; omega) (by rw [← hs]; omega)
    exact ⟨[], F, ps, rfl, .nil, h.fr, h.pr.good, rfl, rfl, ⟨fun ⟨d, hd, _⟩ => absurd hd List.not_mem_nil, fun e => by omega⟩, fun _ => ⟨hu, by rw [← hs]; exact h5⟩, fun i hi => same_out rfl rfl rfl (by omega)⟩
  rw [if_neg h5]
  by_cases h0 : s = 0
  · rw [if_pos h0]
    have hu := h.not_used hf (by rw [← hs]; omega) (by rw [← hs]; omega)
    have hr := retire_step (b := ps) hf (by rw [← hs]; omega) (by rw [← hs]; omega) (not_usedB hu)
    exact ⟨_, F.set f ⟨5, 0⟩, ps, rfl, .cons h.fr h.pr.good hr (List.length_set ..) rfl .nil, hrf, hgl, List.length_set .., rfl,
      ⟨(fun ⟨d, hd, e⟩ => by rw [List.mem_singleton.1 hd] at e; cases e), fun e => by omega⟩, fun _ => ⟨hu, st_set hf⟩, fun i hi => same_out rfl rfl rfl (by omega)⟩
  rw [if_neg h0]
  by_cases h4 : s = 4 ∨ s = 3 ∧ tq = -1
  · rw [if_pos h4]
    have hm : s = 4 ∨ s = 3 ∧ decide (tq ≠ -1) = false := h4.imp id fun e => ⟨e.1, by rw [e.2]; rfl⟩
    exact ⟨_, F, ps, rfl, .cons h.fr h.pr.good (stop_step hf) rfl rfl .nil, h.fr, h.pr.good, rfl, rfl,
      ⟨fun _ => hm, fun _ => ⟨_, List.mem_singleton.2 rfl, rfl⟩⟩, fun e => absurd hm e, fun i hi => same_out rfl rfl rfl (by omega)⟩
  rw [if_neg h4]
  have hnm : ¬ (s = 4 ∨ s = 3 ∧ decide (tq ≠ -1) = false) := fun e => h4 (e.imp id fun e => ⟨e.1, by have := e.2; simpa using this⟩)
  by_cases hmv : s = 3 ∨ s = 1 ∧ tq ≠ -1
  · have hne : tq ≠ -1 := by
      rcases hmv with e | e
      · exact fun e2 => h4 (.inr ⟨e, e2⟩)
      · exact e.2
    obtain ⟨hfr, hnf⟩ := htq.resolve_left hne
    unfold freeAtF at hfr
    simp only [Bool.and_eq_true, decide_eq_true_eq] at hfr
    obtain ⟨t, rfl⟩ : ∃ t : Nat, tq = t := ⟨tq.toNat, by omega⟩
    have ht : t < F.length := by omega
    have ht0 : (F[t]!).st = 0 := hfr.2
    have hft : f ≠ t := fun e => hnf (by rw [e])
    obtain ⟨kd, hkd⟩ : ∃ kd : Int, kd = if s = 3 then 3 else 2 := ⟨_, rfl⟩
    have hk : kd = 2 ∧ (F[f]!).st = 1 ∨ kd = 3 ∧ (F[f]!).st = 3 := by
      rw [← hs, hkd]
      rcases hmv with e | e
      · exact .inr ⟨if_pos e, e⟩
      · exact .inl ⟨if_neg (by omega), e.1⟩
    obtain ⟨m1, m2⟩ := move_step h hf ht hk ht0
    have hl : (if s = 3 then ((0 : Int), [(⟨3, f, t, 0, 0⟩ : Dd), ⟨1, f, 0, 0, 0⟩]) else if s = 1 ∧ (t : Int) ≠ -1 then (0, [⟨2, f, t, 0, 0⟩, ⟨1, f, 0, 0, 0⟩]) else (0, vicP ps f ++ [⟨1, f, 0, 0, 0⟩])) = (0, [⟨kd, f, t, 0, 0⟩, ⟨1, f, 0, 0, 0⟩]) := by
      rw [hkd]
      rcases hmv with e | e
      · rw [if_pos e, if_pos e]
      · rw [if_neg (by omega), if_pos e, if_neg (by omega)]
    rw [hl]
    have hum := users_move (a := f) (b := t) (ps := ps) (by omega) (h.unused ht ht0)
    have hfl : f < (F.set t F[f]!).length := by rw [List.length_set]; exact hf
    have hst : (((F.set t F[f]!).set f ⟨0, 0⟩)[f]!).st = 0 := by rw [set_bang _ hfl]
    have hlen : ((F.set t F[f]!).set f ⟨0, 0⟩).length = F.length := by rw [List.length_set, List.length_set]
    have hF1 : FrV ((F.set t F[f]!).set f ⟨0, 0⟩) := (h.fr.set t hfit).set f rfl
    have hg1 : GoodP F.length (ps.map (moveP f t)) := (h.pr.good.repl (b := t) (by omega) m2).1
    have hr := retire_step (F := (F.set t F[f]!).set f ⟨0, 0⟩) (b := ps.map (moveP f t)) (by rw [hlen]; exact hf) (by rw [hst]; decide) (by rw [hst]; decide) (not_usedB hum.2)
    refine ⟨_, _, _, rfl, .cons h.fr h.pr.good m1 hlen (by rw [List.length_map]) (.cons hF1 (by rw [hlen]; exact hg1) hr (List.length_set ..) rfl .nil), hF1.set f rfl, by rw [List.length_set, hlen]; exact hg1, by rw [List.length_set, hlen], by rw [List.length_map],
      ⟨fun ⟨d, hd, e⟩ => ?_, fun e => absurd e hnm⟩, fun _ => ⟨hum.2, by rw [set_bang _ (by rw [hlen]; exact hf)]⟩, fun i hi => ?_⟩
    · rcases List.mem_cons.1 hd with rfl | hd
      · dsimp only at e; omega
      · rw [List.mem_singleton.1 hd] at e; cases e
    · have hq : (ps.map (moveP f t))[i]! = moveP f t ps[i]! := by
        rw [getElem!_pos _ i (by rw [List.length_map]; exact hi), List.getElem_map, getElem!_pos ps i hi]
      rw [hq]
      exact same_out rfl rfl (by show (List.map _ _).length = _; rw [List.length_map]) (by omega)
  · rw [if_neg (fun e => hmv (.inl e)), if_neg (fun e => hmv (.inr e))]
    obtain ⟨F1, b, r1, S⟩ := stages h f ps.length (Nat.le_refl _)
    rw [List.take_length] at r1
    have hs1 : s = 1 ∨ s = 2 := by omega
    have hub : usedB b f = false := by
      cases hu : usedB b f with
      | false => rfl
      | true =>
        obtain ⟨p, hp, x, hx, e⟩ := usedB_iff.1 hu
        obtain ⟨j, hj, rfl⟩ := List.getElem_of_mem hp
        have := (S.done j (by rw [← S.blen]; exact hj) (by rw [← S.blen]; exact hj)).no
        rw [getElem!_pos b j hj] at this
        exact absurd e (this x hx)
    have hf1 : f < F1.length := by rw [S.flen]; exact hf
    have hr := retire_step (F := F1) (b := b) hf1 (by rw [S.ff, ← hs]; omega) (by rw [S.ff, ← hs]; omega) hub
    refine ⟨_, _, _, rfl, r1.app (.cons S.fr S.good hr (List.length_set ..) rfl .nil), S.fr.set f rfl, by rw [List.length_set]; exact S.good, by rw [List.length_set]; exact S.flen, S.blen, ⟨fun ⟨d, hd, e⟩ => ?_, fun e => absurd e hnm⟩,
      fun _ => ⟨Classical.byContradiction (fun hn => by rw [used_not_nil.1 hn] at hub; cases hub), st_set hf1⟩, fun i hi => ?_⟩
    · rcases List.mem_append.1 hd with hd | hd
      · obtain ⟨u, -, rfl⟩ := List.mem_map.1 hd
        unfold ddOf at e
        dsimp only at e
        split at e <;> cases e
      · rw [List.mem_singleton.1 hd] at e; cases e
    · have hv := S.done i hi hi
      have hlow := (h.pr.low _ (at_mem hi)).2
      have hnn : ¬ (s = 1 ∧ decide (tq ≠ -1) = true) := fun e => hmv (.inr ⟨e.1, of_decide_eq_true e.2⟩)
      cases hh : hasF f ps[i]! with
      | false =>
        rw [hv.off hh]
        exact .inl ⟨rfl, rfl, rfl, fun e => by rw [hh] at e; cases e⟩
      | true =>
        cases ht : (ps[i]!).tells with
        | true =>
          obtain ⟨a1, a2, a3, a4⟩ := hv.tel hh ht
          exact .inr (.inl ⟨hh, ht, a1, a2, a3, a4, by rw [hlow]; rfl, hnn⟩)
        | false =>
          obtain ⟨a1, a2, a3⟩ := hv.kil hh ht
          exact .inr (.inr ⟨hh, ht, a1, a2, by rw [a3], hnn⟩)
end Go.Proofs.YtedbpmckgiifpaaGreat

/- What a deed does by the reference, and that it is what contain.Apply does: plain words. -/
namespace Go.Proofs.YtedbpmckgiifpaaGreat
set_option linter.unusedSimpArgs false
set_option linter.unusedVariables false
open Go.RowKit

def followP (F : List Fr) (ps : List Pr) (a b : Int) : Int × List Fr × List Pr :=
  if (replP ps a b).1 ≠ 0 then ((replP ps a b).1, F, ps) else (0, (F.set b.toNat F[a.toNat]!).set a.toNat ⟨0, 0⟩, (replP ps a b).2)
def rretP (F : List Fr) (ps : List Pr) (d : Dd) : Int × List Fr × List Pr :=
  if occB (F[d.f.toNat]!).st = true ∧ usedB ps d.f = true then (40, F, ps)
  else if (retireP F d.f).1 ≠ 0 then ((retireP F d.f).1, F, ps) else (0, (retireP F d.f).2, ps)
def rtellP (F : List Fr) (ps : List Pr) (d : Dd) : Int × List Fr × List Pr :=
  if (getP ps d.p d.g).2 ≠ 0 then ((getP ps d.p d.g).2, F, ps)
  else if (getP ps d.p d.g).1.f ≠ d.f then (41, F, ps) else (0, F, (tellP ps d.p d.g).2.1)
def rkillP (F : List Fr) (ps : List Pr) (d : Dd) : Int × List Fr × List Pr :=
  if (endP ps d.p).1 ≠ 0 then ((endP ps d.p).1, F, ps)
  else if hasB ps d.f d.p (-1) = false then (41, F, ps)
  else if (givesP d.f F (endP ps d.p).2.2).1 ≠ 0 then ((givesP d.f F (endP ps d.p).2.2).1, F, ps)
  else (0, (givesP d.f F (endP ps d.p).2.2).2, (endP ps d.p).2.1)
def rcarryP (F : List Fr) (ps : List Pr) (d : Dd) : Int × List Fr × List Pr :=
  if d.k = 1 then rretP F ps d
  else if d.k = 2 ∨ d.k = 3 then followP F ps d.f d.tq
  else if d.k = 4 then rtellP F ps d
  else if d.k = 5 then rkillP F ps d
  else (0, F, ps)
def rapplyP (F : List Fr) (ps : List Pr) (d : Dd) : Int × List Fr × List Pr :=
  if d.k < 1 ∨ 6 < d.k then (2, F, ps)
  else if d.f < 0 ∨ (F.length : Int) ≤ d.f ∨ ((d.k = 2 ∨ d.k = 3) ∧ freeAtF F d.tq = false) then (43, F, ps)
  else if (d.k = 2 ∧ (F[d.f.toNat]!).st ≠ 1) ∨ (d.k = 3 ∧ (F[d.f.toNat]!).st ≠ 3) then (40, F, ps)
  else rcarryP F ps d
/-- An error leaves all as it was. -/
def orSame (F : List Fr) (ps : List Pr) (R : Int × List Fr × List Pr) : Int × List Fr × List Pr := if R.1 ≠ 0 then (R.1, F, ps) else (0, R.2.1, R.2.2)
theorem orSame_ok (F : List Fr) (ps : List Pr) (a : List Fr) (b : List Pr) : orSame F ps (0, a, b) = (0, a, b) := rfl
theorem orSame_err (F : List Fr) (ps : List Pr) {e : Int} (he : e ≠ 0) (a : List Fr) (b : List Pr) : orSame F ps (e, a, b) = (e, F, ps) := if_pos he
theorem has_of_get {F : Int} {ps : List Pr} (g : GoodP F ps) {p n : Int} {i k : Nat} (h : findP ps p n = (0, i, k)) (hi : ps.findIdx? (live p) = some i) (hk : (ps[i]!).pages.findIdx? (numb n) = some k) (f : Int) :
    hasB ps f p n = decide (((ps[i]!).pages[k]!).f = f) := by
  obtain ⟨i1, i2, -⟩ := List.findIdx?_eq_some_iff_getElem.1 hi
  obtain ⟨k1, k2, -⟩ := List.findIdx?_eq_some_iff_getElem.1 hk
  have hid : (ps[i]!).id = p := by
    rw [getElem!_pos ps i i1]
    unfold live at i2
    rw [Bool.and_eq_true] at i2
    exact of_decide_eq_true i2.1
  have hn : ((ps[i]!).pages[k]!).n = n := by
    rw [getElem!_pos (ps[i]!).pages k k1]
    exact of_decide_eq_true k2
  have hp0 := ((g.one _ (at_mem i1)).pnum _ (at_mem k1)).1
  rw [hn] at hp0
  cases hb : hasB ps f p n with
  | true =>
    symm
    unfold hasB at hb
    obtain ⟨u, hu, hT⟩ := List.any_eq_true.1 hb
    rw [usersL_eq] at hu
    obtain ⟨q, hq, hu⟩ := List.mem_flatMap.1 hu
    obtain ⟨y, hy, rfl⟩ := List.mem_map.1 hu
    obtain ⟨hy, hyf⟩ := List.mem_filter.1 hy
    unfold hasT at hT
    dsimp only at hT
    rw [Bool.and_eq_true, Bool.or_eq_true] at hT
    have e1 : q.id = p := of_decide_eq_true hT.1
    have e2 : y.n = n := by
      rcases hT.2 with e | e
      · have := of_decide_eq_true e; omega
      · exact of_decide_eq_true e
    have e3 : y.f = f := of_decide_eq_true hyf
    obtain ⟨j, hj, rfl⟩ := List.getElem_of_mem hq
    have hji : j = i := by
      rcases Nat.lt_trichotomy j i with h1 | h1 | h1
      · have := List.pairwise_iff_getElem.1 g.asc j i hj i1 h1
        rw [getElem!_pos ps i i1] at hid; omega
      · exact h1
      · have := List.pairwise_iff_getElem.1 g.asc i j i1 hj h1
        rw [getElem!_pos ps i i1] at hid; omega
    subst hji
    rw [← getElem!_pos ps j hj] at hy
    obtain ⟨m, hm, rfl⟩ := List.getElem_of_mem hy
    have pa := (g.one _ (at_mem i1)).pasc
    have hmk : m = k := by
      rw [getElem!_pos (ps[j]!).pages k k1] at hn
      rcases Nat.lt_trichotomy m k with h1 | h1 | h1
      · have := List.pairwise_iff_getElem.1 pa m k hm k1 h1; omega
      · exact h1
      · have := List.pairwise_iff_getElem.1 pa k m k1 hm h1; omega
    subst hmk
    rw [getElem!_pos (ps[j]!).pages m hm]
    exact decide_eq_true e3
  | false =>
    symm
    refine decide_eq_false fun e => ?_
    obtain ⟨q, hq⟩ : ∃ q, q = ps[i]! := ⟨_, rfl⟩
    rw [← hq] at hid hn e k1
    obtain ⟨pi, pt, pd, pg, td⟩ := q
    obtain ⟨x, hx⟩ : ∃ x, x = pg[k]! := ⟨_, rfl⟩
    dsimp only at hid hn e k1
    rw [← hx] at hn e
    obtain ⟨xn, xf, xs⟩ := x
    dsimp only at hn e
    subst hid hn e
    have := has_at (F := 0) i1 hq.symm k1 hx.symm xn (.inr rfl)
    rw [this] at hb
    cases hb
theorem rtell_eq {F : List Fr} {ps : List Pr} (g : GoodP F.length ps) (d : Dd) : rtellP F ps d = orSame F ps (ctellP F ps d) := by
  unfold rtellP ctellP
  rcases findP_cases ps d.p d.g with ⟨i, k, hf, hi, hk⟩ | ⟨e, hf, he⟩
  · rw [getP_ok hf, tellP_of hf, has_of_get g hf hi hk]
    dsimp only
    simp only [if_neg (show ¬ ((0 : Int) ≠ 0) by decide)]
    by_cases e : ((ps[i]!).pages[k]!).f = d.f
    · rw [if_neg (Classical.not_not.2 e), decide_eq_true e, if_neg (by decide)]; rfl
    · rw [if_pos e, decide_eq_false e, if_pos rfl]; rfl
  · rw [getP_err hf he, tellP_err hf he]
    dsimp only
    rcases he with rfl | rfl <;> rfl
theorem ends_gives {F : List Fr} {ps : List Pr} (h : Held F ps) {id : Int} {out : List Pr} {gone : List Int} (e : endP ps id = (0, out, gone)) (f : Int) : ∃ G, givesP f F gone = (0, G) ∧ G.length = F.length := by
  have g := h.pr.good
  unfold endP at e
  cases hi : ps.findIdx? (live id) with
  | none => rw [hi] at e; cases e
  | some i =>
    rw [hi] at e
    dsimp only at e
    rw [Prod.mk.injEq, Prod.mk.injEq] at e
    obtain ⟨-, -, e⟩ := e
    subst e
    have hmem : ∀ (o : List Pr) (z : Int), z ∈ (((List.range 64).map fun (k : Nat) => (k : Int)).filter fun f => usedB ps f && !usedB o f) → usedB ps z = true := fun o z hz => by
      have := (List.mem_filter.1 hz).2
      rw [Bool.and_eq_true] at this
      exact this.1
    obtain ⟨G, e1, e2, e3, e4⟩ := gives_all f _ h.fr (List.Pairwise.sublist List.filter_sublist (by
        rw [List.pairwise_map]
        refine List.Pairwise.imp ?_ (show (List.range 64).Pairwise (· ≠ ·) from List.nodup_range)
        intro a c h e
        exact h (Int.ofNat_inj.1 e))) (fun z hz => by
      obtain ⟨p, hpm, x, hxm, rfl⟩ := usedB_iff.1 (hmem _ z hz)
      have h1 := (g.one p hpm).pnum x hxm
      refine ⟨h1.2.2.1, h1.2.2.2, ?_⟩
      have h2 := h.held x.f.toNat (by omega) (by rw [used_not_nil, show ((x.f.toNat : Nat) : Int) = x.f by omega]; exact hmem _ x.f hz)
      unfold occB
      rcases h2 with h2 | h2 <;> rw [h2] <;> rfl)
    exact ⟨G, e1, e3⟩
theorem rkill_eq {F : List Fr} {ps : List Pr} (h : Held F ps) (d : Dd) : rkillP F ps d = orSame F ps (ckillP F ps d) := by
  unfold rkillP ckillP
  have hg := fun out gone => ends_gives (out := out) (gone := gone) h (id := d.p)
  generalize endP ps d.p = R at hg ⊢
  obtain ⟨e, out, gone⟩ := R
  dsimp only
  by_cases he : e = 0
  · subst he
    obtain ⟨G, hG, -⟩ := hg out gone rfl d.f
    rw [hG]
    dsimp only
    cases hasB ps d.f d.p (-1) <;> rfl
  · rw [if_pos he, if_pos he, orSame_err F ps he]
theorem follow_eq (F : List Fr) (ps : List Pr) (a b : Int) : followP F ps a b = orSame F ps (shiftP F ps a b) := by
  unfold followP shiftP
  dsimp only
  by_cases he : (replP ps a b).1 = 0
  · rw [if_neg (Classical.not_not.2 he), if_neg (Classical.not_not.2 he), orSame_ok]
  · rw [if_pos he, if_pos he, orSame_err F ps he]
theorem rapply_eq {F : List Fr} {ps : List Pr} (h : Held F ps) (d : Dd) : rapplyP F ps d = applyP F ps d := by
  have hap : applyP F ps d = (if d.k < 1 ∨ 6 < d.k then (2, F, ps)
    else if d.f < 0 ∨ (F.length : Int) ≤ d.f ∨ ((d.k = 2 ∨ d.k = 3) ∧ freeAtF F d.tq = false) then (43, F, ps)
    else if stateE F ps d ≠ 0 then (stateE F ps d, F, ps) else orSame F ps (carryP F ps d)) := rfl
  rw [hap]
  unfold rapplyP
  by_cases h1 : d.k < 1 ∨ 6 < d.k
  · rw [if_pos h1, if_pos h1]
  rw [if_neg h1, if_neg h1]
  by_cases h2 : d.f < 0 ∨ (F.length : Int) ≤ d.f ∨ ((d.k = 2 ∨ d.k = 3) ∧ freeAtF F d.tq = false)
  · rw [if_pos h2, if_pos h2]
  rw [if_neg h2, if_neg h2]
  by_cases h3 : (d.k = 2 ∧ (F[d.f.toNat]!).st ≠ 1) ∨ (d.k = 3 ∧ (F[d.f.toNat]!).st ≠ 3)
  · rw [if_pos h3]
    have hs : stateE F ps d = 40 := by
      unfold stateE
      dsimp only
      rw [if_pos (.inr h3)]
    rw [hs, if_pos (by decide)]
  rw [if_neg h3]
  unfold rcarryP carryP
  by_cases k1 : d.k = 1
  · rw [if_pos k1, if_pos k1]
    unfold rretP
    by_cases h4 : occB (F[d.f.toNat]!).st = true ∧ usedB ps d.f = true
    · have hs : stateE F ps d = 40 := by
        unfold stateE
        dsimp only
        rw [if_pos (.inl ⟨k1, h4.1, h4.2⟩)]
      rw [if_pos h4, hs, if_pos (by decide)]
    · have hs : stateE F ps d = 0 := by
        unfold stateE
        dsimp only
        rw [if_neg (by rintro (⟨-, h5⟩ | h5); exact h4 h5; exact h3 h5)]
      rw [if_neg h4, hs, if_neg (show ¬ ((0 : Int) ≠ 0) by decide)]
      rfl
  have hs : stateE F ps d = 0 := by
    unfold stateE
    dsimp only
    rw [if_neg (by rintro (⟨h5, -⟩ | h5); exact k1 h5; exact h3 h5)]
  rw [hs, if_neg (show ¬ ((0 : Int) ≠ 0) by decide), if_neg k1, if_neg k1]
  by_cases k2 : d.k = 2 ∨ d.k = 3
  · rw [if_pos k2, if_pos k2, follow_eq]
  rw [if_neg k2, if_neg k2]
  by_cases k4 : d.k = 4
  · rw [if_pos k4, if_pos k4, rtell_eq h.pr.good]
  rw [if_neg k4, if_neg k4]
  by_cases k5 : d.k = 5
  · rw [if_pos k5, if_pos k5, rkill_eq h]
  rw [if_neg k5, if_neg k5]
  rfl
end Go.Proofs.YtedbpmckgiifpaaGreat
