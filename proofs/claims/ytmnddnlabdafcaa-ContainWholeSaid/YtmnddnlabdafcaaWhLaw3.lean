/- All that is decided about a damaged frame, done in order: the end. Plain words. -/
import Derived.Test.YtmnddnlabdafcaaWhLaw2
namespace Go.Proofs.Ytmnddnlabdafcaa
set_option linter.unusedSimpArgs false
set_option linter.unusedVariables false
open Go.RowKit

theorem stop_step {F : List Fr} {b : List Pr} {f : Nat} (hf : f < F.length) : applyP F b ⟨6, f, 0, 0, 0⟩ = (0, F, b) := by
  have hst : stateE F b ⟨6, f, 0, 0, 0⟩ = 0 := by
    unfold stateE
    dsimp only
    rw [if_neg (by simp)]
  have hca : carryP F b ⟨6, f, 0, 0, 0⟩ = (0, F, b) := by
    unfold carryP
    dsimp only
    rw [if_neg (by decide), if_neg (by decide), if_neg (by decide), if_neg (by decide)]
  unfold applyP
  dsimp only
  rw [if_neg (by decide), if_neg (by simp; omega), hst, if_neg (by simp), hca]
  rfl
theorem move_step {F : List Fr} {ps : List Pr} (h : Held F ps) {f t : Nat} (hf : f < F.length) (ht : t < F.length) {kd : Int} (hk : kd = 2 ∧ (F[f]!).st = 1 ∨ kd = 3 ∧ (F[f]!).st = 3) (h0 : (F[t]!).st = 0) :
    applyP F ps ⟨kd, f, t, 0, 0⟩ = (0, (F.set t F[f]!).set f ⟨0, 0⟩, ps.map (moveP f t)) ∧ replP ps f t = (0, ps.map (moveP f t)) := by
  have hfr : freeAtF F t = true := by
    unfold freeAtF
    simp only [Bool.and_eq_true, decide_eq_true_eq]
    exact ⟨⟨by omega, by omega⟩, h0⟩
  have hF2 := h.fr.high
  have e3 : replP ps f t = (0, ps.map (moveP f t)) := by
    unfold replP
    rw [if_neg (by omega), if_neg (fun h' => by have := h.unused ht h0; rw [this] at h'; cases h'.2)]
  refine ⟨?_, e3⟩
  have e2 : stateE F ps ⟨kd, f, t, 0, 0⟩ = 0 := by
    unfold stateE
    dsimp only
    have e1 : ((F[((f : Nat) : Int).toNat]!).st) = (F[f]!).st := rfl
    rw [e1]
    rcases hk with ⟨rfl, hs⟩ | ⟨rfl, hs⟩ <;> rw [hs, if_neg (by simp)]
  have e4 : carryP F ps ⟨kd, f, t, 0, 0⟩ = (0, (F.set t F[f]!).set f ⟨0, 0⟩, ps.map (moveP f t)) := by
    unfold carryP
    dsimp only
    rw [if_neg (by omega), if_pos (by omega)]
    unfold shiftP
    rw [e3]
    rfl
  unfold applyP
  dsimp only
  rw [if_neg (by omega), if_neg (fun h' => by rcases h' with h' | h' | h'; omega; omega; rw [hfr] at h'; cases h'.2), e2, if_neg (by simp), e4]
  rfl
theorem same_out {f : Nat} {s : Int} {mv : Bool} {p q : Pr} (h1 : q.told.length = p.told.length) (h2 : q.dead = p.dead) (h3 : q.pages.length = p.pages.length) (h4 : s ≠ 2) : OutP f s mv p q := .inl ⟨h1, h2, h3, fun _ => h4⟩
theorem Held.not_used {F : List Fr} {ps : List Pr} (h : Held F ps) {f : Nat} (hf : f < F.length) (h1 : (F[f]!).st ≠ 1) (h2 : (F[f]!).st ≠ 2) : usersL ps f = [] := by
  refine Classical.byContradiction fun hn => ?_
  rcases h.held f hf hn with e | e
  · exact h1 e
  · exact h2 e
theorem not_usedB {ps : List Pr} {f : Int} (h : usersL ps f = []) : usedB ps f = false := by
  cases hu : usedB ps f with
  | false => rfl
  | true => exact absurd h (used_not_nil.2 hu)
theorem st_set {F : List Fr} {f : Nat} (hf : f < F.length) : ((F.set f ⟨5, 0⟩)[f]!).st = 5 := by rw [set_bang _ hf]
theorem whole_law {F : List Fr} {ps : List Pr} (h : Held F ps) {f : Nat} (hf : f < F.length) (tq : Int) (htq : tq = -1 ∨ freeAtF F tq = true ∧ tq ≠ f) :
    ∃ l a b, decP true F ps f tq = (0, l) ∧ Fin F ps f (F[f]!).st (decide (tq ≠ -1)) l a b := by
  have hfit := h.fr.fit _ (at_mem hf)
  obtain ⟨s, hs⟩ : ∃ s, s = (F[f]!).st := ⟨_, rfl⟩
  have hsr : s = 0 ∨ s = 1 ∨ s = 2 ∨ s = 3 ∨ s = 4 ∨ s = 5 := by
    unfold fitB at hfit
    rw [← hs] at hfit
    split at hfit
    · omega
    · have := of_decide_eq_true hfit; omega
  rw [← hs]
  have hdec : decP true F ps f tq = (if s = 5 then (0, []) else if s = 0 then (0, [⟨1, f, 0, 0, 0⟩]) else if s = 4 ∨ s = 3 ∧ tq = -1 then (0, [⟨6, f, 0, 0, 0⟩]) else if s = 3 then (0, [⟨3, f, tq, 0, 0⟩, ⟨1, f, 0, 0, 0⟩]) else if s = 1 ∧ tq ≠ -1 then (0, [⟨2, f, tq, 0, 0⟩, ⟨1, f, 0, 0, 0⟩]) else (0, vicP ps f ++ [⟨1, f, 0, 0, 0⟩])) := by
    unfold decP
    rw [if_neg (by decide), if_neg (by omega), if_neg (fun hh => by
      rcases htq with e | ⟨e1, e2⟩
      · exact hh.1 e
      · rcases hh.2 with e | e
        · exact e2 e
        · rw [e1] at e; cases e)]
    dsimp only
    rw [show (F[((f : Nat) : Int).toNat]!).st = s from hs.symm]
  rw [hdec]
  clear hdec
  have hrf : FrV (F.set f ⟨5, 0⟩) := h.fr.set f rfl
  have hgl : GoodP (F.set f ⟨5, 0⟩).length ps := by rw [List.length_set]; exact h.pr.good
  by_cases h5 : s = 5
  · rw [if_pos h5]
    have hu := h.not_used hf (by rw [← hs]; omega) (by rw [← hs]; omega)
    exact ⟨[], F, ps, rfl, .nil, h.fr, h.pr.good, rfl, rfl, ⟨fun ⟨d, hd, _⟩ => absurd hd List.not_mem_nil, fun e => by omega⟩, fun _ => ⟨hu, by rw [← hs]; exact h5⟩, fun i hi => same_out rfl rfl rfl (by omega)⟩
  rw [if_neg h5]
  by_cases h0 : s = 0
  · rw [if_pos h0]
    have hu := h.not_used hf (by rw [← hs]; omega) (by rw [← hs]; omega)
    have hr := retire_step (b := ps) hf (by rw [← hs]; omega) (by rw [← hs]; omega) (not_usedB hu)
    exact ⟨_, F.set f ⟨5, 0⟩, ps, rfl, .cons h.fr h.pr.good hr (List.length_set ..) rfl .nil, hrf, hgl, List.length_set .., rfl,
      ⟨(fun ⟨d, hd, e⟩ => by rw [List.mem_singleton.1 hd] at e; cases e), fun e => by omega⟩, fun _ => ⟨hu, st_set hf⟩, fun i hi => same_out rfl rfl rfl (by omega)⟩
  rw [if_neg h0]
  by_cases h4 : s = 4 ∨ s = 3 ∧ tq = -1
  · rw [if_pos h4]
    have hm : s = 4 ∨ s = 3 ∧ decide (tq ≠ -1) = false := h4.imp id fun e => ⟨e.1, by rw [e.2]; rfl⟩
    exact ⟨_, F, ps, rfl, .cons h.fr h.pr.good (stop_step hf) rfl rfl .nil, h.fr, h.pr.good, rfl, rfl,
      ⟨fun _ => hm, fun _ => ⟨_, List.mem_singleton.2 rfl, rfl⟩⟩, fun e => absurd hm e, fun i hi => same_out rfl rfl rfl (by omega)⟩
  rw [if_neg h4]
  have hnm : ¬ (s = 4 ∨ s = 3 ∧ decide (tq ≠ -1) = false) := fun e => h4 (e.imp id fun e => ⟨e.1, by have := e.2; simpa using this⟩)
  by_cases hmv : s = 3 ∨ s = 1 ∧ tq ≠ -1
  · have hne : tq ≠ -1 := by
      rcases hmv with e | e
      · exact fun e2 => h4 (.inr ⟨e, e2⟩)
      · exact e.2
    obtain ⟨hfr, hnf⟩ := htq.resolve_left hne
    unfold freeAtF at hfr
    simp only [Bool.and_eq_true, decide_eq_true_eq] at hfr
    obtain ⟨t, rfl⟩ : ∃ t : Nat, tq = t := ⟨tq.toNat, by omega⟩
    have ht : t < F.length := by omega
    have ht0 : (F[t]!).st = 0 := hfr.2
    have hft : f ≠ t := fun e => hnf (by rw [e])
    obtain ⟨kd, hkd⟩ : ∃ kd : Int, kd = if s = 3 then 3 else 2 := ⟨_, rfl⟩
    have hk : kd = 2 ∧ (F[f]!).st = 1 ∨ kd = 3 ∧ (F[f]!).st = 3 := by
      rw [← hs, hkd]
      rcases hmv with e | e
      · exact .inr ⟨if_pos e, e⟩
      · exact .inl ⟨if_neg (by omega), e.1⟩
    obtain ⟨m1, m2⟩ := move_step h hf ht hk ht0
    have hl : (if s = 3 then ((0 : Int), [(⟨3, f, t, 0, 0⟩ : Dd), ⟨1, f, 0, 0, 0⟩]) else if s = 1 ∧ (t : Int) ≠ -1 then (0, [⟨2, f, t, 0, 0⟩, ⟨1, f, 0, 0, 0⟩]) else (0, vicP ps f ++ [⟨1, f, 0, 0, 0⟩])) = (0, [⟨kd, f, t, 0, 0⟩, ⟨1, f, 0, 0, 0⟩]) := by
      rw [hkd]
      rcases hmv with e | e
      · rw [if_pos e, if_pos e]
      · rw [if_neg (by omega), if_pos e, if_neg (by omega)]
    rw [hl]
    have hum := users_move (a := f) (b := t) (ps := ps) (by omega) (h.unused ht ht0)
    have hfl : f < (F.set t F[f]!).length := by rw [List.length_set]; exact hf
    have hst : (((F.set t F[f]!).set f ⟨0, 0⟩)[f]!).st = 0 := by rw [set_bang _ hfl]
    have hlen : ((F.set t F[f]!).set f ⟨0, 0⟩).length = F.length := by rw [List.length_set, List.length_set]
    have hF1 : FrV ((F.set t F[f]!).set f ⟨0, 0⟩) := (h.fr.set t hfit).set f rfl
    have hg1 : GoodP F.length (ps.map (moveP f t)) := (h.pr.good.repl (b := t) (by omega) m2).1
    have hr := retire_step (F := (F.set t F[f]!).set f ⟨0, 0⟩) (b := ps.map (moveP f t)) (by rw [hlen]; exact hf) (by rw [hst]; decide) (by rw [hst]; decide) (not_usedB hum.2)
    refine ⟨_, _, _, rfl, .cons h.fr h.pr.good m1 hlen (by rw [List.length_map]) (.cons hF1 (by rw [hlen]; exact hg1) hr (List.length_set ..) rfl .nil), hF1.set f rfl, by rw [List.length_set, hlen]; exact hg1, by rw [List.length_set, hlen], by rw [List.length_map],
      ⟨fun ⟨d, hd, e⟩ => ?_, fun e => absurd e hnm⟩, fun _ => ⟨hum.2, by rw [set_bang _ (by rw [hlen]; exact hf)]⟩, fun i hi => ?_⟩
    · rcases List.mem_cons.1 hd with rfl | hd
      · dsimp only at e; omega
      · rw [List.mem_singleton.1 hd] at e; cases e
    · have hq : (ps.map (moveP f t))[i]! = moveP f t ps[i]! := by
        rw [getElem!_pos _ i (by rw [List.length_map]; exact hi), List.getElem_map, getElem!_pos ps i hi]
      rw [hq]
      exact same_out rfl rfl (by show (List.map _ _).length = _; rw [List.length_map]) (by omega)
  · rw [if_neg (fun e => hmv (.inl e)), if_neg (fun e => hmv (.inr e))]
    obtain ⟨F1, b, r1, S⟩ := stages h f ps.length (Nat.le_refl _)
    rw [List.take_length] at r1
    have hs1 : s = 1 ∨ s = 2 := by omega
    have hub : usedB b f = false := by
      cases hu : usedB b f with
      | false => rfl
      | true =>
        obtain ⟨p, hp, x, hx, e⟩ := usedB_iff.1 hu
        obtain ⟨j, hj, rfl⟩ := List.getElem_of_mem hp
        have := (S.done j (by rw [← S.blen]; exact hj) (by rw [← S.blen]; exact hj)).no
        rw [getElem!_pos b j hj] at this
        exact absurd e (this x hx)
    have hf1 : f < F1.length := by rw [S.flen]; exact hf
    have hr := retire_step (F := F1) (b := b) hf1 (by rw [S.ff, ← hs]; omega) (by rw [S.ff, ← hs]; omega) hub
    refine ⟨_, _, _, rfl, r1.app (.cons S.fr S.good hr (List.length_set ..) rfl .nil), S.fr.set f rfl, by rw [List.length_set]; exact S.good, by rw [List.length_set]; exact S.flen, S.blen, ⟨fun ⟨d, hd, e⟩ => ?_, fun e => absurd e hnm⟩,
      fun _ => ⟨Classical.byContradiction (fun hn => by rw [used_not_nil.1 hn] at hub; cases hub), st_set hf1⟩, fun i hi => ?_⟩
    · rcases List.mem_append.1 hd with hd | hd
      · obtain ⟨u, -, rfl⟩ := List.mem_map.1 hd
        unfold ddOf at e
        dsimp only at e
        split at e <;> cases e
      · rw [List.mem_singleton.1 hd] at e; cases e
    · have hv := S.done i hi hi
      have hlow := (h.pr.low _ (at_mem hi)).2
      have hnn : ¬ (s = 1 ∧ decide (tq ≠ -1) = true) := fun e => hmv (.inr ⟨e.1, of_decide_eq_true e.2⟩)
      cases hh : hasF f ps[i]! with
      | false =>
        rw [hv.off hh]
        exact .inl ⟨rfl, rfl, rfl, fun e => by rw [hh] at e; cases e⟩
      | true =>
        cases ht : (ps[i]!).tells with
        | true =>
          obtain ⟨a1, a2, a3, a4⟩ := hv.tel hh ht
          exact .inr (.inl ⟨hh, ht, a1, a2, a3, a4, by rw [hlow]; rfl, hnn⟩)
        | false =>
          obtain ⟨a1, a2, a3⟩ := hv.kil hh ht
          exact .inr (.inr ⟨hh, ht, a1, a2, by rw [a3], hnn⟩)
end Go.Proofs.Ytmnddnlabdafcaa
