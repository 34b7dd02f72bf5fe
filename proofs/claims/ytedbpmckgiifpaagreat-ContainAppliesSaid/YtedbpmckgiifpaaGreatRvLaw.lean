/- Valid programs as the document's answer looks at them: plain words. -/
import Derived.Test.YtedbpmckgiifpaaGreatVg2
namespace Go.Proofs.YtedbpmckgiifpaaGreat
set_option linter.unusedSimpArgs false
set_option linter.unusedVariables false

/-- What is noted of a frame: is the last page that has it shared? -/
def lastS (A : List Pg) (f : Int) : Option Bool := (ofFr f A).getLast?.map (·.s)
theorem lastS_snoc (A : List Pg) (x : Pg) (f : Int) : lastS (A ++ [x]) f = if f = x.f then some x.s else lastS A f := by
  unfold lastS
  rw [ofFr_snoc]
  by_cases e : x.f = f
  · rw [if_pos e, if_pos e.symm, List.getLast?_append]
    rfl
  · rw [if_neg e, if_neg fun h => e h.symm]
theorem getV_put (x : Int) (v : Value) (f : Int) : ∀ M : List (Int × Value), getV f (putV x v M) = if f = x then some v else getV f M
  | [] => by
    unfold putV getV
    rfl
  | p :: M => by
    unfold putV
    by_cases e : x = p.1
    · rw [if_pos e]
      by_cases e2 : f = x
      · rw [if_pos e2, getV, if_pos (by rw [e2]; exact e)]
      · rw [if_neg e2, getV, getV, if_neg (fun h => e2 (h.trans e.symm)), if_neg (fun h => e2 (h.trans e.symm))]
    · rw [if_neg e, getV, getV]
      by_cases e2 : f = p.1
      · rw [if_pos e2, if_pos e2, if_neg (fun h => e (h.symm.trans e2))]
      · rw [if_neg e2, if_neg e2, getV_put x v f M]
def OwM (M : List (Int × Value)) (A : List Pg) : Prop := ∀ f, getV f M = (lastS A f).map Value.bool
theorem OwM.nil : OwM [] [] := fun f => rfl
theorem OwM.snoc {M : List (Int × Value)} {A : List Pg} (h : OwM M A) (x : Pg) : OwM (putV x.f (.bool x.s) M) (A ++ [x]) := fun f => by
  rw [getV_put, lastS_snoc, h f]
  by_cases e : f = x.f
  · rw [if_pos e, if_pos e]; rfl
  · rw [if_neg e, if_neg e]
def okS (A : List Pg) (x : Pg) : Prop := ∀ s, lastS A x.f = some s → s = true ∧ x.s = true
def shrO (ps : List Pr) (j : Nat) : Prop := ∀ f, FrOk (ofFr f (allPg (ps.take j)))
theorem shr_zero (ps : List Pr) : shrO ps 0 := fun f h => absurd h (by simp [allPg, ofFr])
theorem last_mem {A : List Pg} {f : Int} {s : Bool} (h : lastS A f = some s) : ∃ y ∈ ofFr f A, y.s = s := by
  unfold lastS at h
  obtain ⟨y, hy, e⟩ := Option.map_eq_some_iff.1 h
  exact ⟨y, List.mem_of_getLast? hy, e⟩
theorem shr_succ {ps : List Pr} {j : Nat} (hj : j < ps.length) (hd : (ps[j]!).pages.Pairwise (·.f ≠ ·.f)) (h : shrO ps j) : shrO ps (j + 1) ↔ ∀ x ∈ (ps[j]!).pages, okS (allPg (ps.take j)) x := by
  unfold shrO
  rw [allPg_succ hj]
  unfold shrO at h
  generalize allPg (ps.take j) = A at h
  generalize (ps[j]!).pages = pg at hd
  constructor
  · intro g x hx s hs
    obtain ⟨y, hy, rfl⟩ := last_mem hs
    have hx2 : x ∈ ofFr x.f pg := mem_ofFr.2 ⟨hx, rfl⟩
    have h3 := g x.f
    rw [ofFr_app] at h3
    have h4 := h3 (by rw [List.length_append]; have := List.length_pos_of_mem hy; have := List.length_pos_of_mem hx2; omega)
    exact ⟨h4 y (by simp [hy]), h4 x (by simp [hx2])⟩
  · intro g f hl z hz
    rw [ofFr_app] at hl hz
    have hone := ofFr_one (f := f) hd
    rw [List.length_append] at hl
    by_cases h0 : ofFr f pg = []
    · rw [h0] at hl hz
      exact h f (by simpa using hl) z (by simpa using hz)
    · obtain ⟨x, hx⟩ := List.exists_mem_of_ne_nil _ h0
      obtain ⟨hx1, rfl⟩ := mem_ofFr.1 hx
      have hA : ofFr x.f A ≠ [] := fun e => by rw [e] at hl; simp at hl; omega
      have hls : lastS A x.f = some ((ofFr x.f A).getLast hA).s := by
        unfold lastS
        rw [List.getLast?_eq_some_getLast hA]; rfl
      have h5 := g x hx1 _ hls
      have hx0 : ofFr x.f pg = [x] := by
        rcases h9 : ofFr x.f pg with _ | ⟨a, _ | ⟨b, l⟩⟩
        · exact absurd h9 h0
        · rw [h9] at hx
          rw [List.mem_singleton.1 hx]
        · rw [h9] at hone; simp at hone
      rcases List.mem_append.1 hz with hz | hz
      · by_cases h6 : 1 < (ofFr x.f A).length
        · exact h x.f h6 z hz
        · obtain ⟨a, ha⟩ := List.length_eq_one_iff.1 (show (ofFr x.f A).length = 1 by have := List.length_pos_iff.2 hA; omega)
          have h8 : (ofFr x.f A).getLast hA = a := by simp [ha]
          rw [ha] at hz
          rw [List.mem_singleton.1 hz, ← h8]
          exact h5.1
      · rw [hx0] at hz
        rw [List.mem_singleton.1 hz]
        exact h5.2
theorem GoodP.shrO {F : Int} {ps : List Pr} (g : GoodP F ps) (j : Nat) : shrO ps j :=
  (shar_iff (ps := ps.take j) fun p hp => (g.one p ((List.take_sublist _ _).subset hp)).pfr).1 (g.shar.sublist (List.take_sublist _ _))
theorem GoodP.okS {F : Int} {ps : List Pr} (g : GoodP F ps) {j : Nat} (hj : j < ps.length) {x : Pg} (hx : x ∈ (ps[j]!).pages) : okS (allPg (ps.take j)) x :=
  (shr_succ hj (g.one _ (at_mem hj)).pfr (g.shrO j)).1 (g.shrO (j + 1)) x hx
theorem goodP_all {F : Int} {ps : List Pr} (h : OkPr F ps) (hs : Go.Proofs.YtedbpmckgiifpaaGreat.shrO ps ps.length) : GoodP F ps ↔ ps.length ≤ 8 := by
  unfold Go.Proofs.YtedbpmckgiifpaaGreat.shrO at hs
  rw [List.take_length] at hs
  exact (goodP_iff h).trans ⟨fun a => a.1, fun a => ⟨a, hs⟩⟩
end Go.Proofs.YtedbpmckgiifpaaGreat
