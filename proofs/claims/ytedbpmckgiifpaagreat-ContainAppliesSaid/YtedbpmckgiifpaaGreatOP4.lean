/- Package owner: a program of a copy laid open; Own. -/
import Derived.Test.YtedbpmckgiifpaaGreatOP3
import Derived.Test.YtedbpmckgiifpaaGreatO7
namespace Go.Proofs.YtedbpmckgiifpaaGreat
set_option linter.unusedSimpArgs false
set_option linter.unusedVariables false
open Go.RowKit
set_option maxRecDepth 100000
attribute [local go_sem] lt_more ne_more ne_more'
attribute [local irreducible] wpX wpF Calls

def toldR (q : Pv) : Item := .row q.ta 3 1 q.p.told.length (q.p.told.flatMap iC)
/-- What is within, but program i's. -/
def restB (qs : List Pv) (i : Nat) : List Item := (qs.take i).flatMap innerR ++ (qs.drop (i + 1)).flatMap innerR
theorem inner_permB {qs : List Pv} {i : Nat} (hi : i < qs.length) : (qs.flatMap innerR).Perm (pagesR qs[i]! :: toldR qs[i]! :: restB qs i) := by
  rw [flat_split hi]
  show ((qs.take i).flatMap innerR ++ ([pagesR qs[i]!, toldR qs[i]!] ++ (qs.drop (i + 1)).flatMap innerR)).Perm ([pagesR qs[i]!, toldR qs[i]!] ++ restB qs i)
  unfold restB
  rw [← List.append_assoc, ← List.append_assoc]
  exact List.Perm.append_right _ List.perm_append_comm
theorem inner_set_permB {qs : List Pv} {i : Nat} (hi : i < qs.length) (q : Pv) : ((qs.set i q).flatMap innerR).Perm (pagesR q :: toldR q :: restB qs i) := by
  rw [flat_set_split hi]
  show ((qs.take i).flatMap innerR ++ ([pagesR q, toldR q] ++ (qs.drop (i + 1)).flatMap innerR)).Perm ([pagesR q, toldR q] ++ restB qs i)
  unfold restB
  rw [← List.append_assoc, ← List.append_assoc]
  exact List.Perm.append_right _ List.perm_append_comm
theorem restB_low {qs : List Pv} {i : Nat} : ∀ A ∈ restB qs i, A.low = 0 := fun A hA => by
  unfold restB at hA
  rcases List.mem_append.1 hA with hA | hA
  · exact inner_low A hA
  · exact inner_low A hA
section
variable {D : Nat → Prop} {W w : World} {L : List Item}
theorem HS.openAt {v : Value} {rs : List Pv} (h : HS D W (L ++ [Item.many (PsR v rs)]) w) {i : Nat} (hi : i < rs.length) :
    ∃ g d pb pc tb tc, v = .slice (some ⟨g, 0, none⟩) rs.length d ∧ rs.length ≤ d ∧ (rs[i]!).pa = .slice pb (rs[i]!).p.pages.length pc ∧ (rs[i]!).ta = .slice tb (rs[i]!).p.told.length tc ∧
      HS D W (L ++ [.row (.slice (some ⟨g, 0, none⟩) rs.length d) 52 5 rs.length (rs.flatMap pvC), .row (.slice pb (rs[i]!).p.pages.length pc) 49 3 (rs[i]!).p.pages.length ((rs[i]!).p.pages.flatMap pgC), .row (.slice tb (rs[i]!).p.told.length tc) 3 1 (rs[i]!).p.told.length ((rs[i]!).p.told.flatMap iC), Item.many (restB rs i)]) w := by
  have h1 : HS D W ((L ++ [outerR v rs]) ++ rs.flatMap innerR) w := by have := h.ofMany; unfold PsR at this; simpa using this
  have h2 := h1.permu ((inner_permB hi).append_left (L ++ [outerR v rs]))
  have h3 : HS D W ((L ++ [outerR v rs, pagesR rs[i]!, toldR rs[i]!]) ++ restB rs i) w := by simpa using h2
  have h4 := h3.toMany restB_low
  have ho : w.ownsRow 0 52 5 v rs.length (rs.flatMap pvC) := h4.ok (outerR v rs) (by simp)
  have hp : w.ownsRow 0 49 3 (rs[i]!).pa (rs[i]!).p.pages.length ((rs[i]!).p.pages.flatMap pgC) := h4.ok (pagesR rs[i]!) (by simp)
  have ht : w.ownsRow 0 3 1 (rs[i]!).ta (rs[i]!).p.told.length ((rs[i]!).p.told.flatMap iC) := h4.ok (toldR rs[i]!) (by simp)
  obtain ⟨sb, d, e1⟩ := ownsRow_slice ho
  rw [e1] at ho
  obtain ⟨g, e2, -, hcap⟩ := ownsRow_ptr ho (by omega)
  obtain ⟨pb, pc, e3⟩ := ownsRow_slice hp
  obtain ⟨tb, tc, e4⟩ := ownsRow_slice ht
  refine ⟨g, d, pb, pc, tb, tc, by rw [e1, e2], hcap, e3, e4, ?_⟩
  unfold outerR pagesR toldR at h4
  rw [e1, e2, e3, e4] at h4
  simpa using h4
theorem HS.shutAt {g d : Nat} {rs : List Pv} {i : Nat} {cells : List Value} (q : Pv) (h : HS D W (L ++ [.row (.slice (some ⟨g, 0, none⟩) rs.length d) 52 5 rs.length cells, pagesR q, toldR q, Item.many (restB rs i)]) w) (hi : i < rs.length) (hc : cells = (rs.set i q).flatMap pvC) :
    HS D W (L ++ [Item.many (PsR (.slice (some ⟨g, 0, none⟩) rs.length d) (rs.set i q))]) w := by
  have h1 : HS D W ((L ++ [.row (.slice (some ⟨g, 0, none⟩) rs.length d) 52 5 rs.length cells, pagesR q, toldR q]) ++ [Item.many (restB rs i)]) w := by simpa using h
  have h2 := h1.ofMany
  have h3 : HS D W ((L ++ [outerR (.slice (some ⟨g, 0, none⟩) rs.length d) (rs.set i q)]) ++ (pagesR q :: toldR q :: restB rs i)) w := by
    unfold outerR; rw [List.length_set, ← hc]; simpa using h2
  have h4 := h3.permu ((inner_set_permB hi q).symm.append_left _)
  have h5 : HS D W (L ++ PsR (.slice (some ⟨g, 0, none⟩) rs.length d) (rs.set i q)) w := by unfold PsR; simpa using h4
  exact h5.toMany PsR_low
end
theorem findP_cases (ps : List Pr) (id n : Int) : (∃ i k, findP ps id n = (0, i, k) ∧ ps.findIdx? (live id) = some i ∧ (ps[i]!).pages.findIdx? (numb n) = some k) ∨ ∃ e, findP ps id n = (e, 0, 0) ∧ (e = 41 ∨ e = 42) := by
  unfold findP
  cases hi : ps.findIdx? (live id) with
  | none => exact .inr ⟨42, rfl, .inr rfl⟩
  | some i =>
    cases hk : (ps[i]!).pages.findIdx? (numb n) with
    | none => refine .inr ⟨41, ?_, .inl rfl⟩; dsimp only; rw [hk]
    | some k => refine .inl ⟨i, k, ?_, rfl, hk⟩; dsimp only; rw [hk]
theorem ofindR_err {ps : List Pr} {id n e : Int} (h : findP ps id n = (e, 0, 0)) (he : e = 41 ∨ e = 42) : ofindR ps id n = .tuple #[.int .i64 0, .int .i64 0, .int .i64 e] := by
  unfold ofindR; rw [h]; rcases he with rfl | rfl <;> rfl
theorem ofindR_ok {ps : List Pr} {id n : Int} {i k : Nat} (h : findP ps id n = (0, i, k)) : ofindR ps id n = .tuple #[.int .i64 i, .int .i64 k, .int .i64 0] := by
  unfold ofindR; rw [h]; rfl
theorem ownP_err {ps : List Pr} {id n e : Int} (h : findP ps id n = (e, 0, 0)) (he : e = 41 ∨ e = 42) (f : Int) : ownP ps id n f = (e, [], -1) := by
  unfold ownP; rw [h]; rcases he with rfl | rfl <;> rfl
/-- A call hands back programs, a number and an error. -/
def GivesP3 (R : Int × List Pr × Int) (w : World) (x : Ending) (w' : World) : Prop :=
  ∃ v qs, x = .returned (.tuple #[v, .int .i64 R.2.2, .int .i64 R.1]) ∧ qs.map (·.p) = R.2.1 ∧ HS NoD w [.many (PsR v qs)] w'
theorem givesP3_nil {W w : World} {L : List Item} (H : HS NoD W L w) (e f : Int) : GivesP3 (e, [], f) W (.returned (.tuple #[.slice none 0 0, .int .i64 f, .int .i64 e])) w :=
  ⟨_, [], rfl, rfl, HS.less H.nilPs (List.sublist_append_right _ _)⟩
theorem flat_setPg {pg : List Pg} {k : Nat} (hk : k < pg.length) (x : Pg) : ((((pg.flatMap pgC).set (k * 3) (.int .i64 x.n)).set (k * 3 + 1) (.int .i64 x.f)).set (k * 3 + 2) (.bool x.s)) = (pg.set k x).flatMap pgC := by
  have e1 := flat_set pgC_len pg k 0 { pg[k]! with n := x.n } (.int .i64 x.n) hk (by decide) rfl
  rw [Nat.add_zero] at e1
  rw [← e1]
  have e2 := flat_set pgC_len (pg.set k { pg[k]! with n := x.n }) k 1 { pg[k]! with n := x.n, f := x.f } (.int .i64 x.f) (by rw [List.length_set]; exact hk) (by decide) (by rw [set_bang _ hk]; rfl)
  rw [← e2, List.set_set]
  have e3 := flat_set pgC_len (pg.set k { pg[k]! with n := x.n, f := x.f }) k 2 x (.bool x.s) (by rw [List.length_set]; exact hk) (by decide) (by rw [set_bang _ hk]; rfl)
  rw [← e3, List.set_set]
end Go.Proofs.YtedbpmckgiifpaaGreat
