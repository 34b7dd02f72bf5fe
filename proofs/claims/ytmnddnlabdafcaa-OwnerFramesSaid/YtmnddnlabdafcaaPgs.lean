/- Programs and their pages in memory: as a callee reads them, and as one's own. -/
import Derived.Test.YtmnddnlabdafcaaMany
namespace Go.Proofs.Ytmnddnlabdafcaa
set_option linter.unusedSimpArgs false
set_option linter.unusedVariables false
open Go.RowKit

structure Pg where
  n : Int
  f : Int
  s : Bool
deriving Inhabited, DecidableEq
structure Pr where
  id : Int
  tells : Bool
  dead : Bool
  pages : List Pg
  told : List Int
deriving Inhabited, DecidableEq
/-- A program with its slices' values. -/
structure Pv where
  p : Pr
  pa : Value
  ta : Value
deriving Inhabited
def pgC (x : Pg) : List Value := [.int .i64 x.n, .int .i64 x.f, .bool x.s]
def pvC (q : Pv) : List Value := [.int .i64 q.p.id, .bool q.p.tells, .bool q.p.dead, q.pa, q.ta]
theorem pgC_len (x : Pg) : (pgC x).length = 3 := rfl
theorem pvC_len (q : Pv) : (pvC q).length = 5 := rfl
/-- What a program's slices hold, below block B. -/
def PvAt (w : World) (B : Nat) (q : Pv) : Prop := Sl w B q.pa 3 pgC q.p.pages ∧ Sl w B q.ta 1 iC q.p.told
/-- Programs, as a callee reads them. -/
def Ps (w : World) (B : Nat) (v : Value) (ps : List Pr) : Prop := ∃ qs : List Pv, qs.map (·.p) = ps ∧ Sl w B v 5 pvC qs ∧ ∀ q ∈ qs, PvAt w B q
theorem PvAt.mono {w : World} {B B' : Nat} {q : Pv} (h : PvAt w B q) (hb : B ≤ B') : PvAt w B' q := ⟨h.1.mono hb, h.2.mono hb⟩
theorem Ps.mono {w : World} {B B' : Nat} {v : Value} {ps : List Pr} (h : Ps w B v ps) (hb : B ≤ B') : Ps w B' v ps := by
  obtain ⟨qs, h1, h2, h3⟩ := h
  exact ⟨qs, h1, h2.mono hb, fun q hq => (h3 q hq).mono hb⟩
theorem HS.pvAt {W w : World} {L : List Item} (h : HS NoD W L w) {q : Pv} (hl : PvAt W W.heap.size q) : PvAt w W.heap.size q := ⟨h.sl hl.1, h.sl hl.2⟩
theorem HS.ps {W w : World} {L : List Item} (h : HS NoD W L w) {v : Value} {ps : List Pr} (hl : Ps W W.heap.size v ps) : Ps w W.heap.size v ps := by
  obtain ⟨qs, h1, h2, h3⟩ := hl
  exact ⟨qs, h1, h.sl h2, fun q hq => h.pvAt (h3 q hq)⟩
theorem HS.psUp {W w : World} {L : List Item} (h : HS NoD W L w) {v : Value} {ps : List Pr} (hl : Ps W W.heap.size v ps) : Ps w w.heap.size v ps := (h.ps hl).mono h.size
/-- Programs of one's own: the slice, and the slices within. -/
def innerR (q : Pv) : List Item := [.row q.pa 37 3 q.p.pages.length (q.p.pages.flatMap pgC), .row q.ta 3 1 q.p.told.length (q.p.told.flatMap iC)]
def outerR (v : Value) (qs : List Pv) : Item := .row v 31 5 qs.length (qs.flatMap pvC)
def PsR (v : Value) (qs : List Pv) : List Item := outerR v qs :: qs.flatMap innerR
theorem inner_low {qs : List Pv} : ∀ A ∈ qs.flatMap innerR, A.low = 0 := fun A hA => by
  obtain ⟨q, hq, h⟩ := List.mem_flatMap.1 hA
  simp only [innerR, List.mem_cons, List.mem_nil_iff, or_false] at h
  rcases h with rfl | rfl <;> rfl
theorem PsR_low {v : Value} {qs : List Pv} : ∀ A ∈ PsR v qs, A.low = 0 := fun A hA => by
  rcases List.mem_cons.1 hA with rfl | hA
  · rfl
  · exact inner_low A hA
theorem innerAt {qs : List Pv} {w : World} (h : ∀ A ∈ qs.flatMap innerR, A.ok w) : ∀ q ∈ qs, PvAt w w.heap.size q := fun q hq => by
  have h1 : (Item.row q.pa 37 3 q.p.pages.length (q.p.pages.flatMap pgC)).ok w := h _ (List.mem_flatMap.2 ⟨q, hq, by simp [innerR]⟩)
  have h2 : (Item.row q.ta 3 1 q.p.told.length (q.p.told.flatMap iC)).ok w := h _ (List.mem_flatMap.2 ⟨q, hq, by simp [innerR]⟩)
  exact ⟨ownsRow_sl pgC_len rfl h1, ownsRow_sl iC_len rfl h2⟩
theorem ownPs {v : Value} {qs : List Pv} {w : World} (h : ∀ A ∈ PsR v qs, A.ok w) : Ps w w.heap.size v (qs.map (·.p)) :=
  ⟨qs, rfl, ownsRow_sl (e := 31) (B := 0) pvC_len rfl (h (outerR v qs) (by simp [PsR])), innerAt fun A hA => h A (by simp [PsR, hA])⟩
theorem HS.ownPs {D : Nat → Prop} {W w : World} {L : List Item} (h : HS D W L w) (i : Nat) {v : Value} {qs : List Pv} (hi : L[i]? = some (.many (PsR v qs))) : Ps w w.heap.size v (qs.map (·.p)) :=
  Proofs.Ytmnddnlabdafcaa.ownPs fun A hA => ((Item.ofMany (h.at i hi)).1 A hA).1
/-- A call hands back programs of its own. -/
def GivesP (mk : Value → Value) (ps : List Pr) (w : World) (x : Ending) (w' : World) : Prop :=
  ∃ v qs, x = .returned (mk v) ∧ qs.map (·.p) = ps ∧ HS NoD w [.many (PsR v qs)] w'
end Go.Proofs.Ytmnddnlabdafcaa
