/- Programs and their pages in memory: as a callee reads them, and as one's own. -/
import Derived.Test.YthpoanlmaafanaaMany
namespace Go.Proofs.Ythpoanlmaafanaa
set_option linter.unusedSimpArgs false
set_option linter.unusedVariables false
open Go.RowKit

structure Pg where
  n : Int
  f : Int
  s : Bool
deriving Inhabited, DecidableEq
structure Pr where
  id : Int
  tells : Bool
  dead : Bool
  pages : List Pg
  told : List Int
deriving Inhabited, DecidableEq
/-- A program with its slices' values. -/
structure Pv where
  p : Pr
  pa : Value
  ta : Value
deriving Inhabited
def pgC (x : Pg) : List Value := [.int .i64 x.n, .int .i64 x.f, .bool x.s]
def pvC (q : Pv) : List Value := [.int .i64 q.p.id, .bool q.p.tells, .bool q.p.dead, q.pa, q.ta]
theorem pgC_len (x : Pg) : (pgC x).length = 3 := rfl
theorem pvC_len (q : Pv) : (pvC q).length = 5 := rfl
/-- What a program's slices hold, below block B. -/
def PvAt (w : World) (B : Nat) (q : Pv) : Prop := Sl w B q.pa 3 pgC q.p.pages ∧ Sl w B q.ta 1 iC q.p.told
/-- Programs, as a callee reads them. -/
def Ps (w : World) (B : Nat) (v : Value) (ps : List Pr) : Prop := ∃ qs : List Pv, qs.map (·.p) = ps ∧ Sl w B v 5 pvC qs ∧ ∀ q ∈ qs, PvAt w B q
theorem PvAt.mono {w : World} {B B' : Nat} {q : Pv} (h : PvAt w B q) (hb : B ≤ B') : PvAt w B' q := ⟨h.1.mono hb, h.2.mono hb⟩
theorem Ps.mono {w : World} {B B' : Nat} {v : Value} {ps : List Pr} (h : Ps w B v ps) (hb : B ≤ B') : Ps w B' v ps := by
  obtain ⟨qs, h1, h2, h3⟩ := h
  exact ⟨qs, h1, h2.mono hb, fun q hq => (h3 q hq).mono hb⟩
theorem HS.pvAt {W w : World} {L : List Item} (h : HS NoD W L w) {q : Pv} (hl : PvAt W W.heap.size q) : PvAt w W.heap.size q := ⟨h.sl hl.1, h.sl hl.2⟩
theorem HS.ps {W w : World} {L : List Item} (h : HS NoD W L w) {v : Value} {ps : List Pr} (hl : Ps W W.heap.size v ps) : Ps w W.heap.size v ps := by
  obtain ⟨qs, h1, h2, h3⟩ := hl
  exact ⟨qs, h1, h.sl h2, fun q hq => h.pvAt (h3 q hq)⟩
theorem HS.psUp {W w : World} {L : List Item} (h : HS NoD W L w) {v : Value} {ps : List Pr} (hl : Ps W W.heap.size v ps) : Ps w w.heap.size v ps := (h.ps hl).mono h.size
end Go.Proofs.Ythpoanlmaafanaa
