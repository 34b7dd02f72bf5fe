/- Blobs: what they are, how they lie in memory; copies of slices of bytes, of words, of blobs. -/
import Derived.Test.YtfmcicmbehjdcaaK2
import Derived.Test.YtfmcicmbehjdcaaK1
namespace Go.Proofs.Ytfmcicmbehjdcaa
set_option linter.unusedSimpArgs false
set_option linter.unusedVariables false
open Go.RowKit
set_option maxRecDepth 100000
attribute [local go_sem] lt_more ne_more ne_more'
attribute [local irreducible] wpX wpF Calls

/-- A blob's cells: its number, its words' slice. -/
structure Bv where
  id : Int
  x : Sv
deriving Inhabited, DecidableEq
def bvC (q : Bv) : List Value := [.int .i64 q.id, .slice q.x.sa q.x.n q.x.c]
theorem bvC_len (q : Bv) : (bvC q).length = 2 := rfl
/-- A blob, in plain words. -/
structure Bm where
  id : Int
  ws : List (List Int)
deriving Inhabited, DecidableEq
def vBv (q : Bv) : Value := .agg #[.int .i64 q.id, .slice q.x.sa q.x.n q.x.c]
def BlobAt (w : World) (q : Bv) (b : Bm) : Prop := q.id = b.id ∧ WordsAt w q.x b.ws
theorem BlobAt.up {w w' : World} {q : Bv} {b : Bm} (h : BlobAt w q b) (hb : Below w.heap.size w w') : BlobAt w' q b := ⟨h.1, h.2.up hb⟩
/-- A store lies in memory. -/
def StoreAt (w : World) (x : Sv) (l : List Bm) : Prop := ∃ qs : List Bv, qs.length = l.length ∧ x.n = qs.length ∧ CapOk x ∧ Lies w w.heap.size x.sa 2 qs.length (fun j => bvC qs[j]!) ∧ ∀ j, j < l.length → BlobAt w qs[j]! l[j]!
theorem StoreAt.up {w w' : World} {x : Sv} {l : List Bm} (h : StoreAt w x l) (hb : Below w.heap.size w w') : StoreAt w' x l := by
  obtain ⟨qs, h1, h2, h3, h4, h5⟩ := h
  exact ⟨qs, h1, h2, h3, h4.up hb, fun j hj => (h5 j hj).up hb⟩
theorem infoBy : (Try.prog.info? 5).map (fun i => (i.zero, i.size, i.bytes)) = some (some (.int .u8 0), 1, 1) := by kernel_rfl
theorem elemBy : Elem Try.prog 33 5 (.int .u8 0) 1 1 := Elem.mk' Try.underlying33 infoBy rfl (by decide)
theorem infoWd : (Try.prog.info? 33).map (fun i => (i.zero, i.size, i.bytes)) = some (some (.slice none 0 0), 1, 24) := by kernel_rfl
theorem svC_one (xs : List Sv) : ∀ y ∈ xs.flatMap svC, y.oneCell' = true := fun y hy => by
  obtain ⟨x, hx, h⟩ := List.mem_flatMap.1 hy
  simp only [svC, List.mem_cons, List.mem_nil_iff, or_false] at h
  subst h; rfl
theorem bC1_one (xs : List Int) : ∀ y ∈ xs.flatMap bC1, y.oneCell' = true := fun y hy => by
  obtain ⟨x, hx, h⟩ := List.mem_flatMap.1 hy
  simp only [bC1, List.mem_cons, List.mem_nil_iff, or_false] at h
  subst h; rfl
theorem bvC_one (xs : List Bv) : ∀ y ∈ xs.flatMap bvC, y.oneCell' = true := fun y hy => by
  obtain ⟨x, hx, h⟩ := List.mem_flatMap.1 hy
  simp only [bvC, List.mem_cons, List.mem_nil_iff, or_false] at h
  rcases h with rfl | rfl <;> rfl
set_option maxHeartbeats 2000000 in
theorem cloneBy {sa : Option Addr} (c : Nat) {xs : List Int} (hx : xs.length ≤ 1000) (h1 : ∀ u ∈ xs.flatMap bC1, u.oneCell' = true) (w : World) (hl : Lies w w.heap.size sa 1 xs.length (fun j => bC1 xs[j]!)) :
    Calls Try.prog 57 #[.slice sa xs.length c] w (GivesS (fun v => v) 5 1 xs.length (xs.flatMap bC1) w) := by
  obtain ⟨i, i1, i2, i3, i4⟩ := elemBy.hi
  have q22 : ∀ (w : World) (a : Option Addr) (n c n' c' : Nat), (binOp .eql 33 (.slice a n c) (.slice none n' c')).run Try.prog w = .ok (.bool a.isNone) w := fun w a n c n' c' => Lib.run_eql_slice_nil w _ _ a n c n' c' Try.underlying33
  by_cases hxs : xs = []
  · subst hxs
    clear hl
    cases sa with
    | none =>
      show Calls Try.prog 57 #[.slice none 0 c] w _
      go_enter Try.func57, Try.ntmps57
      have H := HS.start NoD w
      go_wp2_with fail
      go_ret
      exact ⟨none, 0, rfl, World.ownsRow_nil _ _ _ _, H.done⟩
    | some a =>
      show Calls Try.prog 57 #[.slice (some a) 0 c] w _
      go_enter Try.func57, Try.ntmps57
      have H := HS.start NoD w
      go_wp2_with fail
      go_ret
      exact ⟨_, _, rfl, World.ownsRow_made w #[] 0 (Nat.le_refl _) (Nat.zero_le _) rfl, H.alloc.done⟩
  · have hpos : 0 < xs.length := List.length_pos_iff.2 hxs
    obtain ⟨b, o, rfl, hb, -⟩ := hl.at hpos
    have HC := Lib.hid (Lies.flatCells bC1_len (by decide) hl)
    have H1 := Lib.hid h1
    clear hl h1
    go_enter Try.func57, Try.ntmps57
    have H := HS.start NoD w
    go_upto_region 3 with fail
    go_wp2_with (at_builtin; refine wpList_append_lies _ rfl (.tmp 5) (.tmp 6) 33 rfl w.heap.size 5 i _ 1 1 elemBy.ht i1 i2 i3 i4 elemBy.hzs elemBy.pos _ 0 [] rfl (World.ownsRow_made w #[] 0 (Nat.le_refl _) (Nat.zero_le _) rfl) ⟨b, o, none⟩ xs.length c (xs.flatMap bC1) rfl (flat_len bC1_len xs) (fun j u hu => by rw [Addr.add_lit]; exact (((Below.refl _ _).alloc (Nat.le_refl _) _).cell (p := ⟨b, o + j, none⟩) hb).trans (HC.out j u hu)) H1.out hpos (by unfold maxLen; omega) (by omega) (by simp) _ rfl (fun g cap wz h2 h3 h4 h5 => ?_))
    go_ret
    exact ⟨_, _, rfl, by simpa using h2, ((Below.refl _ w).alloc (Nat.le_refl _) _).grown h3 (by simp) (by intro k hk; simp [Act.eval, Value.ownBlock] at hk; omega)⟩
end Go.Proofs.Ytfmcicmbehjdcaa
