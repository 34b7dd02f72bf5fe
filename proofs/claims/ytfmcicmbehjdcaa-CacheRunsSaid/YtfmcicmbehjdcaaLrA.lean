/- A cache's lines and slots: what they are, how they lie in memory; copies of slots; lines copied and asked. -/
import Derived.Test.YtfmcicmbehjdcaaRlB
import Derived.Test.YtfmcicmbehjdcaaApS
namespace Go.Proofs.Ytfmcicmbehjdcaa
set_option linter.unusedSimpArgs false
set_option linter.unusedVariables false
open Go.RowKit
set_option maxRecDepth 100000
attribute [local go_sem] lt_more ne_more ne_more'
attribute [local irreducible] wpX wpF Calls

/-- A line, in plain words. -/
structure Lm where
  ad : Int
  bs : List Int
  d : Bool
  p : Bool
deriving Inhabited, DecidableEq
/-- A slot, in plain words. -/
structure Sm where
  u : Bool
  age : Int
  ln : Lm
deriving Inhabited, DecidableEq
/-- A slot, and where its data lie. -/
structure Sw where
  s : Sm
  x : Sv
deriving Inhabited, DecidableEq
def swC (q : Sw) : List Value := [.bool q.s.u, .int .i64 q.s.age, .int .i64 q.s.ln.ad, .slice q.x.sa q.x.n q.x.c, .bool q.s.ln.d, .bool q.s.ln.p]
theorem swC_len (q : Sw) : (swC q).length = 6 := rfl
def lnC (q : Lm × Sv) : List Value := [.int .i64 q.1.ad, .slice q.2.sa q.2.n q.2.c, .bool q.1.d, .bool q.1.p]
theorem lnC_len (q : Lm × Sv) : (lnC q).length = 4 := rfl
def lnV (m : Lm) (x : Sv) : Value := .agg #[.int .i64 m.ad, .slice x.sa x.n x.c, .bool m.d, .bool m.p]
def swV (q : Sw) : Value := .agg #[.bool q.s.u, .int .i64 q.s.age, .int .i64 q.s.ln.ad, .slice q.x.sa q.x.n q.x.c, .bool q.s.ln.d, .bool q.s.ln.p]
theorem swC_one (xs : List Sw) : ∀ y ∈ xs.flatMap swC, y.oneCell' = true := fun y hy => by
  obtain ⟨x, hx, h⟩ := List.mem_flatMap.1 hy
  simp only [swC, List.mem_cons, List.mem_nil_iff, or_false] at h
  rcases h with rfl | rfl | rfl | rfl | rfl | rfl <;> rfl
theorem lnC_one (xs : List (Lm × Sv)) : ∀ y ∈ xs.flatMap lnC, y.oneCell' = true := fun y hy => by
  obtain ⟨x, hx, h⟩ := List.mem_flatMap.1 hy
  simp only [lnC, List.mem_cons, List.mem_nil_iff, or_false] at h
  rcases h with rfl | rfl | rfl | rfl <;> rfl
theorem infoSw : (Try.prog.info? 37).map (fun i => (i.zero, i.size, i.bytes)) = some (some (.agg #[.bool false, .int .i64 0, .int .i64 0, .slice none 0 0, .bool false, .bool false]), 6, 56) := by kernel_rfl
theorem elemSw : Elem Try.prog 22 37 (.agg #[.bool false, .int .i64 0, .int .i64 0, .slice none 0 0, .bool false, .bool false]) 6 56 := Elem.mk' Try.underlying22 infoSw rfl (by decide)
theorem infoLn : (Try.prog.info? 35).map (fun i => (i.zero, i.size, i.bytes)) = some (some (.agg #[.int .i64 0, .slice none 0 0, .bool false, .bool false]), 4, 40) := by kernel_rfl
theorem elemLn : Elem Try.prog 48 35 (.agg #[.int .i64 0, .slice none 0 0, .bool false, .bool false]) 4 40 := Elem.mk' Try.underlying48 infoLn rfl (by decide)
/-- Slots lie in memory. -/
def SlotsOk (w : World) (qs : List Sw) : Prop := ∀ j, j < qs.length → BytesAt w (qs[j]!).x (qs[j]!).s.ln.bs
theorem SlotsOk.up {w w' : World} {qs : List Sw} (h : SlotsOk w qs) (hb : Below w.heap.size w w') : SlotsOk w' qs := fun j hj => (h j hj).up hb
def SlotsAt (w : World) (x : Sv) (l : List Sm) : Prop := ∃ qs : List Sw, qs.map Sw.s = l ∧ x.n = qs.length ∧ CapOk x ∧ Lies w w.heap.size x.sa 6 qs.length (fun j => swC qs[j]!) ∧ SlotsOk w qs
theorem SlotsAt.up {w w' : World} {x : Sv} {l : List Sm} (h : SlotsAt w x l) (hb : Below w.heap.size w w') : SlotsAt w' x l := by
  obtain ⟨qs, h1, h2, h3, h4, h5⟩ := h
  exact ⟨qs, h1, h2, h3, h4.up hb, h5.up hb⟩
abbrev rowS (s : Option Addr) (n c : Nat) (qs : List Sw) : Item := .row (.slice s n c) 37 6 n (qs.flatMap swC)
abbrev anyS (F : Nat → Prop) (qs : List Sw) : Item := .any F (fun w => SlotsOk w qs)
theorem slotsAt_of {w : World} {s : Option Addr} {n c : Nat} {qs : List Sw} (hr : w.ownsRow 0 37 6 (.slice s n c) n (qs.flatMap swC)) (hn : n = qs.length) (h : SlotsOk w qs) : SlotsAt w ⟨s, n, c⟩ (qs.map Sw.s) := by
  subst hn
  exact ⟨qs, rfl, rfl, row_capOk hr, ownsRow_lies swC_len rfl hr, h⟩
theorem set_getG {α : Type} [Inhabited α] (xs : List α) (x : α) (i k : Nat) (hk : k < xs.length) : (xs.set i x)[k]! = if k = i then x else xs[k]! := by
  rw [getElem!_pos _ k (by rw [List.length_set]; exact hk), List.getElem_set]
  by_cases h : i = k
  · rw [if_pos h, if_pos h.symm]
  · rw [if_neg h, if_neg (fun e => h e.symm), getElem!_pos xs k hk]
theorem map_get {α β : Type} [Inhabited α] [Inhabited β] (f : α → β) (xs : List α) (k : Nat) (hk : k < xs.length) : (xs.map f)[k]! = f xs[k]! := by
  rw [getElem!_pos _ k (by rw [List.length_map]; exact hk), List.getElem_map, getElem!_pos xs k hk]
/-- One slot's line stored over. -/
theorem sw_line : ∀ (qs : List Sw) (j : Nat) (m : Lm) (x : Sv), j < qs.length → ((((qs.flatMap swC).set (j * 6 + 2) (.int .i64 m.ad)).set (j * 6 + 3) (.slice x.sa x.n x.c)).set (j * 6 + 4) (.bool m.d)).set (j * 6 + 5) (.bool m.p) = (qs.set j ⟨⟨(qs[j]!).s.u, (qs[j]!).s.age, m⟩, x⟩).flatMap swC
  | [], j, m, x, h => absurd h (Nat.not_lt_zero _)
  | q :: qs, 0, m, x, h => by simp [swC]
  | q :: qs, j + 1, m, x, h => by
    have := sw_line qs j m x (by simpa using h)
    rw [List.set_cons_succ, List.flatMap_cons, List.flatMap_cons, show (q :: qs)[j + 1]! = qs[j]! from rfl, ← this]
    rw [show (j + 1) * 6 + 2 = j * 6 + 2 + 6 by omega, show (j + 1) * 6 + 3 = j * 6 + 3 + 6 by omega, show (j + 1) * 6 + 4 = j * 6 + 4 + 6 by omega, show (j + 1) * 6 + 5 = j * 6 + 5 + 6 by omega]
    simp [swC]
theorem sw_all : ∀ (qs : List Sw) (j : Nat) (q : Sw), j < qs.length → ((((((qs.flatMap swC).set (j * 6) (.bool q.s.u)).set (j * 6 + 1) (.int .i64 q.s.age)).set (j * 6 + 2) (.int .i64 q.s.ln.ad)).set (j * 6 + 3) (.slice q.x.sa q.x.n q.x.c)).set (j * 6 + 4) (.bool q.s.ln.d)).set (j * 6 + 5) (.bool q.s.ln.p) = (qs.set j q).flatMap swC
  | [], j, q, h => absurd h (Nat.not_lt_zero _)
  | x :: qs, 0, q, h => by simp [swC]
  | x :: qs, j + 1, q, h => by
    have := sw_all qs j q (by simpa using h)
    rw [List.set_cons_succ, List.flatMap_cons, List.flatMap_cons, ← this]
    rw [show (j + 1) * 6 = j * 6 + 6 by omega, show j * 6 + 6 + 1 = j * 6 + 1 + 6 by omega, show j * 6 + 6 + 2 = j * 6 + 2 + 6 by omega, show j * 6 + 6 + 3 = j * 6 + 3 + 6 by omega, show j * 6 + 6 + 4 = j * 6 + 4 + 6 by omega, show j * 6 + 6 + 5 = j * 6 + 5 + 6 by omega]
    simp [swC]
theorem sw_age : ∀ (qs : List Sw) (j : Nat) (a : Int), j < qs.length → (qs.flatMap swC).set (j * 6 + 1) (.int .i64 a) = (qs.set j ⟨⟨(qs[j]!).s.u, a, (qs[j]!).s.ln⟩, (qs[j]!).x⟩).flatMap swC
  | [], j, a, h => absurd h (Nat.not_lt_zero _)
  | x :: qs, 0, a, h => by simp [swC]
  | x :: qs, j + 1, a, h => by
    have := sw_age qs j a (by simpa using h)
    rw [List.set_cons_succ, List.flatMap_cons, List.flatMap_cons, show (x :: qs)[j + 1]! = qs[j]! from rfl, ← this]
    rw [show (j + 1) * 6 + 1 = j * 6 + 1 + 6 by omega]
    simp [swC]
theorem sw_used : ∀ (qs : List Sw) (j : Nat) (a : Bool), j < qs.length → (qs.flatMap swC).set (j * 6) (.bool a) = (qs.set j ⟨⟨a, (qs[j]!).s.age, (qs[j]!).s.ln⟩, (qs[j]!).x⟩).flatMap swC
  | [], j, a, h => absurd h (Nat.not_lt_zero _)
  | x :: qs, 0, a, h => by simp [swC]
  | x :: qs, j + 1, a, h => by
    have := sw_used qs j a (by simpa using h)
    rw [List.set_cons_succ, List.flatMap_cons, List.flatMap_cons, show (x :: qs)[j + 1]! = qs[j]! from rfl, ← this]
    rw [show (j + 1) * 6 = j * 6 + 6 by omega]
    simp [swC]
theorem sw_dirty : ∀ (qs : List Sw) (j : Nat) (a : Bool), j < qs.length → (qs.flatMap swC).set (j * 6 + 4) (.bool a) = (qs.set j ⟨⟨(qs[j]!).s.u, (qs[j]!).s.age, ⟨(qs[j]!).s.ln.ad, (qs[j]!).s.ln.bs, a, (qs[j]!).s.ln.p⟩⟩, (qs[j]!).x⟩).flatMap swC
  | [], j, a, h => absurd h (Nat.not_lt_zero _)
  | x :: qs, 0, a, h => by simp [swC]
  | x :: qs, j + 1, a, h => by
    have := sw_dirty qs j a (by simpa using h)
    rw [List.set_cons_succ, List.flatMap_cons, List.flatMap_cons, show (x :: qs)[j + 1]! = qs[j]! from rfl, ← this]
    rw [show (j + 1) * 6 + 4 = j * 6 + 4 + 6 by omega]
    simp [swC]
set_option maxHeartbeats 2000000 in
theorem cloneSw {sa : Option Addr} (c : Nat) {xs : List Sw} (hx : xs.length ≤ 1000) (h1 : ∀ u ∈ xs.flatMap swC, u.oneCell' = true) (w : World) (hl : Lies w w.heap.size sa 6 xs.length (fun j => swC xs[j]!)) :
    Calls Try.prog 55 #[.slice sa xs.length c] w (GivesS (fun v => v) 37 6 xs.length (xs.flatMap swC) w) := by
  obtain ⟨i, i1, i2, i3, i4⟩ := elemSw.hi
  have q22 : ∀ (w : World) (a : Option Addr) (n c n' c' : Nat), (binOp .eql 22 (.slice a n c) (.slice none n' c')).run Try.prog w = .ok (.bool a.isNone) w := fun w a n c n' c' => Lib.run_eql_slice_nil w _ _ a n c n' c' Try.underlying22
  by_cases hxs : xs = []
  · subst hxs
    clear hl
    cases sa with
    | none =>
      show Calls Try.prog 55 #[.slice none 0 c] w _
      go_enter Try.func55, Try.ntmps55
      have H := HS.start NoD w
      go_wp2_with fail
      go_ret
      exact ⟨none, 0, rfl, World.ownsRow_nil _ _ _ _, H.done⟩
    | some a =>
      show Calls Try.prog 55 #[.slice (some a) 0 c] w _
      go_enter Try.func55, Try.ntmps55
      have H := HS.start NoD w
      go_wp2_with fail
      go_ret
      exact ⟨_, _, rfl, World.ownsRow_made w #[] 0 (Nat.le_refl _) (Nat.zero_le _) rfl, H.alloc.done⟩
  · have hpos : 0 < xs.length := List.length_pos_iff.2 hxs
    obtain ⟨b, o, rfl, hb, -⟩ := hl.at hpos
    have HC := Lib.hid (Lies.flatCells swC_len (by decide) hl)
    have H1 := Lib.hid h1
    clear hl h1
    go_enter Try.func55, Try.ntmps55
    have H := HS.start NoD w
    go_upto_region 3 with fail
    go_wp2_with (at_builtin; refine wpList_append_lies _ rfl (.tmp 5) (.tmp 6) 22 rfl w.heap.size 37 i _ 6 56 elemSw.ht i1 i2 i3 i4 elemSw.hzs elemSw.pos _ 0 [] rfl (World.ownsRow_made w #[] 0 (Nat.le_refl _) (Nat.zero_le _) rfl) ⟨b, o, none⟩ xs.length c (xs.flatMap swC) rfl (flat_len swC_len xs) (fun j u hu => by rw [Addr.add_lit]; exact (((Below.refl _ _).alloc (Nat.le_refl _) _).cell (p := ⟨b, o + j, none⟩) hb).trans (HC.out j u hu)) H1.out hpos (by unfold maxLen; omega) (by omega) (by simp) _ rfl (fun g cap wz h2 h3 h4 h5 => ?_))
    go_ret
    exact ⟨_, _, rfl, by simpa using h2, ((Below.refl _ w).alloc (Nat.le_refl _) _).grown h3 (by simp) (by intro k hk; simp [Act.eval, Value.ownBlock] at hk; omega)⟩
/-- A call that hands back a line that shares nothing. -/
def GivesLine (m : Lm) (w : World) (e : Ending) (w' : World) : Prop := ∃ (x : Sv) (F : Nat → Prop), e = .returned (lnV m x) ∧ HS NoD w [.any F (fun w => BytesAt w x m.bs)] w'
set_option maxHeartbeats 4000000 in
theorem lcopy_any (m : Lm) (x : Sv) (hl : m.bs.length ≤ 1000) (w : World) (h : BytesAt w x m.bs) : Calls Try.prog 42 #[lnV m x] w (GivesLine m w) := by
  obtain ⟨sa, n, c⟩ := x
  obtain ⟨ad, bs, d, p⟩ := m
  obtain rfl : n = bs.length := h.len
  have HB := Lib.hid h
  have HCL := Lib.hid (fun wx hx => cloneBy (sa := sa) c (xs := bs) hl (bC1_one bs) wx hx)
  clear h hl
  show Calls Try.prog 42 #[.agg #[.int .i64 ad, .slice sa bs.length c, .bool d, .bool p]] w _
  go_enter Try.func42, Try.ntmps42
  have H := HS.start NoD w
  go_upto_region 1 with fail
  generalize hwb : (w.alloc _).alloc _ = w1
  replace H := HS.eqW hwb H.alloc.alloc
  try simp only [World.size_alloc, List.nil_append, List.cons_append, List.append_assoc] at H
  clear hwb
  generalize w.heap.size + 1 = bR at H ⊢
  generalize w.heap.size = bX at H ⊢
  try clear C
  have C := H.cells
  try simp only [cellsOf, cellsM, apartOf, apartM, and_true] at C
  go_wp2_with fail
  refine (HCL.out _ (H.liesUp HB.out.lies)).mono ?_
  rintro _ w2 ⟨s2, c2, rfl, hr, hb2⟩
  replace H := H.getsRow hb2 hr
  clear hr hb2 HCL
  try simp only [List.nil_append, List.cons_append] at H
  skip
  try clear C
  try simp only [World.size_alloc, List.nil_append, List.cons_append, List.append_assoc] at H
  have C := H.cells
  try simp only [cellsOf, cellsM, apartOf, apartM, and_true] at C
  dsimp only
  go_upto_region 2 with fail
  generalize hwb : World.setCell _ _ _ = w3
  replace H := HS.eqW hwb (H.setTo (o := 1) (v := .slice s2 bs.length c2) 0 rfl rfl)
  clear hwb
  simp only [List.set_cons_succ, List.set_cons_zero] at H
  skip
  try clear C
  try simp only [World.size_alloc, List.nil_append, List.cons_append, List.append_assoc] at H
  have C := H.cells
  try simp only [cellsOf, cellsM, apartOf, apartM, and_true] at C
  go_wp2_with fail
  generalize hwb : (((w3.setCell _ _).setCell _ _).setCell _ _).setCell _ _ = w2
  replace H := HS.eqW hwb (H.putAll (i := 1) rfl (vs := [.int .i64 ad, .slice s2 bs.length c2, .bool d, .bool p]) rfl rfl)
  simp only [List.nil_append, List.cons_append, List.append_assoc, List.set_cons_succ, List.set_cons_zero] at H
  clear hwb
  try clear C
  try clear w3
  have C := H.cells
  try simp only [cellsOf, cellsM, apartOf, apartM, and_true] at C
  refine bodyPost_ret (by simp [results, Try.results42, go_sem, C]; try rfl) rfl ?_
  have H9 := HS.less (L' := [.row (.slice s2 bs.length c2) 5 1 bs.length (bs.flatMap bC1)]) H (by repeat (first | exact .slnil | refine .cons_cons _ ?_ | refine .cons _ ?_))
  have H8 := HS.anyOf (L := []) H9 rfl
  exact ⟨⟨s2, bs.length, c2⟩, _, rfl, HS.weak (L := []) H8 fun w' h => bytes_row rfl h⟩
set_option maxHeartbeats 4000000 in
theorem l30copy_any (m : Lm) (x : Sv) (hl : m.bs.length ≤ 1000) (w : World) (h : BytesAt w x m.bs) : Calls Try.prog 33 #[lnV m x] w (GivesLine m w) := by
  obtain ⟨sa, n, c⟩ := x
  obtain ⟨ad, bs, d, p⟩ := m
  obtain rfl : n = bs.length := h.len
  have HB := Lib.hid h
  have hle : bs.length ≤ 1000 := hl
  clear h hl
  show Calls Try.prog 33 #[.agg #[.int .i64 ad, .slice sa bs.length c, .bool d, .bool p]] w _
  go_enter Try.func33, Try.ntmps33
  have H := HS.start NoD w
  go_upto_region 1 with fail
  generalize hwb : (w.alloc _).alloc _ = w1
  replace H := HS.eqW hwb H.alloc.alloc
  try simp only [World.size_alloc, List.nil_append, List.cons_append, List.append_assoc] at H
  clear hwb
  generalize w.heap.size + 1 = bR at H ⊢
  generalize w.heap.size = bX at H ⊢
  try clear C
  have C := H.cells
  try simp only [cellsOf, cellsM, apartOf, apartM, and_true] at C
  have hnr := H.nilRow 5 1
  clear H
  have H := hnr
  clear hnr
  try simp only [List.nil_append, List.cons_append] at H
  try clear C
  try simp only [World.size_alloc, List.nil_append, List.cons_append, List.append_assoc] at H
  have C := H.cells
  try simp only [cellsOf, cellsM, apartOf, apartM, and_true] at C
  have HCP := Lib.hid (show bs.length ≤ c ∧ (sa = none → c = 0) from HB.out.cap)
  go_upto_region 2 with (at_builtin; refine wpList_apX rfl (.const (.slice none 0 0)) (.tmp 4) 33 rfl elemBy H 2 rfl rfl rfl (Lies.srcX bC1_len (by decide) HCP.out.1 (H.liesUp HB.out.lies) HCP.out.2) (flat_len bC1_len bs) (bC1_one bs) (by unfold maxLen; omega) (by omega) (N := bs.length) (by omega) (fun s2 c2 w2 HZ hg => ?_); clear H C hg; replace HZ := HZ; simp only [List.nil_append, List.cons_append, List.append_assoc, List.set_cons_succ, List.set_cons_zero] at HZ; have H := HZ; clear HZ; have C := H.cells; simp only [cellsOf, cellsM, apartOf, apartM, and_true] at C)
  skip
  generalize hwb : World.setCell _ _ _ = w3
  replace H := HS.eqW hwb (H.setTo (o := 1) (v := .slice s2 bs.length c2) 0 rfl rfl)
  clear hwb
  simp only [List.set_cons_succ, List.set_cons_zero] at H
  skip
  try clear C
  try simp only [World.size_alloc, List.nil_append, List.cons_append, List.append_assoc] at H
  have C := H.cells
  try simp only [cellsOf, cellsM, apartOf, apartM, and_true] at C
  go_wp2_with fail
  generalize hwb : (((w3.setCell _ _).setCell _ _).setCell _ _).setCell _ _ = w2
  replace H := HS.eqW hwb (H.putAll (i := 1) rfl (vs := [.int .i64 ad, .slice s2 bs.length c2, .bool d, .bool p]) rfl rfl)
  simp only [List.nil_append, List.cons_append, List.append_assoc, List.set_cons_succ, List.set_cons_zero] at H
  clear hwb
  try clear C
  try clear w3
  have C := H.cells
  try simp only [cellsOf, cellsM, apartOf, apartM, and_true] at C
  refine bodyPost_ret (by simp [results, Try.results33, go_sem, C]; try rfl) rfl ?_
  have H9 := HS.less (L' := [.row (.slice s2 bs.length c2) 5 1 bs.length (bs.flatMap bC1)]) H (by repeat (first | exact .slnil | refine .cons_cons _ ?_ | refine .cons _ ?_))
  have H8 := HS.anyOf (L := []) H9 rfl
  exact ⟨⟨s2, bs.length, c2⟩, _, rfl, HS.weak (L := []) H8 fun w' h => bytes_row rfl h⟩
end Go.Proofs.Ytfmcicmbehjdcaa
