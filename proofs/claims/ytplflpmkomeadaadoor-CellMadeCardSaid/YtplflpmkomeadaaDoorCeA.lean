/- Memories of chapter 13: their words and faults, how they lie in memory; copies of slices of words and of faults. -/
import Derived.Test.YtplflpmkomeadaaDoorK4
import Derived.Test.YtplflpmkomeadaaDoorCov
import Derived.Test.YtplflpmkomeadaaDoorK3
namespace Go.Proofs.YtplflpmkomeadaaDoor
set_option linter.unusedSimpArgs false
set_option linter.unusedVariables false
open Go.RowKit
set_option maxRecDepth 100000
attribute [local go_sem] lt_more ne_more ne_more'
attribute [local irreducible] wpX wpF Calls

def cwC (q : Wm × Sv) : List Value := [.int .i64 q.1.ix, .slice q.2.sa q.2.n q.2.c, .bool q.1.po]
theorem cwC_len (q : Wm × Sv) : (cwC q).length = 3 := rfl
def cwV (m : Wm) (x : Sv) : Value := .agg #[.int .i64 m.ix, .slice x.sa x.n x.c, .bool m.po]
def cfC (f : Fa) : List Value := [.int .i64 f.k, .int .i64 f.p0, .int .i64 f.p1, .int .i64 f.p2, .int .i64 f.p3, .int .i64 f.p4, .int .i64 f.p5, .int .i64 f.ch, .int .u8 f.ms, .int .u8 f.vl, .bool f.hd]
theorem cfC_len (f : Fa) : (cfC f).length = 11 := rfl
@[reducible] def cfV (f : Fa) : Value := vF f.k f.p0 f.p1 f.p2 f.p3 f.p4 f.p5 f.ch f.ms f.vl f.hd
@[reducible] def shV (m : Mm) : Value := v6 m.s0 m.s1 m.s2 m.s3 m.s4 m.s5
@[reducible] def coV (m : Mm) : Value := .agg #[.int .i64 m.kd, .int .i64 m.dt, .int .i64 m.ck, .int .i64 m.fx]
def meV (m : Mm) (x y : Sv) : Value := .agg #[.int .i64 m.s0, .int .i64 m.s1, .int .i64 m.s2, .int .i64 m.s3, .int .i64 m.s4, .int .i64 m.s5, .int .i64 m.kd, .int .i64 m.dt, .int .i64 m.ck, .int .i64 m.fx, .slice x.sa x.n x.c, .slice y.sa y.n y.c]
theorem cwC_one (xs : List (Wm × Sv)) : ∀ y ∈ xs.flatMap cwC, y.oneCell' = true := fun y hy => by
  obtain ⟨x, hx, h⟩ := List.mem_flatMap.1 hy
  simp only [cwC, List.mem_cons, List.mem_nil_iff, or_false] at h
  rcases h with rfl | rfl | rfl <;> rfl
theorem cfC_one (xs : List Fa) : ∀ y ∈ xs.flatMap cfC, y.oneCell' = true := fun y hy => by
  obtain ⟨x, hx, h⟩ := List.mem_flatMap.1 hy
  simp only [cfC, List.mem_cons, List.mem_nil_iff, or_false] at h
  rcases h with rfl | rfl | rfl | rfl | rfl | rfl | rfl | rfl | rfl | rfl | rfl <;> rfl
theorem infoCw : (Tryd.prog.info? 50).map (fun i => (i.zero, i.size, i.bytes)) = some (some (.agg #[.int .i64 0, .slice none 0 0, .bool false]), 3, 40) := by kernel_rfl
theorem elemCw : Elem Tryd.prog 31 50 (.agg #[.int .i64 0, .slice none 0 0, .bool false]) 3 40 := Elem.mk' Tryd.underlying31 infoCw rfl (by decide)
theorem infoCf : (Tryd.prog.info? 38).map (fun i => (i.zero, i.size, i.bytes)) = some (some (.agg #[.int .i64 0, .int .i64 0, .int .i64 0, .int .i64 0, .int .i64 0, .int .i64 0, .int .i64 0, .int .i64 0, .int .u8 0, .int .u8 0, .bool false]), 11, 72) := by kernel_rfl
theorem elemCf : Elem Tryd.prog 32 38 (.agg #[.int .i64 0, .int .i64 0, .int .i64 0, .int .i64 0, .int .i64 0, .int .i64 0, .int .i64 0, .int .i64 0, .int .u8 0, .int .u8 0, .bool false]) 11 72 := Elem.mk' Tryd.underlying32 infoCf rfl (by decide)
/-- Words lie in memory. -/
def CwOk (w : World) (qs : List (Wm × Sv)) : Prop := ∀ q ∈ qs, BytesAt w q.2 q.1.bs
theorem CwOk.up {w w' : World} {qs : List (Wm × Sv)} (h : CwOk w qs) (hb : Below w.heap.size w w') : CwOk w' qs := fun q hq => (h q hq).up hb
def CwAt (w : World) (x : Sv) (ms : List Wm) : Prop := ∃ qs : List (Wm × Sv), qs.map Prod.fst = ms ∧ x.n = qs.length ∧ CapOk x ∧ Lies w w.heap.size x.sa 3 qs.length (fun j => cwC qs[j]!) ∧ CwOk w qs
theorem CwAt.up {w w' : World} {x : Sv} {ms : List Wm} (h : CwAt w x ms) (hb : Below w.heap.size w w') : CwAt w' x ms := by
  obtain ⟨qs, h1, h2, h3, h4, h5⟩ := h
  exact ⟨qs, h1, h2, h3, h4.up hb, h5.up hb⟩
/-- Words lie in memory, their bytes at given places. -/
def CwLie (w : World) (x : Sv) (qs : List (Wm × Sv)) : Prop := x.n = qs.length ∧ CapOk x ∧ Lies w w.heap.size x.sa 3 qs.length (fun j => cwC qs[j]!) ∧ CwOk w qs
theorem CwLie.up {w w' : World} {x : Sv} {qs : List (Wm × Sv)} (h : CwLie w x qs) (hb : Below w.heap.size w w') : CwLie w' x qs := ⟨h.1, h.2.1, h.2.2.1.up hb, h.2.2.2.up hb⟩
theorem CwLie.at {w : World} {x : Sv} {qs : List (Wm × Sv)} {ms : List Wm} (h : CwLie w x qs) (hm : qs.map Prod.fst = ms) : CwAt w x ms := ⟨qs, hm, h⟩
theorem CwAt.len {w : World} {x : Sv} {ms : List Wm} (h : CwAt w x ms) : x.n = ms.length := by
  obtain ⟨qs, rfl, h2, -⟩ := h
  rw [h2, List.length_map]
/-- Faults lie in memory. -/
def CfAt (w : World) (y : Sv) (fs : List Fa) : Prop := y.n = fs.length ∧ CapOk y ∧ Lies w w.heap.size y.sa 11 fs.length (fun j => cfC fs[j]!)
theorem CfAt.up {w w' : World} {y : Sv} {fs : List Fa} (h : CfAt w y fs) (hb : Below w.heap.size w w') : CfAt w' y fs := ⟨h.1, h.2.1, h.2.2.up hb⟩
/-- A memory lies in memory. -/
def MeAt (w : World) (x y : Sv) (m : Mm) : Prop := CwAt w x m.ws ∧ CfAt w y m.fs
theorem MeAt.up {w w' : World} {x y : Sv} {m : Mm} (h : MeAt w x y m) (hb : Below w.heap.size w w') : MeAt w' x y m := ⟨h.1.up hb, h.2.up hb⟩
abbrev rowCw (s : Option Addr) (n c : Nat) (qs : List (Wm × Sv)) : Item := .row (.slice s n c) 50 3 n (qs.flatMap cwC)
abbrev rowCf (s : Option Addr) (n c : Nat) (fs : List Fa) : Item := .row (.slice s n c) 38 11 n (fs.flatMap cfC)
abbrev anyCw (F : Nat → Prop) (qs : List (Wm × Sv)) : Item := .any F (fun w => CwOk w qs)
theorem cwLie_of {w : World} {s : Option Addr} {n c : Nat} {qs : List (Wm × Sv)} (hr : w.ownsRow 0 50 3 (.slice s n c) n (qs.flatMap cwC)) (hn : n = qs.length) (h : CwOk w qs) : CwLie w ⟨s, n, c⟩ qs := by
  subst hn
  exact ⟨rfl, row_capOk hr, ownsRow_lies cwC_len rfl hr, h⟩
theorem cfAt_of {w : World} {s : Option Addr} {n c : Nat} {fs : List Fa} (hr : w.ownsRow 0 38 11 (.slice s n c) n (fs.flatMap cfC)) (hn : n = fs.length) : CfAt w ⟨s, n, c⟩ fs := by
  subst hn
  exact ⟨rfl, row_capOk hr, ownsRow_lies cfC_len rfl hr⟩
set_option maxHeartbeats 2000000 in
theorem cloneCw {sa : Option Addr} (c : Nat) {xs : List (Wm × Sv)} (hx : xs.length ≤ 1000) (h1 : ∀ u ∈ xs.flatMap cwC, u.oneCell' = true) (w : World) (hl : Lies w w.heap.size sa 3 xs.length (fun j => cwC xs[j]!)) :
    Calls Tryd.prog 75 #[.slice sa xs.length c] w (GivesS (fun v => v) 50 3 xs.length (xs.flatMap cwC) w) := by
  obtain ⟨i, i1, i2, i3, i4⟩ := elemCw.hi
  have q22 : ∀ (w : World) (a : Option Addr) (n c n' c' : Nat), (binOp .eql 31 (.slice a n c) (.slice none n' c')).run Tryd.prog w = .ok (.bool a.isNone) w := fun w a n c n' c' => Lib.run_eql_slice_nil w _ _ a n c n' c' Tryd.underlying31
  by_cases hxs : xs = []
  · subst hxs
    clear hl
    cases sa with
    | none =>
      show Calls Tryd.prog 75 #[.slice none 0 c] w _
      go_enter Tryd.func75, Tryd.ntmps75
      have H := HS.start NoD w
      go_wp2_with fail
      go_ret
      exact ⟨none, 0, rfl, World.ownsRow_nil _ _ _ _, H.done⟩
    | some a =>
      show Calls Tryd.prog 75 #[.slice (some a) 0 c] w _
      go_enter Tryd.func75, Tryd.ntmps75
      have H := HS.start NoD w
      go_wp2_with fail
      go_ret
      exact ⟨_, _, rfl, World.ownsRow_made w #[] 0 (Nat.le_refl _) (Nat.zero_le _) rfl, H.alloc.done⟩
  · have hpos : 0 < xs.length := List.length_pos_iff.2 hxs
    obtain ⟨b, o, rfl, hb, -⟩ := hl.at hpos
    have HC := Lib.hid (Lies.flatCells cwC_len (by decide) hl)
    have H1 := Lib.hid h1
    clear hl h1
    go_enter Tryd.func75, Tryd.ntmps75
    have H := HS.start NoD w
    go_upto_region 3 with fail
    go_wp2_with (at_builtin; refine wpList_append_lies _ rfl (.tmp 5) (.tmp 6) 31 rfl w.heap.size 50 i _ 3 40 elemCw.ht i1 i2 i3 i4 elemCw.hzs elemCw.pos _ 0 [] rfl (World.ownsRow_made w #[] 0 (Nat.le_refl _) (Nat.zero_le _) rfl) ⟨b, o, none⟩ xs.length c (xs.flatMap cwC) rfl (flat_len cwC_len xs) (fun j u hu => by rw [Addr.add_lit]; exact (((Below.refl _ _).alloc (Nat.le_refl _) _).cell (p := ⟨b, o + j, none⟩) hb).trans (HC.out j u hu)) H1.out hpos (by unfold maxLen; omega) (by omega) (by simp) _ rfl (fun g cap wz h2 h3 h4 h5 => ?_))
    go_ret
    exact ⟨_, _, rfl, by simpa using h2, ((Below.refl _ w).alloc (Nat.le_refl _) _).grown h3 (by simp) (by intro k hk; simp [Act.eval, Value.ownBlock] at hk; omega)⟩
set_option maxHeartbeats 2000000 in
theorem cloneCf {sa : Option Addr} (c : Nat) {xs : List Fa} (hx : xs.length ≤ 1000) (h1 : ∀ u ∈ xs.flatMap cfC, u.oneCell' = true) (w : World) (hl : Lies w w.heap.size sa 11 xs.length (fun j => cfC xs[j]!)) :
    Calls Tryd.prog 76 #[.slice sa xs.length c] w (GivesS (fun v => v) 38 11 xs.length (xs.flatMap cfC) w) := by
  obtain ⟨i, i1, i2, i3, i4⟩ := elemCf.hi
  have q22 : ∀ (w : World) (a : Option Addr) (n c n' c' : Nat), (binOp .eql 32 (.slice a n c) (.slice none n' c')).run Tryd.prog w = .ok (.bool a.isNone) w := fun w a n c n' c' => Lib.run_eql_slice_nil w _ _ a n c n' c' Tryd.underlying32
  by_cases hxs : xs = []
  · subst hxs
    clear hl
    cases sa with
    | none =>
      show Calls Tryd.prog 76 #[.slice none 0 c] w _
      go_enter Tryd.func76, Tryd.ntmps76
      have H := HS.start NoD w
      go_wp2_with fail
      go_ret
      exact ⟨none, 0, rfl, World.ownsRow_nil _ _ _ _, H.done⟩
    | some a =>
      show Calls Tryd.prog 76 #[.slice (some a) 0 c] w _
      go_enter Tryd.func76, Tryd.ntmps76
      have H := HS.start NoD w
      go_wp2_with fail
      go_ret
      exact ⟨_, _, rfl, World.ownsRow_made w #[] 0 (Nat.le_refl _) (Nat.zero_le _) rfl, H.alloc.done⟩
  · have hpos : 0 < xs.length := List.length_pos_iff.2 hxs
    obtain ⟨b, o, rfl, hb, -⟩ := hl.at hpos
    have HC := Lib.hid (Lies.flatCells cfC_len (by decide) hl)
    have H1 := Lib.hid h1
    clear hl h1
    go_enter Tryd.func76, Tryd.ntmps76
    have H := HS.start NoD w
    go_upto_region 3 with fail
    go_wp2_with (at_builtin; refine wpList_append_lies _ rfl (.tmp 5) (.tmp 6) 32 rfl w.heap.size 38 i _ 11 72 elemCf.ht i1 i2 i3 i4 elemCf.hzs elemCf.pos _ 0 [] rfl (World.ownsRow_made w #[] 0 (Nat.le_refl _) (Nat.zero_le _) rfl) ⟨b, o, none⟩ xs.length c (xs.flatMap cfC) rfl (flat_len cfC_len xs) (fun j u hu => by rw [Addr.add_lit]; exact (((Below.refl _ _).alloc (Nat.le_refl _) _).cell (p := ⟨b, o + j, none⟩) hb).trans (HC.out j u hu)) H1.out hpos (by unfold maxLen; omega) (by omega) (by simp) _ rfl (fun g cap wz h2 h3 h4 h5 => ?_))
    go_ret
    exact ⟨_, _, rfl, by simpa using h2, ((Below.refl _ w).alloc (Nat.le_refl _) _).grown h3 (by simp) (by intro k hk; simp [Act.eval, Value.ownBlock] at hk; omega)⟩
/-- A call that hands back a memory that shares nothing. -/
def GivesMe (m : Mm) (w : World) (e : Ending) (w' : World) : Prop := ∃ (x y : Sv) (qs : List (Wm × Sv)) (F : Nat → Prop), qs.map Prod.fst = m.ws ∧ e = .returned (meV m x y) ∧ HS NoD w [.any F (fun w => CwLie w x qs ∧ CfAt w y m.fs)] w'
/-- .. and an error. -/
def GivesMeE (m : Mm) (er : Int) (w : World) (e : Ending) (w' : World) : Prop := ∃ (x y : Sv) (qs : List (Wm × Sv)) (F : Nat → Prop), qs.map Prod.fst = m.ws ∧ e = .returned (.tuple #[meV m x y, .int .i64 er]) ∧ HS NoD w [.any F (fun w => CwLie w x qs ∧ CfAt w y m.fs)] w'
theorem meAt_of {w : World} {x y : Sv} {qs : List (Wm × Sv)} {m : Mm} (hm : qs.map Prod.fst = m.ws) (h : CwLie w x qs ∧ CfAt w y m.fs) : MeAt w x y m := ⟨h.1.at hm, h.2⟩
end Go.Proofs.YtplflpmkomeadaaDoor
