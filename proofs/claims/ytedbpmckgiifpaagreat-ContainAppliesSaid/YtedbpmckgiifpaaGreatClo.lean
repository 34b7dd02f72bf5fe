/- slices.Clone at pages, programs and ints. -/
import Derived.Test.YtedbpmckgiifpaaGreatO5
import Derived.Lib.SliceRun
namespace Go.Proofs.YtedbpmckgiifpaaGreat
set_option linter.unusedSimpArgs false
set_option linter.unusedVariables false
open Go.RowKit
set_option maxRecDepth 100000
attribute [local go_sem] lt_more ne_more ne_more'
attribute [local irreducible] wpX wpF Calls

/-- The elements' cells, one after the other. -/
theorem Lies.flat {α : Type} [Inhabited α] {enc : α → List Value} {k : Nat} (hk : ∀ x, (enc x).length = k) (hk0 : 0 < k) {w : World} {B b o : Nat} {xs : List α} (h : Lies w B (some ⟨b, o, none⟩) k xs.length (fun j => enc xs[j]!)) :
    ∀ m u, (xs.flatMap enc)[m]? = some u → w.cell? ⟨b, o + m, none⟩ = some u := fun m u hu => by
  have hm : m < xs.length * k := by rw [← flat_len hk]; exact (List.getElem?_eq_some_iff.1 hu).1
  have hq : m / k < xs.length := Nat.div_lt_of_lt_mul (by rw [Nat.mul_comm]; exact hm)
  have hr : m % k < k := Nat.mod_lt _ hk0
  have hmm : m / k * k + m % k = m := by rw [Nat.mul_comm]; exact Nat.div_add_mod m k
  obtain ⟨v, hv⟩ : ∃ v, (enc xs[m / k]!)[m % k]? = some v := ⟨_, List.getElem?_eq_getElem (by rw [hk]; exact hr)⟩
  have h1 := flat_get hk xs (m / k) (m % k) v hq hv
  rw [hmm, hu] at h1
  obtain ⟨b', o', e, -, h2⟩ := h (m / k) hq
  simp only [Option.some.injEq, Addr.mk.injEq, and_true] at e
  obtain ⟨rfl, rfl⟩ := e
  have := h2 (m % k) v hv
  rw [Nat.add_assoc, hmm] at this
  rw [this, h1]
set_option maxHeartbeats 2000000 in
theorem clonePg {sa : Option Addr} (c : Nat) {xs : List Pg} (hx : xs.length ≤ 1000) (h1 : ∀ u ∈ xs.flatMap pgC, u.oneCell' = true) (w : World) (hl : Lies w w.heap.size sa 3 xs.length (fun j => pgC xs[j]!)) :
    Calls Tryz.prog 40 #[.slice sa xs.length c] w (GivesS (fun v => v) 49 3 xs.length (xs.flatMap pgC) w) := by
  obtain ⟨i, i1, i2, i3, i4⟩ := elemPg.hi
  have q22 : ∀ (w : World) (a : Option Addr) (n c n' c' : Nat), (binOp .eql 50 (.slice a n c) (.slice none n' c')).run Tryz.prog w = .ok (.bool a.isNone) w := fun w a n c n' c' => Lib.run_eql_slice_nil w _ _ a n c n' c' Tryz.underlying50
  by_cases hxs : xs = []
  · subst hxs
    clear hl
    cases sa with
    | none =>
      show Calls Tryz.prog 40 #[.slice none 0 c] w _
      go_enter Tryz.func40, Tryz.ntmps40
      have H := HS.start NoD w
      go_wp2_with fail
      go_ret
      exact ⟨none, 0, rfl, World.ownsRow_nil _ _ _ _, H.done⟩
    | some a =>
      show Calls Tryz.prog 40 #[.slice (some a) 0 c] w _
      go_enter Tryz.func40, Tryz.ntmps40
      have H := HS.start NoD w
      go_wp2_with fail
      go_ret
      exact ⟨_, _, rfl, World.ownsRow_made w #[] 0 (Nat.le_refl _) (Nat.zero_le _) rfl, H.alloc.done⟩
  · have hpos : 0 < xs.length := List.length_pos_iff.2 hxs
    obtain ⟨b, o, rfl, hb, -⟩ := hl.at hpos
    have HC := Lib.hid (Lies.flat pgC_len (by decide) hl)
    have H1 := Lib.hid h1
    clear hl h1
    go_enter Tryz.func40, Tryz.ntmps40
    have H := HS.start NoD w
    go_upto_region 3 with fail
    go_wp2_with (at_builtin; refine wpList_append_lies _ rfl (.tmp 5) (.tmp 6) 50 rfl w.heap.size 49 i _ 3 24 elemPg.ht i1 i2 i3 i4 elemPg.hzs elemPg.pos _ 0 [] rfl (World.ownsRow_made w #[] 0 (Nat.le_refl _) (Nat.zero_le _) rfl) ⟨b, o, none⟩ xs.length c (xs.flatMap pgC) rfl (flat_len pgC_len xs) (fun j u hu => by rw [Addr.add_lit]; exact (((Below.refl _ _).alloc (Nat.le_refl _) _).cell (p := ⟨b, o + j, none⟩) hb).trans (HC.out j u hu)) H1.out hpos (by unfold maxLen; omega) (by omega) (by simp) _ rfl (fun g cap wz h2 h3 h4 h5 => ?_))
    go_ret
    exact ⟨_, _, rfl, by simpa using h2, ((Below.refl _ w).alloc (Nat.le_refl _) _).grown h3 (by simp) (by intro k hk; simp [Act.eval, Value.ownBlock] at hk; omega)⟩
set_option maxHeartbeats 2000000 in
theorem cloneN {sa : Option Addr} (c : Nat) {xs : List Int} (hx : xs.length ≤ 1000) (h1 : ∀ u ∈ xs.flatMap iC, u.oneCell' = true) (w : World) (hl : Lies w w.heap.size sa 1 xs.length (fun j => iC xs[j]!)) :
    Calls Tryz.prog 41 #[.slice sa xs.length c] w (GivesS (fun v => v) 3 1 xs.length (xs.flatMap iC) w) := by
  obtain ⟨i, i1, i2, i3, i4⟩ := elemN.hi
  have q22 : ∀ (w : World) (a : Option Addr) (n c n' c' : Nat), (binOp .eql 22 (.slice a n c) (.slice none n' c')).run Tryz.prog w = .ok (.bool a.isNone) w := fun w a n c n' c' => Lib.run_eql_slice_nil w _ _ a n c n' c' Tryz.underlying22
  by_cases hxs : xs = []
  · subst hxs
    clear hl
    cases sa with
    | none =>
      show Calls Tryz.prog 41 #[.slice none 0 c] w _
      go_enter Tryz.func41, Tryz.ntmps41
      have H := HS.start NoD w
      go_wp2_with fail
      go_ret
      exact ⟨none, 0, rfl, World.ownsRow_nil _ _ _ _, H.done⟩
    | some a =>
      show Calls Tryz.prog 41 #[.slice (some a) 0 c] w _
      go_enter Tryz.func41, Tryz.ntmps41
      have H := HS.start NoD w
      go_wp2_with fail
      go_ret
      exact ⟨_, _, rfl, World.ownsRow_made w #[] 0 (Nat.le_refl _) (Nat.zero_le _) rfl, H.alloc.done⟩
  · have hpos : 0 < xs.length := List.length_pos_iff.2 hxs
    obtain ⟨b, o, rfl, hb, -⟩ := hl.at hpos
    have HC := Lib.hid (Lies.flat iC_len (by decide) hl)
    have H1 := Lib.hid h1
    clear hl h1
    go_enter Tryz.func41, Tryz.ntmps41
    have H := HS.start NoD w
    go_upto_region 3 with fail
    go_wp2_with (at_builtin; refine wpList_append_lies _ rfl (.tmp 5) (.tmp 6) 22 rfl w.heap.size 3 i _ 1 8 elemN.ht i1 i2 i3 i4 elemN.hzs elemN.pos _ 0 [] rfl (World.ownsRow_made w #[] 0 (Nat.le_refl _) (Nat.zero_le _) rfl) ⟨b, o, none⟩ xs.length c (xs.flatMap iC) rfl (flat_len iC_len xs) (fun j u hu => by rw [Addr.add_lit]; exact (((Below.refl _ _).alloc (Nat.le_refl _) _).cell (p := ⟨b, o + j, none⟩) hb).trans (HC.out j u hu)) H1.out hpos (by unfold maxLen; omega) (by omega) (by simp) _ rfl (fun g cap wz h2 h3 h4 h5 => ?_))
    go_ret
    exact ⟨_, _, rfl, by simpa using h2, ((Below.refl _ w).alloc (Nat.le_refl _) _).grown h3 (by simp) (by intro k hk; simp [Act.eval, Value.ownBlock] at hk; omega)⟩
set_option maxHeartbeats 2000000 in
theorem clonePr {sa : Option Addr} (c : Nat) {xs : List Pv} (hx : xs.length ≤ 1000) (h1 : ∀ u ∈ xs.flatMap pvC, u.oneCell' = true) (w : World) (hl : Lies w w.heap.size sa 5 xs.length (fun j => pvC xs[j]!)) :
    Calls Tryz.prog 39 #[.slice sa xs.length c] w (GivesS (fun v => v) 52 5 xs.length (xs.flatMap pvC) w) := by
  obtain ⟨i, i1, i2, i3, i4⟩ := elemPr.hi
  have q22 : ∀ (w : World) (a : Option Addr) (n c n' c' : Nat), (binOp .eql 28 (.slice a n c) (.slice none n' c')).run Tryz.prog w = .ok (.bool a.isNone) w := fun w a n c n' c' => Lib.run_eql_slice_nil w _ _ a n c n' c' Tryz.underlying28
  by_cases hxs : xs = []
  · subst hxs
    clear hl
    cases sa with
    | none =>
      show Calls Tryz.prog 39 #[.slice none 0 c] w _
      go_enter Tryz.func39, Tryz.ntmps39
      have H := HS.start NoD w
      go_wp2_with fail
      go_ret
      exact ⟨none, 0, rfl, World.ownsRow_nil _ _ _ _, H.done⟩
    | some a =>
      show Calls Tryz.prog 39 #[.slice (some a) 0 c] w _
      go_enter Tryz.func39, Tryz.ntmps39
      have H := HS.start NoD w
      go_wp2_with fail
      go_ret
      exact ⟨_, _, rfl, World.ownsRow_made w #[] 0 (Nat.le_refl _) (Nat.zero_le _) rfl, H.alloc.done⟩
  · have hpos : 0 < xs.length := List.length_pos_iff.2 hxs
    obtain ⟨b, o, rfl, hb, -⟩ := hl.at hpos
    have HC := Lib.hid (Lies.flat pvC_len (by decide) hl)
    have H1 := Lib.hid h1
    clear hl h1
    go_enter Tryz.func39, Tryz.ntmps39
    have H := HS.start NoD w
    go_upto_region 3 with fail
    go_wp2_with (at_builtin; refine wpList_append_lies _ rfl (.tmp 5) (.tmp 6) 28 rfl w.heap.size 52 i _ 5 64 elemPr.ht i1 i2 i3 i4 elemPr.hzs elemPr.pos _ 0 [] rfl (World.ownsRow_made w #[] 0 (Nat.le_refl _) (Nat.zero_le _) rfl) ⟨b, o, none⟩ xs.length c (xs.flatMap pvC) rfl (flat_len pvC_len xs) (fun j u hu => by rw [Addr.add_lit]; exact (((Below.refl _ _).alloc (Nat.le_refl _) _).cell (p := ⟨b, o + j, none⟩) hb).trans (HC.out j u hu)) H1.out hpos (by unfold maxLen; omega) (by omega) (by simp) _ rfl (fun g cap wz h2 h3 h4 h5 => ?_))
    go_ret
    exact ⟨_, _, rfl, by simpa using h2, ((Below.refl _ w).alloc (Nat.le_refl _) _).grown h3 (by simp) (by intro k hk; simp [Act.eval, Value.ownBlock] at hk; omega)⟩
end Go.Proofs.YtedbpmckgiifpaaGreat
