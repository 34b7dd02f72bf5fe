/- Package spare: Clone at swaps, Copy. -/
import Derived.Test.YtcacgmfihhpliaaSpare5
import Derived.Lib.SliceRun
namespace Go.Proofs.Ytcacgmfihhpliaa
set_option linter.unusedSimpArgs false
set_option linter.unusedVariables false
open Go.RowKit
set_option maxRecDepth 100000
attribute [local go_sem] lt_more ne_more ne_more'
attribute [local irreducible] wpX wpF Calls

theorem infoS : (Try.prog.info? 38).map (fun i => (i.zero, i.size, i.bytes)) = some (some (.agg #[.int .i64 0, .int .i64 0, .int .i64 0, .int .i64 0, .int .i64 0, .int .i64 0, .int .i64 0, .int .i64 0]), 8, 64) := by kernel_rfl
theorem elemS : Elem Try.prog 24 38 (.agg #[.int .i64 0, .int .i64 0, .int .i64 0, .int .i64 0, .int .i64 0, .int .i64 0, .int .i64 0, .int .i64 0]) 8 64 := Elem.mk' Try.underlying24 infoS rfl (by decide)
/-- The elements' cells, one after the other. -/
theorem Lies.flat {α : Type} [Inhabited α] {enc : α → List Value} {k : Nat} (hk : ∀ x, (enc x).length = k) (hk0 : 0 < k) {w : World} {B b o : Nat} {xs : List α} (h : Lies w B (some ⟨b, o, none⟩) k xs.length (fun j => enc xs[j]!)) :
    ∀ m u, (xs.flatMap enc)[m]? = some u → w.cell? ⟨b, o + m, none⟩ = some u := fun m u hu => by
  have hm : m < xs.length * k := by rw [← flat_len hk]; exact (List.getElem?_eq_some_iff.1 hu).1
  have hq : m / k < xs.length := Nat.div_lt_of_lt_mul (by rw [Nat.mul_comm]; exact hm)
  have hr : m % k < k := Nat.mod_lt _ hk0
  have hmm : m / k * k + m % k = m := by rw [Nat.mul_comm]; exact Nat.div_add_mod m k
  obtain ⟨v, hv⟩ : ∃ v, (enc xs[m / k]!)[m % k]? = some v := ⟨_, List.getElem?_eq_getElem (by rw [hk]; exact hr)⟩
  have h1 := flat_get hk xs (m / k) (m % k) v hq hv
  rw [hmm, hu] at h1
  obtain ⟨b', o', e, -, h2⟩ := h (m / k) hq
  simp only [Option.some.injEq, Addr.mk.injEq, and_true] at e
  obtain ⟨rfl, rfl⟩ := e
  have := h2 (m % k) v hv
  rw [Nat.add_assoc, hmm] at this
  rw [this, h1]
theorem sC_one (xs : List S8) : ∀ u ∈ xs.flatMap sC, u.oneCell' = true := fun u hu => by
  obtain ⟨x, -, hx⟩ := List.mem_flatMap.1 hu
  simp only [sC, List.mem_cons, List.not_mem_nil, or_false] at hx
  rcases hx with rfl | rfl | rfl | rfl | rfl | rfl | rfl | rfl <;> rfl
set_option maxHeartbeats 2000000 in
theorem clone_any {sa : Option Addr} (c : Nat) {xs : List S8} (hx : xs.length ≤ 1000) (w : World) (hl : Lies w w.heap.size sa 8 xs.length (fun j => sC xs[j]!)) :
    Calls Try.prog 85 #[.slice sa xs.length c] w (GivesS (fun v => v) 38 8 xs.length (xs.flatMap sC) w) := by
  obtain ⟨i, i1, i2, i3, i4⟩ := elemS.hi
  have q22 : ∀ (w : World) (a : Option Addr) (n c n' c' : Nat), (binOp .eql 24 (.slice a n c) (.slice none n' c')).run Try.prog w = .ok (.bool a.isNone) w := fun w a n c n' c' => Lib.run_eql_slice_nil w _ _ a n c n' c' Try.underlying24
  by_cases hxs : xs = []
  · subst hxs
    clear hl
    cases sa with
    | none =>
      show Calls Try.prog 85 #[.slice none 0 c] w _
      go_enter Try.func85, Try.ntmps85
      have H := HS.start NoD w
      go_wp2_with fail
      go_ret
      exact ⟨none, 0, rfl, World.ownsRow_nil _ _ _ _, H.done⟩
    | some a =>
      show Calls Try.prog 85 #[.slice (some a) 0 c] w _
      go_enter Try.func85, Try.ntmps85
      have H := HS.start NoD w
      go_wp2_with fail
      go_ret
      exact ⟨_, _, rfl, World.ownsRow_made w #[] 0 (Nat.le_refl _) (Nat.zero_le _) rfl, H.alloc.done⟩
  · have hpos : 0 < xs.length := List.length_pos_iff.2 hxs
    obtain ⟨b, o, rfl, hb, -⟩ := hl.at hpos
    have HC := Lib.hid (Lies.flat sC_len (by decide) hl)
    clear hl
    go_enter Try.func85, Try.ntmps85
    have H := HS.start NoD w
    go_upto_region 3 with fail
    go_wp2_with (at_builtin; refine wpList_append_lies _ rfl (.tmp 5) (.tmp 6) 24 rfl w.heap.size 38 i _ 8 64 elemS.ht i1 i2 i3 i4 elemS.hzs elemS.pos _ 0 [] rfl (World.ownsRow_made w #[] 0 (Nat.le_refl _) (Nat.zero_le _) rfl) ⟨b, o, none⟩ xs.length c (xs.flatMap sC) rfl (flat_len sC_len xs) (fun j u hu => by rw [Addr.add_lit]; exact (((Below.refl _ _).alloc (Nat.le_refl _) _).cell (p := ⟨b, o + j, none⟩) hb).trans (HC.out j u hu)) (sC_one xs) hpos (by unfold maxLen; omega) (by omega) (by simp) _ rfl (fun g cap wz h2 h3 h4 h5 => ?_))
    go_ret
    exact ⟨_, _, rfl, by simpa using h2, ((Below.refl _ w).alloc (Nat.le_refl _) _).grown h3 (by simp) (by intro k hk; simp [Act.eval, Value.ownBlock] at hk; omega)⟩
set_option maxHeartbeats 2000000 in
theorem scopy_any (a0 a1 a2 a3 a4 a5 n : Int) {sa : Option Addr} (c : Nat) {xs : List S8} (hx : xs.length ≤ 1000) (w : World) (hl : Lies w w.heap.size sa 8 xs.length (fun j => sC xs[j]!)) :
    Calls Try.prog 64 #[vSp a0 a1 a2 a3 a4 a5 n (.slice sa xs.length c)] w (GivesS (vSp a0 a1 a2 a3 a4 a5 n) 38 8 xs.length (xs.flatMap sC) w) := by
  have HL := Lib.hid hl
  have HCL := Lib.hid (fun w hl => clone_any (sa := sa) c hx w hl)
  clear hl
  go_enter Try.func64, Try.ntmps64
  have H := HS.start NoD w
  go_wp2_with fail
  refine (HCL.out _ (H.alloc.alloc.liesUp HL.out)).mono ?_
  rintro _ w1 ⟨s1, d1, rfl, hr, hb⟩
  replace H := (H.alloc.alloc).getsRow hb hr
  clear hb hr
  try clear C
  try simp only [World.size_alloc, List.nil_append, List.cons_append, List.append_assoc] at H
  generalize w.heap.size + 1 = bR at H ⊢
  generalize w.heap.size = bX at H ⊢
  have C := H.cells
  try simp only [cellsOf, apartOf, and_true] at C
  dsimp only
  go_upto_region 2 with fail
  generalize hwb : World.setCell _ _ _ = w9
  have H := HS.eqW hwb (H.setTo (o := 7) (v := .slice s1 xs.length d1) 0 rfl rfl)
  clear hwb C
  simp only [List.nil_append, List.cons_append, List.append_assoc, List.set_cons_succ, List.set_cons_zero] at H
  have H : HS NoD w [.blk bX #[.int .i64 a0, .int .i64 a1, .int .i64 a2, .int .i64 a3, .int .i64 a4, .int .i64 a5, .int .i64 n, .slice s1 xs.length d1] 26, .blk bR #[.int .i64 0, .int .i64 0, .int .i64 0, .int .i64 0, .int .i64 0, .int .i64 0, .int .i64 0, .slice none 0 0] 26, .row (.slice s1 xs.length d1) 38 8 xs.length (xs.flatMap sC)] w9 := H
  skip
  try clear C
  try simp only [World.size_alloc, List.nil_append, List.cons_append, List.append_assoc] at H
  have C := H.cells
  try simp only [cellsOf, apartOf, and_true] at C
  go_wp2_with fail
  generalize hwb : (((((((w9.setCell _ _).setCell _ _).setCell _ _).setCell _ _).setCell _ _).setCell _ _).setCell _ _).setCell _ _ = w2
  replace H := HS.eqW hwb (H.putAll (i := 1) rfl (vs := [.int .i64 a0, .int .i64 a1, .int .i64 a2, .int .i64 a3, .int .i64 a4, .int .i64 a5, .int .i64 n, .slice s1 xs.length d1]) rfl rfl)
  simp only [List.nil_append, List.cons_append, List.append_assoc, List.set_cons_succ, List.set_cons_zero] at H
  clear hwb
  try clear C
  try clear w9
  have C := H.cells
  try simp only [cellsOf, apartOf, and_true] at C
  refine bodyPost_ret (by simp [results, Try.results64, go_sem, C]; try rfl) rfl ?_
  exact H.givesS 2 (mk := vSp a0 a1 a2 a3 a4 a5 n) rfl
end Go.Proofs.Ytcacgmfihhpliaa
