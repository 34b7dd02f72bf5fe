/- memfaultref31.at, use. -/
import Derived.Test.YtfmcicmbehjdcaaLrC
import Derived.Test.YtfmcicmbehjdcaaLrI
namespace Go.Proofs.Ytfmcicmbehjdcaa
set_option linter.unusedSimpArgs false
set_option linter.unusedVariables false
open Go.RowKit
set_option maxRecDepth 100000
attribute [local irreducible] wpX wpF Calls

/-- What a search for a line hands back. -/
def AtPost (l : List Sm) (a : Int) (w : World) (e : Ending) (w' : World) : Prop := ∃ r : Int, e = .returned (.int .i64 r) ∧ ((r = -1 ∧ ∀ k, k < l.length → ¬ Hit l a k) ∨ ∃ k : Nat, k < l.length ∧ r = k ∧ Hit l a k) ∧ Below w.heap.size w w'
set_option maxHeartbeats 8000000 in
theorem r31at_any (sets ways size : Int) (x : Sv) (l : List Sm) (hs : l.length ≤ 1000000) (a : Int) (w : World) (h : SlotsAt w x l) : Calls Try.prog 51 #[caV sets ways size x, .int .i64 a] w (AtPost l a w) := by
  obtain ⟨xa, xn, xc⟩ := x
  obtain ⟨q0, hql, hn, hcap, hl, hb⟩ := h
  dsimp only at hn hcap hl
  subst hn
  have hq1 : q0.length = l.length := by rw [← hql, List.length_map]
  have HQ := Lib.hid (show ∀ j, j < l.length → (q0[j]!).s = l[j]! from fun j hj => by rw [← hql, map_get _ _ _ (by omega)])
  have HL := Lib.hid hl
  rw [hq1] at HL
  show Calls Try.prog 51 #[.agg #[.int .i64 sets, .int .i64 ways, .int .i64 size, .slice xa q0.length xc], .int .i64 a] w _
  rw [hq1]
  clear hb hl hcap hql hq1
  go_enter Try.func51, Try.ntmps51
  have H := HS.start NoD w
  go_upto_region 1 with fail
  generalize hwb : w.alloc _ = w1
  replace H := HS.eqW hwb H.alloc
  try simp only [World.size_alloc, List.nil_append, List.cons_append, List.append_assoc] at H
  clear hwb
  generalize w.heap.size = bX at H ⊢
  try clear C
  have C := H.cells
  try simp only [cellsOf, cellsM, apartOf, apartM, and_true] at C
  go_wp2_with fail
  go_loopw [10] (fun jj wr => ∃ (j : Nat), jj = .int .i64 j ∧ j ≤ l.length ∧ Hid (∀ k, k < j → ¬ Hit l a k) ∧ HS NoD w [.blk bX #[.int .i64 sets, .int .i64 ways, .int .i64 size, .slice xa l.length xc] 24] wr) (fun jj _ => l.length - (intOf jj).toNat)
  case atStart => exact ⟨0, rfl, Nat.zero_le _, (show Hid _ from fun i hi => absurd hi (Nat.not_lt_zero _)), H⟩
  case round =>
    clear H C
    obtain ⟨j, rfl, hj, HNH, H⟩ := hrel
    skip
    try clear C
    try simp only [World.size_alloc, List.nil_append, List.cons_append, List.append_assoc] at H
    have C := H.cells
    try simp only [cellsOf, cellsM, apartOf, apartM, and_true] at C
    by_cases hlt : j < l.length
    · obtain ⟨b, o, rfl, hb, hc⟩ := (H.liesUp HL.out).at hlt
      have h1 := HQ.out j hlt
      generalize q0[j]! = q at hc h1
      obtain ⟨⟨u, age, ad, bs, d, p⟩, ⟨sa, sn, sc⟩⟩ := q
      dsimp only at h1
      have HLJ := Lib.hid h1
      have c0 : wr.cell? ⟨b, o + j * 6, none⟩ = some (.bool u) := hc 0 _ rfl
      have c1 : wr.cell? ⟨b, o + j * 6 + 1, none⟩ = some (.int .i64 age) := hc 1 _ rfl
      have c2 : wr.cell? ⟨b, o + j * 6 + 2, none⟩ = some (.int .i64 ad) := hc 2 _ rfl
      have c3 : wr.cell? ⟨b, o + j * 6 + 3, none⟩ = some (.slice sa sn sc) := hc 3 _ rfl
      have c4 : wr.cell? ⟨b, o + j * 6 + 4, none⟩ = some (.bool d) := hc 4 _ rfl
      have c5 : wr.cell? ⟨b, o + j * 6 + 5, none⟩ = some (.bool p) := hc 5 _ rfl
      have n1 : (b = wr.heap.size) = False := eq_false (by omega)
      have n2 : (wr.heap.size = b) = False := eq_false (by omega)
      have hji : (j : Int) < l.length := by omega
      clear hc h1
      go_upto_region 4 with fail
      clear c0 c1 c2 c3 c4 c5 n1 n2
      generalize hwb : wr.alloc _ = w2
      replace H := HS.eqW hwb H.alloc
      try simp only [World.size_alloc, List.nil_append, List.cons_append, List.append_assoc] at H
      clear hwb
      generalize wr.heap.size = bP at H ⊢
      try clear C
      try clear wr
      have C := H.cells
      try simp only [cellsOf, cellsM, apartOf, apartM, and_true] at C
      have HNX := Lib.hid (show ¬ (u = true ∧ ad = a) → ∀ k, k < j + 1 → ¬ Hit l a k from fun hn k hk hh => by
        by_cases e : k = j
        · subst e
          unfold Hit at hh
          rw [← HLJ.out] at hh
          exact hn hh
        · exact HNH.out k (by omega) hh)
      skip
      cases u
      case false =>
        have HN2 := Lib.hid (HNX.out (by simp))
        skip
        go_wp2_with fail
        go_roundw
        case rel => exact ⟨j + 1, by go_num, by omega, HN2, HS.less H (by repeat (first | exact .slnil | refine .cons_cons _ ?_ | refine .cons _ ?_))⟩
        case measure => simp [intOf]; omega
      case true =>
        by_cases had : ad = a
        · have HIT := Lib.hid (show Hit l a j by unfold Hit; rw [← HLJ.out]; exact ⟨rfl, had⟩)
          have hab : (ad == a) = true := beq_iff_eq.2 had
          clear had
          skip
          go_wp2_with fail
          go_ret
          exact ⟨j, rfl, .inr ⟨j, hlt, rfl, HIT.out⟩, H.done⟩
        · have hab : (ad == a) = false := beq_eq_false_iff_ne.2 had
          have HN2 := Lib.hid (HNX.out (fun h => had h.2))
          clear had
          skip
          go_wp2_with fail
          go_roundw
          case rel => exact ⟨j + 1, by go_num, by omega, HN2, HS.less H (by repeat (first | exact .slnil | refine .cons_cons _ ?_ | refine .cons _ ?_))⟩
          case measure => simp [intOf]; omega
    · obtain rfl : j = l.length := by omega
      skip
      go_wp2_with fail
      go_ret
      exact ⟨-1, rfl, .inl ⟨rfl, HNH.out⟩, H.done⟩
end Go.Proofs.Ytfmcicmbehjdcaa
