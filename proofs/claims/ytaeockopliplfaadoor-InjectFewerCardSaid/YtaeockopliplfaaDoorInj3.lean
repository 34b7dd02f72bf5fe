/- Package inject: Worst. -/
import Derived.Test.YtaeockopliplfaaDoorInj2
namespace Go.Proofs.YtaeockopliplfaaDoor
set_option linter.unusedSimpArgs false
set_option linter.unusedVariables false
open Go.RowKit
set_option maxRecDepth 100000
attribute [local go_sem] lt_more ne_more ne_more'
attribute [local irreducible] wpX wpF Calls

/-- How many chips of a word strikes concern. -/
def nOf (a0 a1 a2 a3 a4 a5 : Int) (xs : List St) (time : Int) (i : Nat) : Nat := (chL (mkI xs (atF a0 a1 a2 a3 a4 a5 i) time) 40).length
/-- The worst word among the first n, and how many chips. -/
def wst (f : Nat → Nat) : Nat → Nat × Nat
  | 0 => (0, 0)
  | n + 1 => if (wst f n).2 < f n then (n, f n) else wst f n
theorem wst_most (f : Nat → Nat) (n : Nat) : ∀ i, i < n → f i ≤ (wst f n).2 := by
  induction n with
  | zero => intro i hi; omega
  | succ n ih =>
    intro i hi
    unfold wst
    split
    · rename_i h
      by_cases h1 : i = n
      · subst h1; exact Nat.le_refl _
      · have := ih i (by omega); show f i ≤ f n; omega
    · rename_i h
      by_cases h1 : i = n
      · subst h1; omega
      · exact ih i (by omega)
theorem wst_is (f : Nat → Nat) (n : Nat) : (wst f n).2 = 0 ∨ ∃ i, i < n ∧ f i = (wst f n).2 := by
  induction n with
  | zero => exact .inl rfl
  | succ n ih =>
    unfold wst
    split
    · exact .inr ⟨n, by omega, rfl⟩
    · rcases ih with h | ⟨i, hi, h⟩
      · exact .inl h
      · exact .inr ⟨i, by omega, h⟩

set_option maxHeartbeats 8000000 in
theorem worst_is {a0 a1 a2 a3 a4 a5 : Int} (h : SV a0 a1 a2 a3 a4 a5) {sa : Option Addr} (c : Nat) {xs : List St} (hx : xs.length ≤ 1000) (w : World) (hN : Nm w)
    (hl : Lies w w.heap.size sa 12 xs.length (fun j => stC xs[j]!)) :
    Calls Tryd.prog 43 #[v6 a0 a1 a2 a3 a4 a5, .slice sa xs.length c] w
      (Gives (.tuple #[.int .i64 (wst (nOf a0 a1 a2 a3 a4 a5 xs 1099511627776) (2 ^ (a0 + a1 + a2 + a3 + a4 + a5).toNat)).1, .int .i64 (wst (nOf a0 a1 a2 a3 a4 a5 xs 1099511627776) (2 ^ (a0 + a1 + a2 + a3 + a4 + a5).toNat)).2]) w) := by
  have hpw := pw_12 (a := a0 + a1 + a2 + a3 + a4 + a5) h.sum
  obtain ⟨n, hn⟩ : ∃ n : Nat, n = 2 ^ (a0 + a1 + a2 + a3 + a4 + a5).toNat := ⟨_, rfl⟩
  have hni : ((n : Nat) : Int) = 2 ^ (a0 + a1 + a2 + a3 + a4 + a5).toNat := by rw [hn]; simp
  have hsz : ∀ w, Calls Tryd.prog 16 #[v6 a0 a1 a2 a3 a4 a5] w (Gives (.int .i64 n) w) := fun w => by rw [hni]; exact size_yes h w
  have hn4 : n ≤ 4096 := by omega
  have hch : ∀ (j : Nat) w, j < n → Nm w → Lies w w.heap.size sa 12 xs.length (fun j => stC xs[j]!) → Calls Tryd.prog 33 #[v6 a0 a1 a2 a3 a4 a5, .slice sa xs.length c, .int .i64 j, .int .i64 1099511627776] w (GivesRow (chL (mkI xs (atF a0 a1 a2 a3 a4 a5 j) 1099511627776) 40) w) :=
    fun j w hj hN hl => chips_is h (Int.natCast_nonneg j) (by omega) c hx w hN hl
  rw [← hn]
  have HSZ := Lib.hid hsz
  have HCH := Lib.hid hch
  have HL := Lib.hid hl
  have HNm := Lib.hid hN
  clear hl hN h hsz hch hx hn hni hpw
  go_enter Tryd.func43, Tryd.ntmps43
  have H := HS.start NoD w
  go_wp2_with fail
  refine (HSZ.out _).mono ?_
  rintro _ w1 ⟨rfl, hb⟩
  replace H := H.alloc.below hb
  clear hb
  try clear C
  try simp only [World.size_alloc, List.nil_append, List.cons_append, List.append_assoc] at H
  generalize w.heap.size = bS at H ⊢
  have C := H.cells
  try simp only [cellsOf, apartOf, and_true] at C
  dsimp only
  go_wp2_with fail
  go_loopw [6, 7, 12] (fun u v c wr => ∃ (j : Nat), c = .int .i64 j ∧ j ≤ n ∧ u = .int .i64 (wst (nOf a0 a1 a2 a3 a4 a5 xs 1099511627776) j).1 ∧ v = .int .i64 (wst (nOf a0 a1 a2 a3 a4 a5 xs 1099511627776) j).2 ∧ HS NoD w [.blk bS #[.int .i64 a0, .int .i64 a1, .int .i64 a2, .int .i64 a3, .int .i64 a4, .int .i64 a5] 28] wr) (fun _ _ c _ => n - (intOf c).toNat)
  case atStart => exact ⟨0, rfl, Nat.zero_le _, rfl, rfl, H⟩
  case round =>
    clear H C w1
    obtain ⟨j, rfl, hj, rfl, rfl, H⟩ := hrel
    skip
    try clear C
    try simp only [World.size_alloc, List.nil_append, List.cons_append, List.append_assoc] at H
    have C := H.cells
    try simp only [cellsOf, apartOf, and_true] at C
    by_cases hlt : j < n
    · have hst : wst (nOf a0 a1 a2 a3 a4 a5 xs 1099511627776) (j + 1) = if (wst (nOf a0 a1 a2 a3 a4 a5 xs 1099511627776) j).2 < nOf a0 a1 a2 a3 a4 a5 xs 1099511627776 j then (j, nOf a0 a1 a2 a3 a4 a5 xs 1099511627776 j) else wst (nOf a0 a1 a2 a3 a4 a5 xs 1099511627776) j := rfl
      generalize wst (nOf a0 a1 a2 a3 a4 a5 xs 1099511627776) j = p at hst ⊢
      obtain ⟨p1, p2⟩ := p
      have hnf : nOf a0 a1 a2 a3 a4 a5 xs 1099511627776 j = (chL (mkI xs (atF a0 a1 a2 a3 a4 a5 j) 1099511627776) 40).length := rfl
      have hl40 := chL_len (mkI xs (atF a0 a1 a2 a3 a4 a5 j) 1099511627776) 40
      have hc := HCH.out j
      generalize chL (mkI xs (atF a0 a1 a2 a3 a4 a5 j) 1099511627776) 40 = l at hc hnf hl40
      rw [hnf] at hst
      dsimp only at hst ⊢
      have HCJ := Lib.hid hc
      have HST := Lib.hid hst
      clear hc hst hnf
      go_wp2_with fail
      refine (HCJ.out _ hlt (HNm.out.below H.done) (H.liesUp HL.out)).mono ?_
      rintro _ w2 ⟨v, rfl, hr, hb⟩
      obtain ⟨s2, d2, rfl⟩ := ownsRow_slice hr
      replace H := H.below hb
      clear hr hb C
      skip
      try clear C
      try simp only [World.size_alloc, List.nil_append, List.cons_append, List.append_assoc] at H
      have C := H.cells
      try simp only [cellsOf, apartOf, and_true] at C
      by_cases hm : p2 < l.length
      · have HE := HST.out
        rw [if_pos hm] at HE
        have HE := Lib.hid HE
        go_wp2_with fail
        go_roundw
        case rel => exact ⟨j + 1, by go_num, by omega, by rw [HE.out], by rw [HE.out], H⟩
        case measure => simp [intOf]; omega
      · have HE := HST.out
        rw [if_neg hm] at HE
        have HE := Lib.hid HE
        go_wp2_with fail
        go_roundw
        case rel => exact ⟨j + 1, by go_num, by omega, by rw [HE.out], by rw [HE.out], H⟩
        case measure => simp [intOf]; omega
    · have hje : j = n := by omega
      subst hje
      go_wp2_with fail
      go_ret2
      exact ⟨rfl, H.done⟩
end Go.Proofs.YtaeockopliplfaaDoor
