/- reload.Put: where a blob belongs. -/
import Derived.Test.YtheccfiidollpaaRlE
namespace Go.Proofs.Ytheccfiidollpaa
set_option linter.unusedSimpArgs false
set_option linter.unusedVariables false
open Go.RowKit
set_option maxRecDepth 100000
attribute [local irreducible] wpX wpF Calls

theorem isnanr_any (n : Int) (w : World) : Calls Try.prog 35 #[.int .i64 n] w (Gives (.bool false) w) := by
  go_enter Try.func35, Try.ntmps35
  have H := HS.start NoD w
  go_wp2_with fail
  go_ret
  exact ⟨by simp, H.done⟩
def cmpR (a b : Int) : Int := if a < b then -1 else if b < a then 1 else 0
theorem cmpr_any (a b : Int) (w : World) : Calls Try.prog 25 #[.int .i64 a, .int .i64 b] w (Gives (.int .i64 (cmpR a b)) w) := by
  go_enter Try.func25, Try.ntmps25
  have H := HS.start NoD w
  go_wp2_with fail
  refine (isnanr_any _ _).mono ?_
  rintro _ w1 ⟨rfl, hb⟩
  replace H := H.below hb
  clear hb
  try clear C
  try simp only [World.size_alloc, List.nil_append, List.cons_append, List.append_assoc] at H
  have C := H.cells
  try simp only [cellsOf, cellsM, apartOf, apartM, and_true] at C
  dsimp only
  go_wp2_with fail
  refine (isnanr_any _ _).mono ?_
  rintro _ w2 ⟨rfl, hb⟩
  replace H := H.below hb
  clear hb
  try clear C
  try simp only [World.size_alloc, List.nil_append, List.cons_append, List.append_assoc] at H
  try clear w1
  have C := H.cells
  try simp only [cellsOf, cellsM, apartOf, apartM, and_true] at C
  dsimp only
  by_cases h1 : a < b
  · skip
    go_wp2_with fail
    go_ret
    exact ⟨by unfold cmpR; rw [if_pos h1]; rfl, H.done⟩
  · by_cases h2 : b < a
    · skip
      go_wp2_with fail
      go_ret
      exact ⟨by unfold cmpR; rw [if_neg (by omega), if_pos h2]; rfl, H.done⟩
    · skip
      go_wp2_with fail
      go_ret
      exact ⟨by unfold cmpR; rw [if_neg (by omega), if_neg (by omega)]; rfl, H.done⟩

theorem rput1_any (x : Bv) (n : Int) (w : World) : Calls Try.prog 24 #[.agg (bvC x).toArray, .int .i64 n] w (Gives (.int .i64 (cmpR x.id n)) w) := by
  obtain ⟨xi, xa, xn, xc⟩ := x
  show Calls Try.prog 24 #[.agg #[.int .i64 xi, .slice xa xn xc], .int .i64 n] w _
  go_enter Try.func24, Try.ntmps24
  have H := HS.start NoD w
  go_wp2_with fail
  refine (cmpr_any _ _ _).mono ?_
  rintro _ w1 ⟨rfl, hb⟩
  replace H := H.alloc.below hb
  clear hb
  try clear C
  try simp only [World.size_alloc, List.nil_append, List.cons_append, List.append_assoc] at H
  generalize w.heap.size = bx at H ⊢
  have C := H.cells
  try simp only [cellsOf, cellsM, apartOf, apartM, and_true] at C
  dsimp only
  go_wp2_with fail
  go_ret
  exact ⟨rfl, H.done⟩
/-- Where a part belongs: how many are less. -/
def SearchPostBb (n : Int) (xs : List Bv) (w : World) (e : Ending) (w' : World) : Prop :=
  ∃ i : Nat, i ≤ xs.length ∧ (∀ k, k < i → xs[k]!.id < n) ∧ (∀ k, i ≤ k → k < xs.length → n ≤ xs[k]!.id) ∧ e = .returned (.tuple #[.int .i64 i, .bool (decide (i < xs.length ∧ xs[i]!.id = n))]) ∧ Below w.heap.size w w'
set_option maxHeartbeats 4000000 in
theorem bsearchBb (n : Int) {sa : Option Addr} (c : Nat) {xs : List Bv} (hx : xs.length ≤ 100000) (hs : xs.Pairwise fun x y => x.id < y.id) (w : World) (hl : Lies w w.heap.size sa 2 xs.length (fun j => bvC xs[j]!)) :
    Calls Try.prog 23 #[.slice sa xs.length c, .int .i64 n, .func (.func 24) #[] #[]] w (SearchPostBb n xs w) := by
  have HL := Lib.hid hl
  have HS' := Lib.hid hs
  clear hl hs
  go_enter Try.func23, Try.ntmps23
  have H := HS.start NoD w
  go_wp2_with fail
  go_loopw [9, 10] (fun i j wr => ∃ (a b : Nat), i = .int .i64 a ∧ j = .int .i64 b ∧ a ≤ b ∧ b ≤ xs.length ∧ Hid ((∀ k, k < a → xs[k]!.id < n) ∧ (∀ k, b ≤ k → k < xs.length → n ≤ xs[k]!.id)) ∧ HS NoD w [] wr) (fun i j _ => (intOf j - intOf i).toNat)
  case atStart => exact ⟨0, xs.length, rfl, rfl, Nat.zero_le _, Nat.le_refl _, ⟨fun k hk => absurd hk (Nat.not_lt_zero _), fun k h1 h2 => by omega⟩, H⟩
  case round =>
    clear H
    obtain ⟨a, b, rfl, rfl, hab, hb, HF, H⟩ := hrel
    skip
    by_cases hlt : a < b
    · go_upto_region 5 with fail
      obtain ⟨m, hm⟩ : ∃ m : Nat, m = (a + b) / 2 := ⟨_, rfl⟩
      have hmi : ((a : Int) + (b : Int)) / 2 = (m : Int) := by omega
      rw [hmi]
      have hm1 : a ≤ m := by omega
      have hm2 : m < b := by omega
      clear hm hmi
      obtain ⟨bl, o, rfl, hbl, hc⟩ := (H.lies HL.out).at (show m < xs.length by omega)
      have hcall := Lib.hid (fun w => rput1_any xs[m]! n w)
      obtain ⟨x, hxj⟩ : ∃ x, x = xs[m]! := ⟨_, rfl⟩
      rw [← hxj] at hc hcall
      have c0 : wr.cell? ⟨bl, o + m * 2, none⟩ = _ := hc 0 _ rfl
      have c1 : wr.cell? ⟨bl, o + m * 2 + 1, none⟩ = _ := hc 1 _ rfl
      have hmlen : m < xs.length := by omega
      obtain ⟨v, hv⟩ : ∃ v, v = cmpR x.id n := ⟨_, rfl⟩
      rw [← hv] at hcall
      have HX := Lib.hid hxj
      by_cases hp : x.id < n
      · have : v = -1 := by rw [hv]; unfold cmpR; rw [if_pos hp]
        subst this
        have HP := Lib.hid hp
        clear hc hxj hp hv
        go_wp2_with fail
        refine (hcall.out _).mono ?_
        rintro _ w1 ⟨rfl, hb⟩
        replace H := H.below hb
        clear hb
        try clear C
        try simp only [World.size_alloc, List.nil_append, List.cons_append, List.append_assoc] at H
        try clear wr
        have C := H.cells
        try simp only [cellsOf, cellsM, apartOf, apartM, and_true] at C
        dsimp only
        go_wp2_with fail
        go_roundw
        case rel =>
          refine ⟨m + 1, b, by go_num, rfl, by omega, hb, (show Hid _ from ⟨fun k hk => ?_, HF.out.2⟩), H⟩
          by_cases e : k = m
          · subst e; rw [← HX.out]; exact HP.out
          · have h1 := List.pairwise_iff_getElem.1 HS'.out k m (by omega) hmlen (by omega)
            rw [← getElem!_pos xs k (by omega), ← getElem!_pos xs m hmlen, ← HX.out] at h1
            have := HP.out
            omega
        case measure => simp [intOf]; omega
      · have hv0 : 0 ≤ v := by rw [hv]; unfold cmpR; rw [if_neg hp]; split <;> decide
        have HP := Lib.hid hp
        clear hc hxj hp hv
        skip
        go_wp2_with fail
        refine (hcall.out _).mono ?_
        rintro _ w2 ⟨rfl, hb⟩
        replace H := H.below hb
        clear hb
        try clear C
        try simp only [World.size_alloc, List.nil_append, List.cons_append, List.append_assoc] at H
        try clear wr
        have C := H.cells
        try simp only [cellsOf, cellsM, apartOf, apartM, and_true] at C
        dsimp only
        go_wp2_with fail
        go_roundw
        case rel =>
          refine ⟨a, m, rfl, rfl, by omega, by omega, (show Hid _ from ⟨HF.out.1, fun k hk1 hk2 => ?_⟩), H⟩
          have := HP.out
          by_cases e : k = m
          · subst e; rw [← HX.out]; omega
          · have h1 := List.pairwise_iff_getElem.1 HS'.out m k hmlen hk2 (by omega)
            rw [← getElem!_pos xs k hk2, ← getElem!_pos xs m hmlen, ← HX.out] at h1
            omega
        case measure => simp [intOf]; omega
    · have hab' : a = b := by omega
      subst hab'
      by_cases hal : a < xs.length
      · obtain ⟨bl, o, rfl, hbl, hc⟩ := (H.lies HL.out).at hal
        have hcall := Lib.hid (fun w => rput1_any xs[a]! n w)
        have hge := HF.out.2 a (Nat.le_refl _) hal
        obtain ⟨x, hxj⟩ : ∃ x, x = xs[a]! := ⟨_, rfl⟩
        rw [← hxj] at hc hcall hge
        have c0 : wr.cell? ⟨bl, o + a * 2, none⟩ = _ := hc 0 _ rfl
        have c1 : wr.cell? ⟨bl, o + a * 2 + 1, none⟩ = _ := hc 1 _ rfl
        obtain ⟨v, hv⟩ : ∃ v, v = cmpR x.id n := ⟨_, rfl⟩
        rw [← hv] at hcall
        have HX := Lib.hid hxj
        have hv0 : v = 0 ↔ x.id = n := by rw [hv]; unfold cmpR; rw [if_neg (by omega)]; split <;> omega
        have HV := Lib.hid hv0
        have HG := Lib.hid hge
        clear hc hxj hv hv0 hge
        skip
        go_wp2_with fail
        refine (hcall.out _).mono ?_
        rintro _ w3 ⟨rfl, hb⟩
        replace H := H.below hb
        clear hb
        try clear C
        try simp only [World.size_alloc, List.nil_append, List.cons_append, List.append_assoc] at H
        try clear wr
        have C := H.cells
        try simp only [cellsOf, cellsM, apartOf, apartM, and_true] at C
        dsimp only
        go_wp2_with fail
        go_ret2
        refine ⟨a, by omega, HF.out.1, HF.out.2, ?_, H.done⟩
        rw [← HX.out]
        have hd : decide (v = 0) = decide (a < xs.length ∧ x.id = n) := decide_eq_decide.2 ⟨fun e => ⟨hal, HV.out.1 e⟩, fun e => HV.out.2 e.2⟩
        rw [← hd]
        rfl
      · skip
        go_wp2_with fail
        go_ret2
        refine ⟨a, by omega, HF.out.1, HF.out.2, ?_, H.done⟩
        rw [decide_eq_false (fun h => hal h.1)]
        rfl

end Go.Proofs.Ytheccfiidollpaa
