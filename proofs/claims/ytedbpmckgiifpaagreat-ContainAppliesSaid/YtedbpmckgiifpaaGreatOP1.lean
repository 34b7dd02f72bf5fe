/- Package owner: the searches at programs and pages; program, place. -/
import Derived.Test.YtedbpmckgiifpaaGreatClo
import Derived.Test.YtedbpmckgiifpaaGreatFLaw
namespace Go.Proofs.YtedbpmckgiifpaaGreat
set_option linter.unusedSimpArgs false
set_option linter.unusedVariables false
open Go.RowKit
set_option maxRecDepth 100000
attribute [local go_sem] lt_more ne_more ne_more'
attribute [local irreducible] wpX wpF Calls

theorem isnan_any (n : Int) (w : World) : Calls Tryz.prog 113 #[.int .i64 n] w (Gives (.bool false) w) := by
  go_enter Tryz.func113, Tryz.ntmps113
  have H := HS.start NoD w
  go_wp2_with fail
  go_ret
  exact ⟨by simp, H.done⟩
def cmpI (a b : Int) : Int := if a < b then -1 else if b < a then 1 else 0
theorem cmp_any (a b : Int) (w : World) : Calls Tryz.prog 107 #[.int .i64 a, .int .i64 b] w (Gives (.int .i64 (cmpI a b)) w) := by
  go_enter Tryz.func107, Tryz.ntmps107
  have H := HS.start NoD w
  go_wp2_with fail
  refine (isnan_any _ _).mono ?_
  rintro _ w1 ⟨rfl, hb⟩
  replace H := H.below hb
  clear hb
  try clear C
  try simp only [World.size_alloc, List.nil_append, List.cons_append, List.append_assoc] at H
  have C := H.cells
  try simp only [cellsOf, cellsM, apartOf, apartM, and_true] at C
  dsimp only
  go_wp2_with fail
  refine (isnan_any _ _).mono ?_
  rintro _ w2 ⟨rfl, hb⟩
  replace H := H.below hb
  clear hb
  try clear C
  try simp only [World.size_alloc, List.nil_append, List.cons_append, List.append_assoc] at H
  try clear w1
  have C := H.cells
  try simp only [cellsOf, cellsM, apartOf, apartM, and_true] at C
  dsimp only
  by_cases h1 : a < b
  · skip
    go_wp2_with fail
    go_ret
    exact ⟨by unfold cmpI; rw [if_pos h1]; rfl, H.done⟩
  · by_cases h2 : b < a
    · skip
      go_wp2_with fail
      go_ret
      exact ⟨by unfold cmpI; rw [if_neg (by omega), if_pos h2]; rfl, H.done⟩
    · skip
      go_wp2_with fail
      go_ret
      exact ⟨by unfold cmpI; rw [if_neg (by omega), if_neg (by omega)]; rfl, H.done⟩
/-- What a search over a slice by a test hands back. -/
def FindPostPr (p : Pv → Bool) (xs : List Pv) (w : World) (e : Ending) (w' : World) : Prop :=
  ∃ r : Int, e = .returned (.int .i64 r) ∧ ((r = -1 ∧ ∀ i, i < xs.length → p xs[i]! = false) ∨ ∃ i : Nat, i < xs.length ∧ r = i ∧ p xs[i]! = true ∧ ∀ j, j < i → p xs[j]! = false) ∧ Below w.heap.size w w'
/-- The closure g with the captured addresses lb answers by p. -/
def AsksPr (g : Nat) (lb : Array Value) (p : Pv → Bool) (w : World) : Prop := ∀ W x, Below w.heap.size w W → Calls Tryz.prog g (#[.agg (pvC x).toArray] ++ lb) W (Gives (.bool (p x)) W)
set_option maxHeartbeats 2000000 in
theorem findPr (g : Nat) (eg : ∀ args w, (callFunc g args).run Tryz.prog w = .ok (.enter g args) w) (lb : Array Value) (p : Pv → Bool) {sa : Option Addr} (c : Nat) {xs : List Pv} (hx : xs.length ≤ 100000) (w : World) (hl : Lies w w.heap.size sa 5 xs.length (fun j => pvC xs[j]!)) (hp : AsksPr g lb p w) :
    Calls Tryz.prog 58 #[.slice sa xs.length c, .func (.func g) #[] lb] w (FindPostPr p xs w) := by
  have HL := Lib.hid hl
  have HP := Lib.hid hp
  clear hl hp
  go_enter Tryz.func58, Tryz.ntmps58
  have H := HS.start NoD w
  go_wp2_with fail
  go_loopw [5, 8] (fun _ i wr => ∃ (j : Nat), i = .int .i64 j ∧ j ≤ xs.length ∧ Hid (∀ i, i < j → p xs[i]! = false) ∧ HS NoD w [] wr) (fun _ i _ => xs.length - (intOf i).toNat)
  case atStart => exact ⟨0, rfl, Nat.zero_le _, fun i hi => absurd hi (Nat.not_lt_zero _), H⟩
  case round =>
    clear H
    obtain ⟨j, rfl, hj, HF, H⟩ := hrel
    skip
    by_cases hlt : j < xs.length
    · obtain ⟨b, o, rfl, hb, hc⟩ := (H.lies HL.out).at hlt
      have hcall := Lib.hid (fun (b : Bool) (e : p xs[j]! = b) => by have := HP.out wr xs[j]! H.done; rw [e] at this; exact this)
      obtain ⟨x, hxj⟩ : ∃ x, x = xs[j]! := ⟨_, rfl⟩
      rw [← hxj] at hc hcall
      have c0 : wr.cell? ⟨b, o + j * 5, none⟩ = _ := hc 0 _ rfl
      have c1 : wr.cell? ⟨b, o + j * 5 + 1, none⟩ = _ := hc 1 _ rfl
      have c2 : wr.cell? ⟨b, o + j * 5 + 2, none⟩ = _ := hc 2 _ rfl
      have c3 : wr.cell? ⟨b, o + j * 5 + 3, none⟩ = _ := hc 3 _ rfl
      have c4 : wr.cell? ⟨b, o + j * 5 + 4, none⟩ = _ := hc 4 _ rfl
      have HX := Lib.hid hxj
      clear hc hxj
      cases hq : p x with
      | true =>
        have HQ := Lib.hid hq
        have hca := hcall.out _ hq
        clear hq hcall
        go_wp2_with fail
        refine hca.mono ?_
        rintro _ w1 ⟨rfl, hb1⟩
        clear hca
        go_wp2_with fail
        go_ret
        exact ⟨_, rfl, .inr ⟨j, hlt, rfl, by rw [← HX.out]; exact HQ.out, HF.out⟩, (H.below hb1).done⟩
      | false =>
        have HQ := Lib.hid hq
        have hca := hcall.out _ hq
        clear hq hcall
        go_wp2_with fail
        refine hca.mono ?_
        rintro _ w1 ⟨rfl, hb1⟩
        clear hca
        go_wp2_with fail
        go_roundw
        case rel =>
          refine ⟨j + 1, by go_num, by omega, (show Hid _ from fun i hi => ?_), H.below hb1⟩
          by_cases e : i = j
          · subst e; rw [← HX.out]; exact HQ.out
          · exact HF.out i (by omega)
        case measure => simp [intOf]; omega
    · go_wp2_with fail
      go_ret
      exact ⟨-1, rfl, .inl ⟨rfl, fun i hi => HF.out i (by omega)⟩, H.done⟩
theorem any_ofPr {p : Pv → Bool} {xs : List Pv} {r : Int} (h : (r = -1 ∧ ∀ i, i < xs.length → p xs[i]! = false) ∨ ∃ i : Nat, i < xs.length ∧ r = i ∧ p xs[i]! = true ∧ ∀ j, j < i → p xs[j]! = false) : decide (0 ≤ r) = xs.any p := by
  rcases h with ⟨rfl, h⟩ | ⟨i, hi, rfl, h, -⟩
  · symm
    rw [show decide ((0 : Int) ≤ -1) = false from rfl, List.any_eq_false]
    intro x hx
    obtain ⟨i, hi, rfl⟩ := List.getElem_of_mem hx
    have := h i hi
    rw [getElem!_pos xs i hi] at this
    simp [this]
  · symm
    rw [show decide ((0 : Int) ≤ (i : Int)) = true by simp, List.any_eq_true]
    exact ⟨xs[i]!, by rw [getElem!_pos xs i hi]; exact List.getElem_mem _, h⟩
theorem place1_any (x : Pg) (n : Int) (w : World) : Calls Tryz.prog 106 #[.agg (pgC x).toArray, .int .i64 n] w (Gives (.int .i64 (cmpI x.n n)) w) := by
  obtain ⟨p, l, t⟩ := x
  show Calls Tryz.prog 106 #[.agg #[.int .i64 p, .int .i64 l, .bool t], .int .i64 n] w _
  go_enter Tryz.func106, Tryz.ntmps106
  have H := HS.start NoD w
  go_wp2_with fail
  refine (cmp_any _ _ _).mono ?_
  rintro _ w1 ⟨rfl, hb⟩
  replace H := H.alloc.below hb
  clear hb
  try clear C
  try simp only [World.size_alloc, List.nil_append, List.cons_append, List.append_assoc] at H
  generalize w.heap.size = bx at H ⊢
  have C := H.cells
  try simp only [cellsOf, cellsM, apartOf, apartM, and_true] at C
  dsimp only
  go_wp2_with fail
  go_ret
  exact ⟨rfl, H.done⟩
/-- Where a part belongs: how many are less. -/
def SearchPostPg (n : Int) (xs : List Pg) (w : World) (e : Ending) (w' : World) : Prop :=
  ∃ i : Nat, i ≤ xs.length ∧ (∀ k, k < i → xs[k]!.n < n) ∧ (∀ k, i ≤ k → k < xs.length → n ≤ xs[k]!.n) ∧ e = .returned (.tuple #[.int .i64 i, .bool (decide (i < xs.length ∧ xs[i]!.n = n))]) ∧ Below w.heap.size w w'
set_option maxHeartbeats 4000000 in
theorem bsearchPg (n : Int) {sa : Option Addr} (c : Nat) {xs : List Pg} (hx : xs.length ≤ 100000) (hs : xs.Pairwise fun x y => x.n < y.n) (w : World) (hl : Lies w w.heap.size sa 3 xs.length (fun j => pgC xs[j]!)) :
    Calls Tryz.prog 105 #[.slice sa xs.length c, .int .i64 n, .func (.func 106) #[] #[]] w (SearchPostPg n xs w) := by
  have HL := Lib.hid hl
  have HS' := Lib.hid hs
  clear hl hs
  go_enter Tryz.func105, Tryz.ntmps105
  have H := HS.start NoD w
  go_wp2_with fail
  go_loopw [9, 10] (fun i j wr => ∃ (a b : Nat), i = .int .i64 a ∧ j = .int .i64 b ∧ a ≤ b ∧ b ≤ xs.length ∧ Hid ((∀ k, k < a → xs[k]!.n < n) ∧ (∀ k, b ≤ k → k < xs.length → n ≤ xs[k]!.n)) ∧ HS NoD w [] wr) (fun i j _ => (intOf j - intOf i).toNat)
  case atStart => exact ⟨0, xs.length, rfl, rfl, Nat.zero_le _, Nat.le_refl _, ⟨fun k hk => absurd hk (Nat.not_lt_zero _), fun k h1 h2 => by omega⟩, H⟩
  case round =>
    clear H
    obtain ⟨a, b, rfl, rfl, hab, hb, HF, H⟩ := hrel
    skip
    by_cases hlt : a < b
    · go_upto_region 5 with fail
      obtain ⟨m, hm⟩ : ∃ m : Nat, m = (a + b) / 2 := ⟨_, rfl⟩
      have hmi : ((a : Int) + (b : Int)) / 2 = (m : Int) := by omega
      rw [hmi]
      have hm1 : a ≤ m := by omega
      have hm2 : m < b := by omega
      clear hm hmi
      obtain ⟨bl, o, rfl, hbl, hc⟩ := (H.lies HL.out).at (show m < xs.length by omega)
      have hcall := Lib.hid (fun w => place1_any xs[m]! n w)
      obtain ⟨x, hxj⟩ : ∃ x, x = xs[m]! := ⟨_, rfl⟩
      rw [← hxj] at hc hcall
      have c0 : wr.cell? ⟨bl, o + m * 3, none⟩ = _ := hc 0 _ rfl
      have c1 : wr.cell? ⟨bl, o + m * 3 + 1, none⟩ = _ := hc 1 _ rfl
      have c2 : wr.cell? ⟨bl, o + m * 3 + 2, none⟩ = _ := hc 2 _ rfl
      have hmlen : m < xs.length := by omega
      obtain ⟨v, hv⟩ : ∃ v, v = cmpI x.n n := ⟨_, rfl⟩
      rw [← hv] at hcall
      have HX := Lib.hid hxj
      by_cases hp : x.n < n
      · have : v = -1 := by rw [hv]; unfold cmpI; rw [if_pos hp]
        subst this
        have HP := Lib.hid hp
        clear hc hxj hp hv
        go_wp2_with fail
        refine (hcall.out _).mono ?_
        rintro _ w1 ⟨rfl, hb⟩
        replace H := H.below hb
        clear hb
        try clear C
        try simp only [World.size_alloc, List.nil_append, List.cons_append, List.append_assoc] at H
        try clear wr
        have C := H.cells
        try simp only [cellsOf, cellsM, apartOf, apartM, and_true] at C
        dsimp only
        go_wp2_with fail
        go_roundw
        case rel =>
          refine ⟨m + 1, b, by go_num, rfl, by omega, hb, (show Hid _ from ⟨fun k hk => ?_, HF.out.2⟩), H⟩
          by_cases e : k = m
          · subst e; rw [← HX.out]; exact HP.out
          · have h1 := List.pairwise_iff_getElem.1 HS'.out k m (by omega) hmlen (by omega)
            rw [← getElem!_pos xs k (by omega), ← getElem!_pos xs m hmlen, ← HX.out] at h1
            have := HP.out
            omega
        case measure => simp [intOf]; omega
      · have hv0 : 0 ≤ v := by rw [hv]; unfold cmpI; rw [if_neg hp]; split <;> decide
        have HP := Lib.hid hp
        clear hc hxj hp hv
        skip
        go_wp2_with fail
        refine (hcall.out _).mono ?_
        rintro _ w2 ⟨rfl, hb⟩
        replace H := H.below hb
        clear hb
        try clear C
        try simp only [World.size_alloc, List.nil_append, List.cons_append, List.append_assoc] at H
        try clear wr
        have C := H.cells
        try simp only [cellsOf, cellsM, apartOf, apartM, and_true] at C
        dsimp only
        go_wp2_with fail
        go_roundw
        case rel =>
          refine ⟨a, m, rfl, rfl, by omega, by omega, (show Hid _ from ⟨HF.out.1, fun k hk1 hk2 => ?_⟩), H⟩
          have := HP.out
          by_cases e : k = m
          · subst e; rw [← HX.out]; omega
          · have h1 := List.pairwise_iff_getElem.1 HS'.out m k hmlen hk2 (by omega)
            rw [← getElem!_pos xs k hk2, ← getElem!_pos xs m hmlen, ← HX.out] at h1
            omega
        case measure => simp [intOf]; omega
    · have hab' : a = b := by omega
      subst hab'
      by_cases hal : a < xs.length
      · obtain ⟨bl, o, rfl, hbl, hc⟩ := (H.lies HL.out).at hal
        have hcall := Lib.hid (fun w => place1_any xs[a]! n w)
        have hge := HF.out.2 a (Nat.le_refl _) hal
        obtain ⟨x, hxj⟩ : ∃ x, x = xs[a]! := ⟨_, rfl⟩
        rw [← hxj] at hc hcall hge
        have c0 : wr.cell? ⟨bl, o + a * 3, none⟩ = _ := hc 0 _ rfl
        have c1 : wr.cell? ⟨bl, o + a * 3 + 1, none⟩ = _ := hc 1 _ rfl
        have c2 : wr.cell? ⟨bl, o + a * 3 + 2, none⟩ = _ := hc 2 _ rfl
        obtain ⟨v, hv⟩ : ∃ v, v = cmpI x.n n := ⟨_, rfl⟩
        rw [← hv] at hcall
        have HX := Lib.hid hxj
        have hv0 : v = 0 ↔ x.n = n := by rw [hv]; unfold cmpI; rw [if_neg (by omega)]; split <;> omega
        have HV := Lib.hid hv0
        have HG := Lib.hid hge
        clear hc hxj hv hv0 hge
        skip
        go_wp2_with fail
        refine (hcall.out _).mono ?_
        rintro _ w3 ⟨rfl, hb⟩
        replace H := H.below hb
        clear hb
        try clear C
        try simp only [World.size_alloc, List.nil_append, List.cons_append, List.append_assoc] at H
        try clear wr
        have C := H.cells
        try simp only [cellsOf, cellsM, apartOf, apartM, and_true] at C
        dsimp only
        go_wp2_with fail
        go_ret2
        refine ⟨a, by omega, HF.out.1, HF.out.2, ?_, H.done⟩
        rw [← HX.out]
        have hd : decide (v = 0) = decide (a < xs.length ∧ x.n = n) := decide_eq_decide.2 ⟨fun e => ⟨hal, HV.out.1 e⟩, fun e => HV.out.2 e.2⟩
        rw [← hd]
        rfl
      · skip
        go_wp2_with fail
        go_ret2
        refine ⟨a, by omega, HF.out.1, HF.out.2, ?_, H.done⟩
        rw [decide_eq_false (fun h => hal h.1)]
        rfl

/-- Where a part belongs: how many are less. -/
def SearchPostPr (n : Int) (xs : List Pv) (w : World) (e : Ending) (w' : World) : Prop :=
  ∃ i : Nat, i ≤ xs.length ∧ (∀ k, k < i → xs[k]!.p.id < n) ∧ (∀ k, i ≤ k → k < xs.length → n ≤ xs[k]!.p.id) ∧ e = .returned (.tuple #[.int .i64 i, .bool (decide (i < xs.length ∧ xs[i]!.p.id = n))]) ∧ Below w.heap.size w w'
theorem prog1_any (x : Pv) (id : Int) (b : Nat) (w : World) (hb : w.cell? ⟨b, 0, none⟩ = some (.int .i64 id)) (hlt : b < w.heap.size) : Calls Tryz.prog 89 #[.agg (pvC x).toArray, .pointer (some ⟨b, 0, none⟩)] w (Gives (.bool (live id x.p)) w) := by
  obtain ⟨⟨pi, pt, pd, pg, td⟩, pa, ta⟩ := x
  have hne : (w.heap.size = b) = False := eq_false (by omega)
  have hne' : (b = w.heap.size) = False := eq_false (by omega)
  show Calls Tryz.prog 89 #[.agg #[.int .i64 pi, .bool pt, .bool pd, pa, ta], .pointer (some ⟨b, 0, none⟩)] w _
  by_cases h : pi = id
  · subst h
    go_enter Tryz.func89, Tryz.ntmps89
    have H := HS.start NoD w
    go_wp2_with fail
    go_ret
    exact ⟨by simp [live], H.alloc.done⟩
  · have e : live id (⟨pi, pt, pd, pg, td⟩ : Pr) = false := by simp [live, h]
    rw [show (⟨⟨pi, pt, pd, pg, td⟩, pa, ta⟩ : Pv).p = ⟨pi, pt, pd, pg, td⟩ from rfl, e]
    go_enter Tryz.func89, Tryz.ntmps89
    have H := HS.start NoD w
    go_wp2_with fail
    go_ret
    exact ⟨by simp, H.alloc.done⟩
end Go.Proofs.YtedbpmckgiifpaaGreat
