/- The statement RateSilent: its walk. -/
import Derived.Test.YtcacgmfihhpliaaRate5
import Derived.Test.YtcacgmfihhpliaaDice
namespace Go.Proofs.Ytcacgmfihhpliaa
set_option linter.unusedSimpArgs false
set_option linter.unusedVariables false
open Go.RowKit
set_option maxRecDepth 100000
attribute [local go_sem] lt_more ne_more ne_more'

theorem gives_of {n : Nat} {args : Array Value} {v : Value} {w : World} (h : Calls Try.prog n args w fun e w' => e = .returned v ∧ w = w') : Calls Try.prog n args w (Gives v w) :=
  h.mono fun e w' ⟨h1, h2⟩ => ⟨h1, h2 ▸ Below.refl _ _⟩
theorem silent_all {p n t part : Int} (hp : 1 ≤ p ∧ p ≤ 50) (hn : 1 ≤ n ∧ n ≤ 60) (ht : 0 ≤ t ∧ t < 1000) : leakL p (t + n * p) [⟨part, n, t⟩] = [] := by
  have h0 : 0 ≤ n * p := Int.mul_nonneg (by omega) (by omega)
  have h1 : leakN p (t + n * p) ⟨part, n, t⟩ = n := by
    unfold leakN
    rw [if_pos (by dsimp only; omega)]
    dsimp only
    rw [show t + n * p - t = n * p by omega, Int.mul_ediv_cancel _ (by omega)]
  simp [leakL, leakG, h1]
theorem silent_one {p n t part : Int} (hp : 1 ≤ p ∧ p ≤ 50) (hn : 1 ≤ n ∧ n ≤ 60) (ht : 0 ≤ t ∧ t < 1000) : leakL p (t + n * p - 1) [⟨part, n, t⟩] = [⟨part, 1, t + (n - 1) * p⟩] := by
  have h0 : 0 ≤ (n - 1) * p := Int.mul_nonneg (by omega) (by omega)
  have h2 : n * p = (n - 1) * p + p := by rw [Int.sub_mul]; omega
  have h1 : leakN p (t + n * p - 1) ⟨part, n, t⟩ = n - 1 := by
    unfold leakN
    rw [if_pos (by dsimp only; omega)]
    dsimp only
    rw [show t + n * p - 1 - t = (n - 1) * p + (p - 1) by omega]
    rw [Int.add_comm, Int.add_mul_ediv_right _ _ (by omega), Int.ediv_eq_zero_of_lt (by omega) (by omega)]
    omega
  have h3 : leakG p (t + n * p - 1) ⟨part, n, t⟩ = some ⟨part, 1, t + (n - 1) * p⟩ := by
    unfold leakG
    rw [h1]
    dsimp only
    rw [show n - (n - 1) = 1 by omega]
    rfl
  unfold leakL
  rw [List.filterMap_cons, h3]
  rfl
set_option maxHeartbeats 4000000 in
theorem silent_walk (part level period last : Int) (w : World) : Calls Try.prog 13 #[.int .i64 part, .int .i64 level, .int .i64 period, .int .i64 last] w (Gives (.bool true) w) := by
  have m1 := modF_in (n := period) (m := 50) (by decide) (by decide)
  have m2 := modF_in (n := level) (m := 60) (by decide) (by decide)
  have m3 := modF_in (n := last) (m := 1000) (by decide) (by decide)
  have M1 := Lib.hid (fun w => gives_of (mod_any period 50 w))
  have M2 := Lib.hid (fun w => gives_of (mod_any level 60 w))
  have M3 := Lib.hid (fun w => gives_of (mod_any last 1000 w))
  have M4 := Lib.hid (fun w => gives_of (mod_any part 9 w))
  generalize modF period 50 = a at *
  generalize modF level 60 = b at *
  generalize modF last 1000 = t at *
  generalize modF part 9 = pt at *
  obtain ⟨p, hp⟩ : ∃ p, p = 1 + a := ⟨_, rfl⟩
  obtain ⟨n, hn⟩ : ∃ n, n = 1 + b := ⟨_, rfl⟩
  have q1 : wrap64 (1 + a) = p := by rw [hp]; exact IntWalk.wrap64_in _ (by omega)
  have q2 : wrap64 (1 + b) = n := by rw [hn]; exact IntWalk.wrap64_in _ (by omega)
  have hp1 : 1 ≤ p ∧ p ≤ 50 := by omega
  have hn1 : 1 ≤ n ∧ n ≤ 60 := by omega
  clear hp hn
  obtain ⟨m, hm⟩ : ∃ m, m = n * p := ⟨_, rfl⟩
  have hm0 : 0 ≤ m ∧ m ≤ 3000 := by
    rw [hm]
    refine ⟨Int.mul_nonneg (by omega) (by omega), ?_⟩
    have := Int.mul_le_mul (a := n) (b := p) (c := 60) (d := 50) hn1.2 hp1.2 (by omega) (by omega)
    omega
  have hmp : 0 ≤ m - p := by
    have := Int.mul_le_mul_of_nonneg_right (show (1 : Int) ≤ n by omega) (show (0 : Int) ≤ p by omega)
    omega
  have hm2 : (n - 1) * p = m - p := by rw [hm, Int.sub_mul]; omega
  have s1 := silent_all (part := pt) hp1 hn1 m3
  have s2 := silent_one (part := pt) hp1 hn1 m3
  rw [← hm] at s1 s2
  rw [hm2] at s2
  have q3 : wrap64 (n * p) = m := by rw [← hm]; exact IntWalk.wrap64_in _ (by omega)
  have q4 : wrap64 (t + m) = t + m := IntWalk.wrap64_in _ (by omega)
  have q5 : wrap64 (t + m - 1) = t + m - 1 := IntWalk.wrap64_in _ (by omega)
  have q6 : wrap64 (n - 1) = n - 1 := IntWalk.wrap64_in _ (by omega)
  have q7 : wrap64 (m - p) = m - p := IntWalk.wrap64_in _ (by omega)
  have q8 : wrap64 (t + (m - p)) = t + (m - p) := IntWalk.wrap64_in _ (by omega)
  have gok1 : GOK p (t + m) [(⟨pt, n, t⟩ : G3)] := ⟨by omega, by omega, by omega, by omega, by simp, by simp; omega⟩
  have gok2 : GOK p (t + m - 1) [(⟨pt, n, t⟩ : G3)] := ⟨by omega, by omega, by omega, by omega, by simp, by simp; omega⟩
  have L1 := Lib.hid (fun w (sa : Option Addr) hl => by have := leak_ok 2 (sa := sa) 1 gok1 w hl; rw [s1] at this; exact this : ∀ w (sa : Option Addr), Lies w w.heap.size sa 3 1 (fun j => gC [(⟨pt, n, t⟩ : G3)][j]!) → Calls Try.prog 46 #[vG p 2 (.slice sa 1 1), .int .i64 (t + m)] w (GivesS (vG p 2) 66 3 0 (([] : List G3).flatMap gC) w))
  have L2 := Lib.hid (fun w (sa : Option Addr) hl => by have := leak_ok 2 (sa := sa) 1 gok2 w hl; rw [s2] at this; exact this : ∀ w (sa : Option Addr), Lies w w.heap.size sa 3 1 (fun j => gC [(⟨pt, n, t⟩ : G3)][j]!) → Calls Try.prog 46 #[vG p 2 (.slice sa 1 1), .int .i64 (t + m - 1)] w (GivesS (vG p 2) 66 3 1 ([(⟨pt, 1, t + (m - p)⟩ : G3)].flatMap gC) w))
  have HM := Lib.hid hm
  have HM2 := Lib.hid hm2
  clear gok1 gok2 s1 s2 hm hm2 m1 m2
  go_enter Try.func13, Try.ntmps13
  have H := HS.start NoD w
  go_wp2_with fail
  refine (M1.out _).mono ?_
  rintro _ w1 ⟨rfl, hb⟩
  replace H := H.below hb
  clear hb
  try clear C
  try simp only [World.size_alloc, List.nil_append, List.cons_append, List.append_assoc] at H
  have C := H.cells
  try simp only [cellsOf, apartOf, and_true] at C
  dsimp only
  go_wp2_with fail
  refine (M2.out _).mono ?_
  rintro _ w2 ⟨rfl, hb⟩
  replace H := H.below hb
  clear hb
  try clear C
  try simp only [World.size_alloc, List.nil_append, List.cons_append, List.append_assoc] at H
  try clear w1
  have C := H.cells
  try simp only [cellsOf, apartOf, and_true] at C
  dsimp only
  go_wp2_with fail
  refine (M3.out _).mono ?_
  rintro _ w3 ⟨rfl, hb⟩
  replace H := H.below hb
  clear hb
  try clear C
  try simp only [World.size_alloc, List.nil_append, List.cons_append, List.append_assoc] at H
  try clear w2
  have C := H.cells
  try simp only [cellsOf, apartOf, and_true] at C
  dsimp only
  go_wp2_with fail
  refine (M4.out _).mono ?_
  rintro _ w4 ⟨rfl, hb⟩
  replace H := H.below hb
  clear hb
  try clear C
  try simp only [World.size_alloc, List.nil_append, List.cons_append, List.append_assoc] at H
  try clear w3
  have C := H.cells
  try simp only [cellsOf, apartOf, and_true] at C
  dsimp only
  go_wp2_with fail
  refine (L1.out _ _ (H.alloc.alloc.blkLies 0 gC_len rfl rfl rfl)).mono ?_
  rintro _ w5 ⟨s1, d1, rfl, hr, hb⟩
  replace H := (H.alloc.alloc).getsRow hb hr
  clear hb hr
  try clear C
  try simp only [World.size_alloc, List.nil_append, List.cons_append, List.append_assoc] at H
  generalize w4.heap.size + 1 = bG at H ⊢
  generalize w4.heap.size = bl at H ⊢
  try clear w4
  have C := H.cells
  try simp only [cellsOf, apartOf, and_true] at C
  dsimp only
  go_wp2_with fail
  refine (L2.out _ _ (H.alloc.blkLies 0 gC_len rfl rfl rfl)).mono ?_
  rintro _ w6 ⟨s2, d2, rfl, hr, hb⟩
  replace H := (H.alloc).getsRow hb hr
  clear hb hr
  try clear C
  try simp only [World.size_alloc, List.nil_append, List.cons_append, List.append_assoc] at H
  generalize w5.heap.size = bA at H ⊢
  try clear w5
  have C := H.cells
  try simp only [cellsOf, apartOf, and_true] at C
  dsimp only
  obtain ⟨g, o, rfl, hg, hc⟩ := (H.rowLies 4 gC_len rfl rfl).at (show 0 < 1 by decide)
  have c1 : w6.cell? ⟨g, o + 1, none⟩ = some (.int .i64 1) := by simpa using hc 1 _ rfl
  have c2 : w6.cell? ⟨g, o + 2, none⟩ = some (.int .i64 (t + (m - p))) := by simpa using hc 2 _ rfl
  have q9 : wrap64 ((n - 1) * p) = m - p := by rw [HM2.out]; exact q7
  clear hc
  go_wp2_with fail
  refine (awake26 _).mono ?_
  rintro _ w7 ⟨rfl, hb⟩
  replace H := H.alloc.below hb
  clear hb
  try clear C
  try simp only [World.size_alloc, List.nil_append, List.cons_append, List.append_assoc] at H
  generalize w6.heap.size = bB at H ⊢
  try clear w6
  have C := H.cells
  try simp only [cellsOf, apartOf, and_true] at C
  dsimp only
  go_wp2_with fail
  go_ret
  exact ⟨rfl, H.done⟩
end Go.Proofs.Ytcacgmfihhpliaa
