/- The sanity check of the statements about spares. -/
import Derived.Test.YtcacgmfihhpliaaSpare10
namespace Go.Proofs.Ytcacgmfihhpliaa
set_option linter.unusedSimpArgs false
set_option linter.unusedVariables false
open Go.RowKit
set_option maxRecDepth 100000
attribute [local go_sem] lt_more ne_more ne_more'
attribute [local irreducible] wpX wpF Calls

theorem awake36 (w : World) : Calls Try.prog 15 #[] w (Gives (.bool true) w) := by
  have sv : SV 0 0 0 0 2 0 := by constructor <;> decide
  have v0 : SpV 0 0 0 0 2 0 1 [] 0 := SpV.nil sv (by decide +kernel) 0
  have p1 : PV 0 0 0 0 2 0 0 0 0 0 1 0 := by constructor <;> decide +kernel
  have p0 : PV 0 0 0 0 2 0 0 0 0 0 0 0 := by constructor <;> decide +kernel
  have HN := Lib.hid (fun w => snew_yes (n := 1) sv (by decide +kernel) w)
  have hs1 : ∀ w, Calls Try.prog 26 #[vSp 0 0 0 0 2 0 1 (.slice none 0 0), v6 0 0 0 0 1 0] w (GivesS (fun v => .tuple #[vSp 0 0 0 0 2 0 1 v, .int .i64 0]) 38 8 1 ([(⟨0, 0, 0, 0, 0, 0, 1, 3⟩ : S8)].flatMap sC) w) := fun w =>
    swap_ok v0 p1 (by decide +kernel) rfl (f0 := 3) (fs := []) (by decide +kernel) (by decide) (sa := none) (fun _ => rfl) w Lies.nil0
  have HS1 := Lib.hid hs1
  have v1 : ∀ c, 1 ≤ c → SpV 0 0 0 0 2 0 1 [⟨0, 0, 0, 0, 0, 0, 1, 3⟩] c := fun c hc => ⟨sv, by decide +kernel, by decide, hc, by decide +kernel⟩
  have ht1 : ∀ (sa : Option Addr) (c : Nat), 1 ≤ c → ∀ w, Lies w w.heap.size sa 8 1 (fun j => sC [(⟨0, 0, 0, 0, 0, 0, 1, 3⟩ : S8)][j]!) → Calls Try.prog 32 #[vSp 0 0 0 0 2 0 1 (.slice sa 1 c), .int .i64 1] w (Gives (.tuple #[.int .i64 3, .int .i64 0]) w) := fun sa c hc w hl => by
    have := turn_of (i := 1) (v1 c hc) (by decide) (by decide +kernel) rfl (at_pv sv (by decide) (by decide +kernel)).1 w hl
    rw [show idx 0 0 0 2 0 (atF 0 0 0 0 2 0 1).a (atF 0 0 0 0 2 0 1).b (atF 0 0 0 0 2 0 1).c (atF 0 0 0 0 2 0 1).d (turnR [⟨0, 0, 0, 0, 0, 0, 1, 3⟩] (atF 0 0 0 0 2 0 1)) (atF 0 0 0 0 2 0 1).f = 3 from by decide +kernel] at this
    exact this
  have ht3 : ∀ (sa : Option Addr) (c : Nat), 1 ≤ c → ∀ w, Lies w w.heap.size sa 8 1 (fun j => sC [(⟨0, 0, 0, 0, 0, 0, 1, 3⟩ : S8)][j]!) → Calls Try.prog 32 #[vSp 0 0 0 0 2 0 1 (.slice sa 1 c), .int .i64 3] w (Gives (.tuple #[.int .i64 1, .int .i64 0]) w) := fun sa c hc w hl => by
    have := turn_of (i := 3) (v1 c hc) (by decide) (by decide +kernel) rfl (at_pv sv (by decide) (by decide +kernel)).1 w hl
    rw [show idx 0 0 0 2 0 (atF 0 0 0 0 2 0 3).a (atF 0 0 0 0 2 0 3).b (atF 0 0 0 0 2 0 3).c (atF 0 0 0 0 2 0 3).d (turnR [⟨0, 0, 0, 0, 0, 0, 1, 3⟩] (atF 0 0 0 0 2 0 3)) (atF 0 0 0 0 2 0 3).f = 1 from by decide +kernel] at this
    exact this
  have hs0 : ∀ (sa : Option Addr) (c : Nat), 1 ≤ c → ∀ w, Lies w w.heap.size sa 8 1 (fun j => sC [(⟨0, 0, 0, 0, 0, 0, 1, 3⟩ : S8)][j]!) → Calls Try.prog 26 #[vSp 0 0 0 0 2 0 1 (.slice sa 1 c), v6 0 0 0 0 0 0] w (Gives (.tuple #[vSp 0 0 0 0 0 0 0 (.slice none 0 0), .int .i64 44]) w) := fun sa c hc w hl =>
    swap_none (v1 c hc) p0 (by decide +kernel) (by decide +kernel) (by decide +kernel) w hl
  have hr : ∀ w, Calls Try.prog 34 #[vSp 0 0 0 0 2 0 1 (.slice none 0 0), .int .i64 3] w (Gives (.bool true) w) := fun w => by
    have := sreserved_of (i := 3) v0 (by decide) (by decide +kernel) (sa := none) w Lies.nil0
    rw [show decide (rwz 2 - 1 ≤ (atF 0 0 0 0 2 0 3).e) = true from by decide +kernel] at this
    exact this
  have hlf : ∀ (sa : Option Addr) (c : Nat), 1 ≤ c → ∀ w, Lies w w.heap.size sa 8 1 (fun j => sC [(⟨0, 0, 0, 0, 0, 0, 1, 3⟩ : S8)][j]!) → Calls Try.prog 28 #[vSp 0 0 0 0 2 0 1 (.slice sa 1 c), v6 0 0 0 0 0 0] w (Gives (.int .i64 0) w) := fun sa c hc w hl => by
    have := sleft_of (n := 1) (xs := [⟨0, 0, 0, 0, 0, 0, 1, 3⟩]) sv (by decide +kernel) p0 c (by decide) hc (by decide +kernel) w hl
    rw [show (freeK (rwz 2 - 1) 0 0 0 0 [⟨0, 0, 0, 0, 0, 0, 1, 3⟩] (1 : Int).toNat).length = 0 from by decide +kernel] at this
    exact this
  have HT1 := Lib.hid ht1
  have HT3 := Lib.hid ht3
  have HS0 := Lib.hid hs0
  have HR := Lib.hid hr
  have HLF := Lib.hid hlf
  clear hs1 ht1 ht3 hs0 hr hlf v0 v1 p0 p1 sv
  go_enter Try.func15, Try.ntmps15
  have H := HS.start NoD w
  go_wp2_with fail
  refine (HN.out _).mono ?_
  rintro _ w1 ⟨rfl, hb⟩
  replace H := H.below hb
  clear hb
  try clear C
  try simp only [World.size_alloc, List.nil_append, List.cons_append, List.append_assoc] at H
  have C := H.cells
  try simp only [cellsOf, apartOf, and_true] at C
  dsimp only
  go_wp2_with fail
  refine (HS1.out _).mono ?_
  rintro _ w2 ⟨s1, d1, rfl, hr, hb⟩
  replace H := (H.alloc).getsRow hb hr
  clear hb hr
  try clear C
  try simp only [World.size_alloc, List.nil_append, List.cons_append, List.append_assoc] at H
  generalize w1.heap.size = bX at H ⊢
  try clear w1
  have C := H.cells
  try simp only [cellsOf, apartOf, and_true] at C
  dsimp only
  go_wp2_with fail
  obtain ⟨g1, -, -, hc1⟩ := ownsRow_ptr (H.at 1 rfl) (by decide)
  refine (HT1.out _ _ hc1 _ (H.alloc.rowLies 1 sC_len rfl rfl)).mono ?_
  rintro _ w3 ⟨rfl, hb⟩
  replace H := H.alloc.below hb
  clear hb
  try clear C
  try simp only [World.size_alloc, List.nil_append, List.cons_append, List.append_assoc] at H
  generalize w2.heap.size = bY at H ⊢
  try clear w2
  have C := H.cells
  try simp only [cellsOf, apartOf, and_true] at C
  dsimp only
  go_wp2_with fail
  refine (HT3.out _ _ hc1 _ (H.rowLies 1 sC_len rfl rfl)).mono ?_
  rintro _ w4 ⟨rfl, hb⟩
  replace H := H.below hb
  clear hb
  try clear C
  try simp only [World.size_alloc, List.nil_append, List.cons_append, List.append_assoc] at H
  try clear w3
  have C := H.cells
  try simp only [cellsOf, apartOf, and_true] at C
  dsimp only
  go_wp2_with fail
  refine (HS0.out _ _ hc1 _ (H.rowLies 1 sC_len rfl rfl)).mono ?_
  rintro _ w5 ⟨rfl, hb⟩
  replace H := H.below hb
  clear hb
  try clear C
  try simp only [World.size_alloc, List.nil_append, List.cons_append, List.append_assoc] at H
  try clear w4
  have C := H.cells
  try simp only [cellsOf, apartOf, and_true] at C
  dsimp only
  go_wp2_with fail
  refine (HR.out _).mono ?_
  rintro _ w6 ⟨rfl, hb⟩
  replace H := H.alloc.below hb
  clear hb
  try clear C
  try simp only [World.size_alloc, List.nil_append, List.cons_append, List.append_assoc] at H
  generalize w5.heap.size = bZ at H ⊢
  try clear w5
  have C := H.cells
  try simp only [cellsOf, apartOf, and_true] at C
  dsimp only
  go_wp2_with fail
  refine (HLF.out _ _ hc1 _ (H.rowLies 1 sC_len rfl rfl)).mono ?_
  rintro _ w7 ⟨rfl, hb⟩
  replace H := H.below hb
  clear hb
  try clear C
  try simp only [World.size_alloc, List.nil_append, List.cons_append, List.append_assoc] at H
  try clear w6
  have C := H.cells
  try simp only [cellsOf, apartOf, and_true] at C
  dsimp only
  go_wp2_with fail
  go_ret
  exact ⟨rfl, H.done⟩
end Go.Proofs.Ytcacgmfihhpliaa
