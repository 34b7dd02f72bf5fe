/- made.Symbols, made.Code: valid codes; made.Bytes: bytes. -/
import Derived.Test.YtplflpmkomeadaaDoorCeN
import Derived.Test.YtplflpmkomeadaaDoorCeI
namespace Go.Proofs.YtplflpmkomeadaaDoor
set_option linter.unusedSimpArgs false
set_option linter.unusedVariables false
open Go.RowKit
set_option maxRecDepth 100000
attribute [local go_sem] lt_more ne_more ne_more'
attribute [local irreducible] wpX wpF

def CodeVPost (B b : Nat) (w : World) (e : Ending) (w' : World) : Prop :=
  ∃ kd dt ck fx : Int, e = .returned (.agg #[.int .i64 kd, .int .i64 dt, .int .i64 ck, .int .i64 fx]) ∧ codeB kd dt ck fx = true ∧ Dice B w' b ∧ Chg b w w'
set_option maxHeartbeats 4000000 in
theorem symbols_any (B b : Nat) (w : World) (hd : Dice B w b) (hB : B ≤ w.heap.size) : Calls Tryd.prog 69 #[.pointer (some ⟨b, 0, none⟩)] w (CodeVPost B b w) := by
  go_enter Tryd.func69, Tryd.ntmps69
  have H := HS.startDice hd hB
  have C := H.cells
  try simp only [cellsOf, cellsM, apartOf, apartM, and_true] at C
  clear hd
  go_wp2_with fail
  refine (next_any 3 (by omega) B b _ (H.alloc.alloc.at 0 rfl)).mono ?_
  rintro _ w1 ⟨v0, rfl, hv0, hd, hg⟩
  replace H := (H.alloc.alloc).diceAt 0 rfl hg hd
  clear hg hd
  try clear C
  try simp only [World.size_alloc, List.nil_append, List.cons_append, List.append_assoc] at H
  generalize w.heap.size + 1 = bL at H ⊢
  generalize w.heap.size = bR at H ⊢
  have C := H.cells
  try simp only [cellsOf, cellsM, apartOf, apartM, and_true] at C
  dsimp only
  replace hv0 : 0 ≤ v0 ∧ v0 < 3 := ⟨hv0.1, hv0.lt (by decide)⟩
  have h3 : v0 = 0 ∨ v0 = 1 ∨ v0 = 2 := by omega
  clear hv0
  skip
  rcases h3 with rfl | rfl | rfl
  · skip
    go_wp2_with fail
    refine (next_any 4 (by omega) B b _ (H.at 0 rfl)).mono ?_
    rintro _ w2 ⟨v1, rfl, hv1, hd, hg⟩
    replace H := (H).diceAt 0 rfl hg hd
    clear hg hd
    try clear C
    try simp only [World.size_alloc, List.nil_append, List.cons_append, List.append_assoc] at H
    try clear w1
    have C := H.cells
    try simp only [cellsOf, cellsM, apartOf, apartM, and_true] at C
    dsimp only
    replace hv1 : 0 ≤ v1 ∧ v1 < 4 := ⟨hv1.1, hv1.lt (by decide)⟩
    go_wp2_with fail
    refine (next_any 8 (by omega) B b _ (H.at 0 rfl)).mono ?_
    rintro _ w3 ⟨v2, rfl, hv2, hd, hg⟩
    replace H := (H).diceAt 0 rfl hg hd
    clear hg hd
    try clear C
    try simp only [World.size_alloc, List.nil_append, List.cons_append, List.append_assoc] at H
    try clear w2
    have C := H.cells
    try simp only [cellsOf, cellsM, apartOf, apartM, and_true] at C
    dsimp only
    replace hv2 : 0 ≤ v2 ∧ v2 < 8 := ⟨hv2.1, hv2.lt (by decide)⟩
    obtain ⟨h9, hh9⟩ : ∃ h, h = (1 + v2) / 2 := ⟨_, rfl⟩
    have HD := Lib.hid (show 1 ≤ 1 + v1 ∧ 1 + v1 ≤ 32 by omega)
    have HH := Lib.hid (show 2 * h9 ≤ 1 + v2 ∧ 1 + v2 < 2 * h9 + 2 ∧ 1 ≤ 1 + v2 ∧ 1 + v2 ≤ 8 by omega)
    have HQ := Lib.hid (show (1 + v2).tdiv 2 = h9 by rw [hh9]; exact Int.tdiv_eq_ediv_of_nonneg (by omega))
    clear hh9
    go_upto_region 2 with fail
    generalize hwb : w3.alloc _ = w4
    replace H := HS.eqW hwb H.alloc
    try simp only [World.size_alloc, List.nil_append, List.cons_append, List.append_assoc] at H
    clear hwb
    generalize w3.heap.size = b3 at H ⊢
    try clear C
    try clear w3
    have C := H.cells
    try simp only [cellsOf, cellsM, apartOf, apartM, and_true] at C
    clear hv1 hv2
    generalize 1 + v2 = ck at H HH HQ C
    generalize 1 + v1 = dt at H HD C
    have hq := HQ.out
    have hhw : IntKind.i64.wrap h9 = h9 := IntWalk.i64_in _ (by have := HH.out; omega)
    have hh1 : IntKind.i64.wrap (h9 + 1) = h9 + 1 := IntWalk.i64_in _ (by have := HH.out; omega)
    have hh0 : 0 ≤ h9 := by have := HH.out; omega
    have hh4 : h9 ≤ 4 := by have := HH.out; omega
    go_upto_region 3 with fail
    generalize hwb : World.setCell _ _ _ = wq
    replace H := HS.eqW hwb (H.setTo (o := 3) (v := .int .i64 h9) 3 rfl rfl)
    clear hwb C
    simp only [List.set_cons_succ, List.set_cons_zero] at H
    skip
    try clear C
    try simp only [World.size_alloc, List.nil_append, List.cons_append, List.append_assoc] at H
    have C := H.cells
    try simp only [cellsOf, cellsM, apartOf, apartM, and_true] at C
    go_wp2_with fail
    refine (one_any 3 (by omega) (by omega) B b _ (H.at 0 rfl)).mono ?_
    rintro _ w5 ⟨c, rfl, hd, hg⟩
    replace H := (H).diceAt 0 rfl hg hd
    clear hg hd
    try clear C
    try simp only [World.size_alloc, List.nil_append, List.cons_append, List.append_assoc] at H
    try clear wq
    have C := H.cells
    try simp only [cellsOf, cellsM, apartOf, apartM, and_true] at C
    dsimp only
    skip
    cases c with
    | false =>
      go_wp2_with fail
      generalize hwb : (((w5.setCell _ _).setCell _ _).setCell _ _).setCell _ _ = w6
      replace H := HS.eqW hwb (H.putAll (i := 1) rfl (vs := [.int .i64 2, .int .i64 dt, .int .i64 ck, .int .i64 h9]) rfl rfl)
      simp only [List.nil_append, List.cons_append, List.append_assoc, List.set_cons_succ, List.set_cons_zero] at H
      clear hwb
      try clear C
      try clear w5
      have C := H.cells
      try simp only [cellsOf, cellsM, apartOf, apartM, and_true] at C
      refine bodyPost_ret (by simp [results, Tryd.results69, go_sem, C]; try rfl) rfl ?_
      exact ⟨2, dt, ck, h9, rfl, (by have := HH.out; have := HD.out; unfold codeB; simp; omega), H.at 0 rfl, H.doneDice⟩
    | true =>
      skip
      go_wp2_with fail
      refine (next_any (h9 + 1) (by omega) B b _ (H.at 0 rfl)).mono ?_
      rintro _ w7 ⟨v5, rfl, hv5, hd, hg⟩
      replace H := (H).diceAt 0 rfl hg hd
      clear hg hd
      try clear C
      try simp only [World.size_alloc, List.nil_append, List.cons_append, List.append_assoc] at H
      try clear w5
      have C := H.cells
      try simp only [cellsOf, cellsM, apartOf, apartM, and_true] at C
      dsimp only
      have h50 := hv5.1
      have h51 : v5 < h9 + 1 := hv5.lt (by omega)
      go_upto_region 5 with fail
      generalize hwb : World.setCell _ _ _ = wq2
      replace H := HS.eqW hwb (H.setTo (o := 3) (v := .int .i64 v5) 3 rfl rfl)
      clear hwb C
      simp only [List.set_cons_succ, List.set_cons_zero] at H
      skip
      try clear C
      try simp only [World.size_alloc, List.nil_append, List.cons_append, List.append_assoc] at H
      have C := H.cells
      try simp only [cellsOf, cellsM, apartOf, apartM, and_true] at C
      go_wp2_with fail
      generalize hwb : (((wq2.setCell _ _).setCell _ _).setCell _ _).setCell _ _ = w8
      replace H := HS.eqW hwb (H.putAll (i := 1) rfl (vs := [.int .i64 2, .int .i64 dt, .int .i64 ck, .int .i64 v5]) rfl rfl)
      simp only [List.nil_append, List.cons_append, List.append_assoc, List.set_cons_succ, List.set_cons_zero] at H
      clear hwb
      try clear C
      try clear wq2
      have C := H.cells
      try simp only [cellsOf, cellsM, apartOf, apartM, and_true] at C
      refine bodyPost_ret (by simp [results, Tryd.results69, go_sem, C]; try rfl) rfl ?_
      exact ⟨2, dt, ck, v5, rfl, (by have := HH.out; have := HD.out; unfold codeB; simp; omega), H.at 0 rfl, H.doneDice⟩
  · skip
    go_wp2_with fail
    refine (next_any 8 (by omega) B b _ (H.at 0 rfl)).mono ?_
    rintro _ w9 ⟨v1, rfl, hv1, hd, hg⟩
    replace H := (H).diceAt 0 rfl hg hd
    clear hg hd
    try clear C
    try simp only [World.size_alloc, List.nil_append, List.cons_append, List.append_assoc] at H
    try clear w1
    have C := H.cells
    try simp only [cellsOf, cellsM, apartOf, apartM, and_true] at C
    dsimp only
    replace hv1 : 0 ≤ v1 ∧ v1 < 8 := ⟨hv1.1, hv1.lt (by decide)⟩
    go_wp2_with fail
    refine (next_any 8 (by omega) B b _ (H.at 0 rfl)).mono ?_
    rintro _ w10 ⟨v2, rfl, hv2, hd, hg⟩
    replace H := (H).diceAt 0 rfl hg hd
    clear hg hd
    try clear C
    try simp only [World.size_alloc, List.nil_append, List.cons_append, List.append_assoc] at H
    try clear w9
    have C := H.cells
    try simp only [cellsOf, cellsM, apartOf, apartM, and_true] at C
    dsimp only
    replace hv2 : 0 ≤ v2 ∧ v2 < 8 := ⟨hv2.1, hv2.lt (by decide)⟩
    obtain ⟨h9, hh9⟩ : ∃ h, h = (1 + v2) / 2 := ⟨_, rfl⟩
    have HD := Lib.hid (show 1 ≤ 1 + v1 ∧ 1 + v1 ≤ 32 by omega)
    have HH := Lib.hid (show 2 * h9 ≤ 1 + v2 ∧ 1 + v2 < 2 * h9 + 2 ∧ 1 ≤ 1 + v2 ∧ 1 + v2 ≤ 8 by omega)
    have HQ := Lib.hid (show (1 + v2).tdiv 2 = h9 by rw [hh9]; exact Int.tdiv_eq_ediv_of_nonneg (by omega))
    clear hh9
    go_upto_region 2 with fail
    generalize hwb : w10.alloc _ = w11
    replace H := HS.eqW hwb H.alloc
    try simp only [World.size_alloc, List.nil_append, List.cons_append, List.append_assoc] at H
    clear hwb
    generalize w10.heap.size = b3 at H ⊢
    try clear C
    try clear w10
    have C := H.cells
    try simp only [cellsOf, cellsM, apartOf, apartM, and_true] at C
    clear hv1 hv2
    generalize 1 + v2 = ck at H HH HQ C
    generalize 1 + v1 = dt at H HD C
    have hq := HQ.out
    have hhw : IntKind.i64.wrap h9 = h9 := IntWalk.i64_in _ (by have := HH.out; omega)
    have hh1 : IntKind.i64.wrap (h9 + 1) = h9 + 1 := IntWalk.i64_in _ (by have := HH.out; omega)
    have hh0 : 0 ≤ h9 := by have := HH.out; omega
    have hh4 : h9 ≤ 4 := by have := HH.out; omega
    go_upto_region 3 with fail
    generalize hwb : World.setCell _ _ _ = wq
    replace H := HS.eqW hwb (H.setTo (o := 3) (v := .int .i64 h9) 3 rfl rfl)
    clear hwb C
    simp only [List.set_cons_succ, List.set_cons_zero] at H
    skip
    try clear C
    try simp only [World.size_alloc, List.nil_append, List.cons_append, List.append_assoc] at H
    have C := H.cells
    try simp only [cellsOf, cellsM, apartOf, apartM, and_true] at C
    go_wp2_with fail
    refine (one_any 3 (by omega) (by omega) B b _ (H.at 0 rfl)).mono ?_
    rintro _ w12 ⟨c, rfl, hd, hg⟩
    replace H := (H).diceAt 0 rfl hg hd
    clear hg hd
    try clear C
    try simp only [World.size_alloc, List.nil_append, List.cons_append, List.append_assoc] at H
    try clear wq
    have C := H.cells
    try simp only [cellsOf, cellsM, apartOf, apartM, and_true] at C
    dsimp only
    skip
    cases c with
    | false =>
      go_wp2_with fail
      generalize hwb : (((w12.setCell _ _).setCell _ _).setCell _ _).setCell _ _ = w13
      replace H := HS.eqW hwb (H.putAll (i := 1) rfl (vs := [.int .i64 2, .int .i64 dt, .int .i64 ck, .int .i64 h9]) rfl rfl)
      simp only [List.nil_append, List.cons_append, List.append_assoc, List.set_cons_succ, List.set_cons_zero] at H
      clear hwb
      try clear C
      try clear w12
      have C := H.cells
      try simp only [cellsOf, cellsM, apartOf, apartM, and_true] at C
      refine bodyPost_ret (by simp [results, Tryd.results69, go_sem, C]; try rfl) rfl ?_
      exact ⟨2, dt, ck, h9, rfl, (by have := HH.out; have := HD.out; unfold codeB; simp; omega), H.at 0 rfl, H.doneDice⟩
    | true =>
      skip
      go_wp2_with fail
      refine (next_any (h9 + 1) (by omega) B b _ (H.at 0 rfl)).mono ?_
      rintro _ w14 ⟨v5, rfl, hv5, hd, hg⟩
      replace H := (H).diceAt 0 rfl hg hd
      clear hg hd
      try clear C
      try simp only [World.size_alloc, List.nil_append, List.cons_append, List.append_assoc] at H
      try clear w12
      have C := H.cells
      try simp only [cellsOf, cellsM, apartOf, apartM, and_true] at C
      dsimp only
      have h50 := hv5.1
      have h51 : v5 < h9 + 1 := hv5.lt (by omega)
      go_upto_region 5 with fail
      generalize hwb : World.setCell _ _ _ = wq2
      replace H := HS.eqW hwb (H.setTo (o := 3) (v := .int .i64 v5) 3 rfl rfl)
      clear hwb C
      simp only [List.set_cons_succ, List.set_cons_zero] at H
      skip
      try clear C
      try simp only [World.size_alloc, List.nil_append, List.cons_append, List.append_assoc] at H
      have C := H.cells
      try simp only [cellsOf, cellsM, apartOf, apartM, and_true] at C
      go_wp2_with fail
      generalize hwb : (((wq2.setCell _ _).setCell _ _).setCell _ _).setCell _ _ = w15
      replace H := HS.eqW hwb (H.putAll (i := 1) rfl (vs := [.int .i64 2, .int .i64 dt, .int .i64 ck, .int .i64 v5]) rfl rfl)
      simp only [List.nil_append, List.cons_append, List.append_assoc, List.set_cons_succ, List.set_cons_zero] at H
      clear hwb
      try clear C
      try clear wq2
      have C := H.cells
      try simp only [cellsOf, cellsM, apartOf, apartM, and_true] at C
      refine bodyPost_ret (by simp [results, Tryd.results69, go_sem, C]; try rfl) rfl ?_
      exact ⟨2, dt, ck, v5, rfl, (by have := HH.out; have := HD.out; unfold codeB; simp; omega), H.at 0 rfl, H.doneDice⟩
  · skip
    go_wp2_with fail
    refine (next_any 32 (by omega) B b _ (H.at 0 rfl)).mono ?_
    rintro _ w16 ⟨v1, rfl, hv1, hd, hg⟩
    replace H := (H).diceAt 0 rfl hg hd
    clear hg hd
    try clear C
    try simp only [World.size_alloc, List.nil_append, List.cons_append, List.append_assoc] at H
    try clear w1
    have C := H.cells
    try simp only [cellsOf, cellsM, apartOf, apartM, and_true] at C
    dsimp only
    replace hv1 : 0 ≤ v1 ∧ v1 < 32 := ⟨hv1.1, hv1.lt (by decide)⟩
    go_wp2_with fail
    refine (next_any 8 (by omega) B b _ (H.at 0 rfl)).mono ?_
    rintro _ w17 ⟨v2, rfl, hv2, hd, hg⟩
    replace H := (H).diceAt 0 rfl hg hd
    clear hg hd
    try clear C
    try simp only [World.size_alloc, List.nil_append, List.cons_append, List.append_assoc] at H
    try clear w16
    have C := H.cells
    try simp only [cellsOf, cellsM, apartOf, apartM, and_true] at C
    dsimp only
    replace hv2 : 0 ≤ v2 ∧ v2 < 8 := ⟨hv2.1, hv2.lt (by decide)⟩
    obtain ⟨h9, hh9⟩ : ∃ h, h = (1 + v2) / 2 := ⟨_, rfl⟩
    have HD := Lib.hid (show 1 ≤ 1 + v1 ∧ 1 + v1 ≤ 32 by omega)
    have HH := Lib.hid (show 2 * h9 ≤ 1 + v2 ∧ 1 + v2 < 2 * h9 + 2 ∧ 1 ≤ 1 + v2 ∧ 1 + v2 ≤ 8 by omega)
    have HQ := Lib.hid (show (1 + v2).tdiv 2 = h9 by rw [hh9]; exact Int.tdiv_eq_ediv_of_nonneg (by omega))
    clear hh9
    go_upto_region 2 with fail
    generalize hwb : w17.alloc _ = w18
    replace H := HS.eqW hwb H.alloc
    try simp only [World.size_alloc, List.nil_append, List.cons_append, List.append_assoc] at H
    clear hwb
    generalize w17.heap.size = b3 at H ⊢
    try clear C
    try clear w17
    have C := H.cells
    try simp only [cellsOf, cellsM, apartOf, apartM, and_true] at C
    clear hv1 hv2
    generalize 1 + v2 = ck at H HH HQ C
    generalize 1 + v1 = dt at H HD C
    have hq := HQ.out
    have hhw : IntKind.i64.wrap h9 = h9 := IntWalk.i64_in _ (by have := HH.out; omega)
    have hh1 : IntKind.i64.wrap (h9 + 1) = h9 + 1 := IntWalk.i64_in _ (by have := HH.out; omega)
    have hh0 : 0 ≤ h9 := by have := HH.out; omega
    have hh4 : h9 ≤ 4 := by have := HH.out; omega
    go_upto_region 3 with fail
    generalize hwb : World.setCell _ _ _ = wq
    replace H := HS.eqW hwb (H.setTo (o := 3) (v := .int .i64 h9) 3 rfl rfl)
    clear hwb C
    simp only [List.set_cons_succ, List.set_cons_zero] at H
    skip
    try clear C
    try simp only [World.size_alloc, List.nil_append, List.cons_append, List.append_assoc] at H
    have C := H.cells
    try simp only [cellsOf, cellsM, apartOf, apartM, and_true] at C
    go_wp2_with fail
    refine (one_any 3 (by omega) (by omega) B b _ (H.at 0 rfl)).mono ?_
    rintro _ w19 ⟨c, rfl, hd, hg⟩
    replace H := (H).diceAt 0 rfl hg hd
    clear hg hd
    try clear C
    try simp only [World.size_alloc, List.nil_append, List.cons_append, List.append_assoc] at H
    try clear wq
    have C := H.cells
    try simp only [cellsOf, cellsM, apartOf, apartM, and_true] at C
    dsimp only
    skip
    cases c with
    | false =>
      go_wp2_with fail
      generalize hwb : (((w19.setCell _ _).setCell _ _).setCell _ _).setCell _ _ = w20
      replace H := HS.eqW hwb (H.putAll (i := 1) rfl (vs := [.int .i64 2, .int .i64 dt, .int .i64 ck, .int .i64 h9]) rfl rfl)
      simp only [List.nil_append, List.cons_append, List.append_assoc, List.set_cons_succ, List.set_cons_zero] at H
      clear hwb
      try clear C
      try clear w19
      have C := H.cells
      try simp only [cellsOf, cellsM, apartOf, apartM, and_true] at C
      refine bodyPost_ret (by simp [results, Tryd.results69, go_sem, C]; try rfl) rfl ?_
      exact ⟨2, dt, ck, h9, rfl, (by have := HH.out; have := HD.out; unfold codeB; simp; omega), H.at 0 rfl, H.doneDice⟩
    | true =>
      skip
      go_wp2_with fail
      refine (next_any (h9 + 1) (by omega) B b _ (H.at 0 rfl)).mono ?_
      rintro _ w21 ⟨v5, rfl, hv5, hd, hg⟩
      replace H := (H).diceAt 0 rfl hg hd
      clear hg hd
      try clear C
      try simp only [World.size_alloc, List.nil_append, List.cons_append, List.append_assoc] at H
      try clear w19
      have C := H.cells
      try simp only [cellsOf, cellsM, apartOf, apartM, and_true] at C
      dsimp only
      have h50 := hv5.1
      have h51 : v5 < h9 + 1 := hv5.lt (by omega)
      go_upto_region 5 with fail
      generalize hwb : World.setCell _ _ _ = wq2
      replace H := HS.eqW hwb (H.setTo (o := 3) (v := .int .i64 v5) 3 rfl rfl)
      clear hwb C
      simp only [List.set_cons_succ, List.set_cons_zero] at H
      skip
      try clear C
      try simp only [World.size_alloc, List.nil_append, List.cons_append, List.append_assoc] at H
      have C := H.cells
      try simp only [cellsOf, cellsM, apartOf, apartM, and_true] at C
      go_wp2_with fail
      generalize hwb : (((wq2.setCell _ _).setCell _ _).setCell _ _).setCell _ _ = w22
      replace H := HS.eqW hwb (H.putAll (i := 1) rfl (vs := [.int .i64 2, .int .i64 dt, .int .i64 ck, .int .i64 v5]) rfl rfl)
      simp only [List.nil_append, List.cons_append, List.append_assoc, List.set_cons_succ, List.set_cons_zero] at H
      clear hwb
      try clear C
      try clear wq2
      have C := H.cells
      try simp only [cellsOf, cellsM, apartOf, apartM, and_true] at C
      refine bodyPost_ret (by simp [results, Tryd.results69, go_sem, C]; try rfl) rfl ?_
      exact ⟨2, dt, ck, v5, rfl, (by have := HH.out; have := HD.out; unfold codeB; simp; omega), H.at 0 rfl, H.doneDice⟩
theorem code13_any (B b : Nat) (w : World) (hd : Dice B w b) (hB : B ≤ w.heap.size) : Calls Tryd.prog 37 #[.pointer (some ⟨b, 0, none⟩)] w (CodeVPost B b w) := by
  have HSY := Lib.hid (fun wx hx hB => symbols_any B b wx hx hB)
  go_enter Tryd.func37, Tryd.ntmps37
  have H := HS.startDice hd hB
  have C := H.cells
  try simp only [cellsOf, cellsM, apartOf, apartM, and_true] at C
  clear hd
  go_wp2_with fail
  refine (one_any 4 (by omega) (by omega) B b _ (H.alloc.at 0 rfl)).mono ?_
  rintro _ w1 ⟨c, rfl, hd, hg⟩
  replace H := (H.alloc).diceAt 0 rfl hg hd
  clear hg hd
  try clear C
  try simp only [World.size_alloc, List.nil_append, List.cons_append, List.append_assoc] at H
  generalize w.heap.size = bR at H ⊢
  have C := H.cells
  try simp only [cellsOf, cellsM, apartOf, apartM, and_true] at C
  dsimp only
  skip
  cases c with
  | true =>
    go_wp2_with fail
    generalize hwb : (((w1.setCell _ _).setCell _ _).setCell _ _).setCell _ _ = w2
    replace H := HS.eqW hwb (H.putAll (i := 1) rfl (vs := [.int .i64 1, .int .i64 8, .int .i64 1, .int .i64 1]) rfl rfl)
    simp only [List.nil_append, List.cons_append, List.append_assoc, List.set_cons_succ, List.set_cons_zero] at H
    clear hwb
    try clear C
    try clear w1
    have C := H.cells
    try simp only [cellsOf, cellsM, apartOf, apartM, and_true] at C
    refine bodyPost_ret (by simp [results, Tryd.results37, go_sem, C]; try rfl) rfl ?_
    exact ⟨1, 8, 1, 1, rfl, rfl, H.at 0 rfl, H.doneDice⟩
  | false =>
    skip
    go_wp2_with fail
    refine (HSY.out _ (H.at 0 rfl) (Nat.le_trans hB H.size)).mono ?_
    rintro _ w3 ⟨kd, dt, ck, fx, rfl, hcb, hd, hg⟩
    replace H := (H).diceAt 0 rfl hg hd
    clear hg hd
    try clear C
    try simp only [World.size_alloc, List.nil_append, List.cons_append, List.append_assoc] at H
    try clear w1
    have C := H.cells
    try simp only [cellsOf, cellsM, apartOf, apartM, and_true] at C
    dsimp only
    go_wp2_with fail
    generalize hwb : (((w3.setCell _ _).setCell _ _).setCell _ _).setCell _ _ = w4
    replace H := HS.eqW hwb (H.putAll (i := 1) rfl (vs := [.int .i64 kd, .int .i64 dt, .int .i64 ck, .int .i64 fx]) rfl rfl)
    simp only [List.nil_append, List.cons_append, List.append_assoc, List.set_cons_succ, List.set_cons_zero] at H
    clear hwb
    try clear C
    try clear w3
    have C := H.cells
    try simp only [cellsOf, cellsM, apartOf, apartM, and_true] at C
    refine bodyPost_ret (by simp [results, Tryd.results37, go_sem, C]; try rfl) rfl ?_
    exact ⟨kd, dt, ck, fx, rfl, hcb, H.at 0 rfl, H.doneDice⟩
end Go.Proofs.YtplflpmkomeadaaDoor
