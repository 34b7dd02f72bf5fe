/- made.(*Dice).OddFault: some fault. -/
import Derived.Test.YtplflpmkomeadaaDoorMade
import Derived.Deep.CutRange
import Derived.Deep.CutBlock
namespace Go.Proofs.YtplflpmkomeadaaDoor
set_option linter.unusedSimpArgs false
set_option linter.unusedVariables false
open Go.RowKit
set_option maxRecDepth 100000
attribute [local go_sem] lt_more ne_more ne_more'
attribute [local irreducible] wpX wpF

set_option maxHeartbeats 8000000 in
theorem oddFault_any (k p0 p1 p2 p3 p4 p5 ch ms vl : Int) (hard : Bool) (B b : Nat) (w : World) (hd : Dice B w b) (hB : B ≤ w.heap.size) :
    Calls Tryd.prog 35 #[.pointer (some ⟨b, 0, none⟩), vF k p0 p1 p2 p3 p4 p5 ch ms vl hard] w (FaultPost B b w) := by
  go_enter Tryd.func35, Tryd.ntmps35
  have H := HS.startDice hd hB
  have C := H.cells
  try simp only [cellsOf, cellsM, apartOf, apartM, and_true] at C
  clear hd
  go_wp2_with fail
  refine (next_any 7 (by omega) B b _ (H.alloc.alloc.at 0 rfl)).mono ?_
  rintro _ w1 ⟨v, rfl, hv, hd, hg⟩
  replace H := (H.alloc.alloc).diceAt 0 rfl hg hd
  clear hg hd
  try clear C
  try simp only [World.size_alloc, List.nil_append, List.cons_append, List.append_assoc] at H
  generalize w.heap.size + 1 = bR at H ⊢
  generalize w.heap.size = bF at H ⊢
  have C := H.cells
  try simp only [cellsOf, cellsM, apartOf, apartM, and_true] at C
  dsimp only
  go_step
  go_step
  go_step
  go_step
  go_cut [] from 7 to 47 (fun wx => ∃ (k' p0' p1' p2' p3' p4' p5' ch' ms' vl' : Int) (hard' : Bool), HS (OneD b) w [.dice B b, .blk bF #[.int .i64 k', .int .i64 p0', .int .i64 p1', .int .i64 p2', .int .i64 p3', .int .i64 p4', .int .i64 p5', .int .i64 ch', .int .u8 ms', .int .u8 vl', .bool hard'] 38, .blk bR #[.int .i64 0, .int .i64 0, .int .i64 0, .int .i64 0, .int .i64 0, .int .i64 0, .int .i64 0, .int .i64 0, .int .u8 0, .int .u8 0, .bool false] 38] wx)
  case first =>
    go_wp2_with fail
    · skip
      refine (next_any 8 (by omega) B b _ (H.at 0 rfl)).mono ?_
      rintro _ w2 ⟨u, rfl, hu, hd, hg⟩
      replace H := (H).diceAt 0 rfl hg hd
      clear hg hd
      try clear C
      try simp only [World.size_alloc, List.nil_append, List.cons_append, List.append_assoc] at H
      try clear w1
      have C := H.cells
      try simp only [cellsOf, cellsM, apartOf, apartM, and_true] at C
      dsimp only
      go_wp2_with fail
      go_meet
      case rel => exact ⟨_, _, _, _, _, _, _, _, _, _, _, H.setTo 1 rfl (by rfl)⟩
    · skip
      refine (next_any 4 (by omega) B b _ (H.alloc.at 0 rfl)).mono ?_
      rintro _ w3 ⟨u, rfl, hu, hd, hg⟩
      replace H := (H.alloc).diceAt 0 rfl hg hd
      clear hg hd
      try clear C
      try simp only [World.size_alloc, List.nil_append, List.cons_append, List.append_assoc] at H
      generalize w1.heap.size = bL at H ⊢
      try clear w1
      have C := H.cells
      try simp only [cellsOf, cellsM, apartOf, apartM, and_true] at C
      dsimp only
      have hu4 : u = 0 ∨ u = 1 ∨ u = 2 ∨ u = 3 := by have := hu.1; have := hu.lt (by omega); omega
      rcases hu4 with rfl | rfl | rfl | rfl
      all_goals go_wp2_with fail
      all_goals go_meet
      case rel => exact ⟨_, _, _, _, _, _, _, _, _, _, _, (H.less (List.take_sublist 3 _)).setTo 1 rfl (by rfl)⟩
      case rel => exact ⟨_, _, _, _, _, _, _, _, _, _, _, (H.less (List.take_sublist 3 _)).setTo 1 rfl (by rfl)⟩
      case rel => exact ⟨_, _, _, _, _, _, _, _, _, _, _, (H.less (List.take_sublist 3 _)).setTo 1 rfl (by rfl)⟩
      case rel => exact ⟨_, _, _, _, _, _, _, _, _, _, _, (H.less (List.take_sublist 3 _)).setTo 1 rfl (by rfl)⟩
    · go_meet
      case rel => exact ⟨_, _, _, _, _, _, _, _, _, _, _, H.setTo 1 rfl (by rfl)⟩
    · skip
      refine (next_any 256 (by omega) B b _ (H.at 0 rfl)).mono ?_
      rintro _ w4 ⟨u, rfl, hu, hd, hg⟩
      replace H := (H).diceAt 0 rfl hg hd
      clear hg hd
      try clear C
      try simp only [World.size_alloc, List.nil_append, List.cons_append, List.append_assoc] at H
      try clear w1
      have C := H.cells
      try simp only [cellsOf, cellsM, apartOf, apartM, and_true] at C
      dsimp only
      go_wp2_with fail
      go_meet
      case rel => exact ⟨_, _, _, _, _, _, _, _, _, _, _, H.setTo 1 rfl (by rfl)⟩
    · go_meet
      case rel => exact ⟨_, _, _, _, _, _, _, _, _, _, _, H.setTo 1 rfl (by rfl)⟩
    · go_meet
      case rel => exact ⟨_, _, _, _, _, _, _, _, _, _, _, H.setTo 1 rfl (by rfl)⟩
    · skip
      refine (next_any 3 (by omega) B b _ (H.at 0 rfl)).mono ?_
      rintro _ w5 ⟨u, rfl, hu, hd, hg⟩
      replace H := (H).diceAt 0 rfl hg hd
      clear hg hd
      try clear C
      try simp only [World.size_alloc, List.nil_append, List.cons_append, List.append_assoc] at H
      try clear w1
      have C := H.cells
      try simp only [cellsOf, cellsM, apartOf, apartM, and_true] at C
      dsimp only
      go_wp2_with fail
      go_meet
      case rel => exact ⟨_, _, _, _, _, _, _, _, _, _, _, H.setTo 1 rfl (by rfl)⟩
  case rest =>
    clear H C
    obtain ⟨k', p0', p1', p2', p3', p4', p5', ch', ms', vl', hard', H⟩ := hcut
    skip
    try clear C
    try simp only [World.size_alloc, List.nil_append, List.cons_append, List.append_assoc] at H
    have C := H.cells
    try simp only [cellsOf, cellsM, apartOf, apartM, and_true] at C
    have zR : w.heap.size ≤ bR := (H.own _ (List.mem_of_getElem? (i := 2) rfl) bR rfl).resolve_right (fun e => by simp [OneD, *] at e)
    go_wp2_with fail
    refine bodyPost_ret (v := vF k' p0' p1' p2' p3' p4' p5' ch' ms' vl' hard') (by simp [results, Tryd.results35, go_sem, *]) rfl ?_
    refine ⟨_, _, _, _, _, _, _, _, _, _, _, rfl, ?_, ?_⟩
    · repeat refine Dice.setCell ?_ (by simp; omega) (by simp [*]) _
      exact H.at 0 rfl
    · repeat refine Chg.setCell ?_ (.inr (by simp; omega)) _
      exact H.doneDice
end Go.Proofs.YtplflpmkomeadaaDoor
