/- made.(*Dice).Fault and OddFault: some fault. -/
import Derived.Test.YtplflpmkomeadaaDoorK1
import Derived.Test.YtplflpmkomeadaaDoorCov
import Derived.Test.YtplflpmkomeadaaDoorShape
import Derived.Deep.CutRange
import Derived.Deep.CutBlock
namespace Go.Proofs.YtplflpmkomeadaaDoor
set_option linter.unusedSimpArgs false
set_option linter.unusedVariables false
open Go.RowKit
set_option maxRecDepth 100000
attribute [local go_sem] lt_more ne_more ne_more'
attribute [local irreducible] wpX wpF

def FaultPost (B b : Nat) (w : World) (e : Ending) (w' : World) : Prop :=
  ∃ (k f0 f1 f2 f3 f4 f5 ch ms vl : Int) (hd : Bool), e = .returned (vF k f0 f1 f2 f3 f4 f5 ch ms vl hd) ∧ Dice B w' b ∧ Chg b w w'

set_option maxHeartbeats 8000000 in
theorem fault_any {a0 a1 a2 a3 a4 a5 : Int} (h : SV a0 a1 a2 a3 a4 a5) (chips : Int) (hc : chips ≤ 1099511627776) (hard : Bool) (B b : Nat) (w : World) (hd : Dice B w b) (hB : B ≤ w.heap.size) :
    Calls Tryd.prog 13 #[.pointer (some ⟨b, 0, none⟩), v6 a0 a1 a2 a3 a4 a5, .int .i64 chips, .bool hard] w (FaultPost B b w) := by
  have HS' := Lib.hid h
  have HC := Lib.hid hc
  clear h hc
  go_enter Tryd.func13, Tryd.ntmps13
  have H := HS.startDice hd hB
  have C := H.cells
  try simp only [cellsOf, cellsM, apartOf, apartM, and_true] at C
  clear hd
  go_wp2_with fail
  refine wp_region_fH (by kernel_rfl) [0, 1, 2, 3, 4, 5, 6, 7, 8, 9, 10, 11, 12, 13, 14, 15, 16] (by kernel_rfl) (by kernel_rfl) (by kernel_rfl) (OneD b) (H.alloc.alloc) ?_
  clear H; intro w1 H hz0
  try clear C
  try simp only [World.size_alloc, List.nil_append, List.cons_append, List.append_assoc] at H hz0 ⊢
  generalize w.heap.size + 1 = bR at H hz0 ⊢
  generalize w.heap.size = bS at H hz0 ⊢
  clear hz0
  have C := H.cells
  try simp only [cellsOf, cellsM, apartOf, apartM, and_true] at C
  simp only [List.filterMap_cons, List.filterMap_nil, List.getElem?_toArray, List.getElem?_cons_zero, List.getElem?_cons_succ]
  (refine wpF_free rfl rfl rfl (fun _ _ => ?_); go_step; go_step)
  (refine wpF_call rfl rfl (fun wc hc _ _ => ?_); go_step; refine (next_any 6 (by omega) B b _ (hc.inv.at 0 rfl)).mono ?_; rintro _ wd ⟨v0, rfl, hv0, hd, hg⟩; dsimp only; go_step; refine ⟨hc.chgS hg rfl (Dice.lt (H.at 0 rfl)) (hc.inv.diceAt 0 rfl hg hd), hc.chgK hg (Dice.lt (H.at 0 rfl)), ?_⟩; clear hg hd hc wc wd)
  (refine wpF_free rfl rfl rfl (fun _ _ => ?_); go_step; go_step)
  (refine wpF_free rfl rfl rfl (fun _ _ => ?_); go_step; go_step)
  (refine wpF_load rfl rfl rfl (by simp [Stay, OneD, NoD, *]) (by simp [*]) (fun _ _ => ?_); go_step; go_step)
  (refine wpF_call rfl rfl (fun wc hc _ _ => ?_); go_step; refine (place_any HS'.out B b _ (hc.inv.at 0 rfl)).mono ?_; rintro _ wd ⟨p0, p1, p2, p3, p4, p5, rfl, hp, hd, hg⟩; dsimp only; go_step; refine ⟨hc.chgS hg rfl (Dice.lt (H.at 0 rfl)) (hc.inv.diceAt 0 rfl hg hd), hc.chgK hg (Dice.lt (H.at 0 rfl)), ?_⟩; clear hg hd hc wc wd)
  (refine wpF_free rfl rfl rfl (fun _ _ => ?_); go_step; go_step)
  (refine wpF_free rfl rfl rfl (fun _ _ => ?_); go_step; go_step)
  (refine wpF_call rfl rfl (fun wc hc _ _ => ?_); go_step; refine (next_any chips HC.out B b _ (hc.inv.at 0 rfl)).mono ?_; rintro _ wd ⟨v2, rfl, hv2, hd, hg⟩; dsimp only; go_step; refine ⟨hc.chgS hg rfl (Dice.lt (H.at 0 rfl)) (hc.inv.diceAt 0 rfl hg hd), hc.chgK hg (Dice.lt (H.at 0 rfl)), ?_⟩; clear hg hd hc wc wd)
  (refine wpF_free rfl rfl rfl (fun _ _ => ?_); go_step; go_step)
  (refine wpF_call rfl rfl (fun wc hc _ _ => ?_); go_step; refine (next_any 255 (by omega) B b _ (hc.inv.at 0 rfl)).mono ?_; rintro _ wd ⟨v3, rfl, hv3, hd, hg⟩; dsimp only; go_step; refine ⟨hc.chgS hg rfl (Dice.lt (H.at 0 rfl)) (hc.inv.diceAt 0 rfl hg hd), hc.chgK hg (Dice.lt (H.at 0 rfl)), ?_⟩; clear hg hd hc wc wd)
  (refine wpF_free rfl rfl rfl (fun _ _ => ?_); go_step; go_step)
  (refine wpF_free rfl rfl rfl (fun _ _ => ?_); go_step; go_step)
  (refine wpF_free rfl rfl rfl (fun _ _ => ?_); go_step; go_step)
  (refine wpF_free rfl rfl rfl (fun _ _ => ?_); go_step; go_step)
  (refine wpF_float rfl rfl #[.int .i64 0, .int .i64 0, .int .i64 0, .int .i64 0, .int .i64 0, .int .i64 0, .int .i64 0, .int .i64 0, .int .u8 0, .int .u8 0, .bool false]   38 (fun w => by kernel_rfl) (fun bQ hbQ nbQ _ _ => ?_); go_simp; go_step)
  (refine wpF_store (cs := #[.int .i64 _, .int .i64 p0, .int .i64 p1, .int .i64 p2, .int .i64 p3, .int .i64 p4, .int .i64 p5, .int .i64 v2, .int .u8 _, .int .u8 0, .bool hard]) rfl rfl rfl rfl (Fl.at _ _ _) rfl (by kernel_rfl) rfl rfl (fun _ _ => ?_); go_simp; go_step)
  refine wpF_nil ?_
  intro w2 hC
  replace H := H.floats1 hC (Fl.at _ _ _)
  clear hC C hbQ nbQ w1
  try simp only [List.nil_append, List.cons_append, List.append_assoc] at H
  have C := H.cells
  try simp only [cellsOf, cellsM, apartOf, apartM, and_true] at C
  go_step
  go_step
  replace H := H.less (L' := [.dice _ _, .blk bR _ _, .blk bQ _ _]) (by repeat (first | exact .slnil | refine .cons_cons _ ?_ | refine .cons _ ?_))
  try clear C
  obtain ⟨k, hk⟩ : ∃ k, k = wrap64 (1 + v0) := ⟨_, rfl⟩
  obtain ⟨m, hm⟩ : ∃ m, m = wrap64 (1 + v3) % 256 := ⟨_, rfl⟩
  rw [← hk, ← hm] at H
  clear hk hm hv0 hv2 hv3 hp
  try clear C
  try simp only [World.size_alloc, List.nil_append, List.cons_append, List.append_assoc] at H
  have C := H.cells
  try simp only [cellsOf, cellsM, apartOf, apartM, and_true] at C
  go_step
  go_cut [] from 10 to 31 (fun wx => ∃ m : Int, HS (OneD b) w [.dice B b, .blk bR #[.int .i64 0, .int .i64 0, .int .i64 0, .int .i64 0, .int .i64 0, .int .i64 0, .int .i64 0, .int .i64 0, .int .u8 0, .int .u8 0, .bool false] 38, .blk bQ #[.int .i64 k, .int .i64 p0, .int .i64 p1, .int .i64 p2, .int .i64 p3, .int .i64 p4, .int .i64 p5, .int .i64 v2, .int .u8 m, .int .u8 0, .bool hard] 38] wx)
  case first =>
    go_wp2_with fail
    refine (one_any 2 (by omega) (by omega) B b _ (H.at 0 rfl)).mono ?_
    rintro _ w3 ⟨c, rfl, hd, hg⟩
    replace H := (H).diceAt 0 rfl hg hd
    clear hg hd
    try clear C
    try simp only [World.size_alloc, List.nil_append, List.cons_append, List.append_assoc] at H
    try clear w2
    have C := H.cells
    try simp only [cellsOf, cellsM, apartOf, apartM, and_true] at C
    dsimp only
    cases c
    all_goals go_wp2_with fail
    · go_meet
      case rel => exact ⟨m, H⟩
    · refine (next_any 8 (by omega) B b _ (H.at 0 rfl)).mono ?_
      rintro _ w4 ⟨v4, rfl, hv4, hd, hg⟩
      replace H := (H).diceAt 0 rfl hg hd
      clear hg hd
      try clear C
      try simp only [World.size_alloc, List.nil_append, List.cons_append, List.append_assoc] at H
      try clear w3
      have C := H.cells
      try simp only [cellsOf, cellsM, apartOf, apartM, and_true] at C
      dsimp only
      go_wp2_with fail
      go_meet
      case rel => exact ⟨_, H.setTo 2 rfl (by rfl)⟩
  case rest =>
    clear H C m
    obtain ⟨m, H⟩ := hcut
    skip
    try clear C
    try simp only [World.size_alloc, List.nil_append, List.cons_append, List.append_assoc] at H
    have C := H.cells
    try simp only [cellsOf, cellsM, apartOf, apartM, and_true] at C
    go_step
    go_step
    go_cut [] from 25 to 39 (fun wx => ∃ vl : Int, HS (OneD b) w [.dice B b, .blk bR #[.int .i64 0, .int .i64 0, .int .i64 0, .int .i64 0, .int .i64 0, .int .i64 0, .int .i64 0, .int .i64 0, .int .u8 0, .int .u8 0, .bool false] 38, .blk bQ #[.int .i64 k, .int .i64 p0, .int .i64 p1, .int .i64 p2, .int .i64 p3, .int .i64 p4, .int .i64 p5, .int .i64 v2, .int .u8 m, .int .u8 vl, .bool hard] 38] wx)
    case first =>
      cases hard
      all_goals go_wp2_with fail
      · go_meet
        case rel => exact ⟨0, H⟩
      · refine wp_region_sH (by kernel_rfl) (by kernel_rfl) (by kernel_rfl) (by kernel_rfl) (fun w => w.cell? ⟨bQ, 8, none⟩ = some (.int .u8 m)) (H) (fun w0 H => (Blk.cell (H.at 2 rfl) 8).trans rfl) ?_
        clear H; intro w5 h0 H hz0
        try clear C
        try simp only [World.size_alloc, List.nil_append, List.cons_append, List.append_assoc] at H hz0
        clear hz0
        try clear wc
        have C := H.cells
        try simp only [cellsOf, cellsM, apartOf, apartM, and_true] at C
        (refine wpX_free rfl rfl rfl (fun K hK => ?_); go_step; refine hK _ _ ?_; clear hK K)
        refine wpX_eff rfl rfl (fun _ _ => ?_)
        go_step
        refine (next_any 256 (by omega) B b _ (H.at 0 rfl)).mono ?_
        rintro _ w6 ⟨v5, rfl, hv5, hd, hg⟩
        replace H := H.diceAt 0 rfl hg hd
        clear hg hd
        try clear C
        have C := H.cells
        try simp only [cellsOf, cellsM, apartOf, apartM, and_true] at C
        try clear w5
        dsimp only
        go_step
        refine ⟨(Blk.cell (H.at 2 rfl) 8).trans rfl, ?_⟩
        (refine wpX_free rfl rfl rfl (fun K hK => ?_); go_step; refine hK _ _ ?_; clear hK K)
        (refine wpX_free rfl rfl rfl (fun K hK => ?_); go_step; refine hK _ _ ?_; clear hK K)
        (refine wpX_yield rfl rfl (.int .u8 m) (fun w (hw : w.cell? ⟨bQ, 8, none⟩ = some (.int .u8 m)) => by go_simp) ?_; go_simp)
        (refine wpX_free rfl rfl rfl (fun K hK => ?_); go_step; refine hK _ _ ?_; clear hK K)
        (refine wpX_free rfl rfl rfl (fun K hK => ?_); go_step; refine hK _ _ ?_; clear hK K)
        (refine wpX_eff rfl rfl (fun _ _ => ?_); go_step; go_step; refine ⟨?_, ?_⟩)
        · exact (Blk.cell ((H.setAt 2 rfl).at 2 rfl) 8).trans rfl
        (refine wpX_nil ?_; go_step)
        go_wp2_with fail
        go_meet
        case rel => exact ⟨_, H.setTo 2 rfl (by rfl)⟩
    case rest =>
      clear H C
      obtain ⟨vl, H⟩ := hcut
      skip
      try clear C
      try simp only [World.size_alloc, List.nil_append, List.cons_append, List.append_assoc] at H
      have C := H.cells
      try simp only [cellsOf, cellsM, apartOf, apartM, and_true] at C
      go_step
      go_step
      go_cut [] from 40 to 73 (fun wx => ∃ q2 q3 q4 q5 : Int, HS (OneD b) w [.dice B b, .blk bR #[.int .i64 0, .int .i64 0, .int .i64 0, .int .i64 0, .int .i64 0, .int .i64 0, .int .i64 0, .int .i64 0, .int .u8 0, .int .u8 0, .bool false] 38, .blk bQ #[.int .i64 k, .int .i64 p0, .int .i64 p1, .int .i64 q2, .int .i64 q3, .int .i64 q4, .int .i64 q5, .int .i64 v2, .int .u8 m, .int .u8 vl, .bool hard] 38] wx)
      case first =>
        go_wp2_with fail
        all_goals go_meet
        case rel => exact ⟨_, _, _, _, H.setTo 2 rfl (by rfl)⟩
        case rel => exact ⟨_, _, _, _, H.setTo 2 rfl (by rfl)⟩
        case rel => exact ⟨_, _, _, _, (H.setAt 2 rfl).setTo 2 rfl (by rfl)⟩
        case rel => exact ⟨_, _, _, _, ((H.setAt 2 rfl).setAt 2 rfl).setTo 2 rfl (by rfl)⟩
        case rel => exact ⟨_, _, _, _, (((H.setAt 2 rfl).setAt 2 rfl).setAt 2 rfl).setTo 2 rfl (by rfl)⟩
        case rel => exact ⟨_, _, _, _, H⟩
      case rest =>
        clear H C
        obtain ⟨q2, q3, q4, q5, H⟩ := hcut
        skip
        try clear C
        try simp only [World.size_alloc, List.nil_append, List.cons_append, List.append_assoc] at H
        have C := H.cells
        try simp only [cellsOf, cellsM, apartOf, apartM, and_true] at C
        have zR : w.heap.size ≤ bR := (H.own _ (List.mem_of_getElem? (i := 1) rfl) bR rfl).resolve_right (fun e => by simp [OneD, *] at e)
        go_wp2_with fail
        refine bodyPost_ret (v := vF k p0 p1 q2 q3 q4 q5 v2 m vl hard) (by simp [results, Tryd.results13, go_sem, *]) rfl ?_
        refine ⟨_, _, _, _, _, _, _, _, _, _, _, rfl, ?_, ?_⟩
        · repeat refine Dice.setCell ?_ (by simp; omega) (by simp [*]) _
          exact H.at 0 rfl
        · repeat refine Chg.setCell ?_ (.inr (by simp; omega)) _
          exact H.doneDice
end Go.Proofs.YtplflpmkomeadaaDoor
