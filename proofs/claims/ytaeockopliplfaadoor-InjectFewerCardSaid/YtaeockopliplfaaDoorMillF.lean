/- The mill: a shape; a fault of a shape. -/
import Derived.Test.YtaeockopliplfaaDoorLit
import Derived.Test.YtaeockopliplfaaDoorOwn
import Derived.Test.YtaeockopliplfaaDoorCov
import Derived.Test.YtaeockopliplfaaDoorShape
import Derived.Test.YtaeockopliplfaaDoorSet
import Derived.Deep.CutRange
import Derived.Deep.CutBlock
namespace Go.Proofs.YtaeockopliplfaaDoor
set_option linter.unusedSimpArgs false
set_option linter.unusedVariables false
open Go.RowKit
set_option maxRecDepth 100000
attribute [local go_sem] lt_more ne_more ne_more'
attribute [local irreducible] wpX wpF wpG Calls

/-- What mill.Shape makes. -/
structure MS (s0 s1 s2 s4 : Int) : Prop where
  h0 : 0 ≤ s0 ∧ s0 < 2
  h1 : 0 ≤ s1 ∧ s1 < 2
  h2 : 0 ≤ s2 ∧ s2 < 2
  h4 : 1 ≤ s4 ∧ s4 ≤ 3
theorem MS.sv {s0 s1 s2 s4 : Int} (h : MS s0 s1 s2 s4) : SV s0 s1 s2 1 s4 2 := by
  obtain ⟨h0, h1, h2, h4⟩ := h
  constructor <;> omega
def MSPost (B b : Nat) (w : World) (e : Ending) (w' : World) : Prop :=
  ∃ s0 s1 s2 s4, e = .returned (v6 s0 s1 s2 1 s4 2) ∧ MS s0 s1 s2 s4 ∧ Dice B w' b ∧ Chg b w w'
theorem mshape_any (B b : Nat) (w : World) (hd : Dice B w b) (hB : B ≤ w.heap.size) : Calls Tryd.prog 29 #[.pointer (some ⟨b, 0, none⟩)] w (MSPost B b w) := by
  go_enter Tryd.func29, Tryd.ntmps29
  have H := HS.startDice hd hB
  have C := H.cells
  try simp only [cellsOf, apartOf, and_true] at C
  clear hd
  go_wp2_with fail
  refine (next_any 2 (by omega) B b _ (H.alloc.at 0 rfl)).mono ?_
  rintro _ w1 ⟨s0, rfl, hs0, hd, hg⟩
  replace H := (H.alloc).diceAt 0 rfl hg hd
  clear hg hd
  try clear C
  try simp only [World.size_alloc, List.nil_append, List.cons_append, List.append_assoc] at H
  generalize w.heap.size = bR at H ⊢
  have C := H.cells
  try simp only [cellsOf, apartOf, and_true] at C
  dsimp only
  replace hs0 : 0 ≤ s0 ∧ s0 < 2 := ⟨hs0.1, hs0.lt (by decide)⟩
  go_wp2_with fail
  refine (next_any 2 (by omega) B b _ (H.at 0 rfl)).mono ?_
  rintro _ w2 ⟨s1, rfl, hs1, hd, hg⟩
  replace H := (H).diceAt 0 rfl hg hd
  clear hg hd
  try clear C
  try simp only [World.size_alloc, List.nil_append, List.cons_append, List.append_assoc] at H
  try clear w1
  have C := H.cells
  try simp only [cellsOf, apartOf, and_true] at C
  dsimp only
  replace hs1 : 0 ≤ s1 ∧ s1 < 2 := ⟨hs1.1, hs1.lt (by decide)⟩
  go_wp2_with fail
  refine (next_any 2 (by omega) B b _ (H.at 0 rfl)).mono ?_
  rintro _ w3 ⟨s2, rfl, hs2, hd, hg⟩
  replace H := (H).diceAt 0 rfl hg hd
  clear hg hd
  try clear C
  try simp only [World.size_alloc, List.nil_append, List.cons_append, List.append_assoc] at H
  try clear w2
  have C := H.cells
  try simp only [cellsOf, apartOf, and_true] at C
  dsimp only
  replace hs2 : 0 ≤ s2 ∧ s2 < 2 := ⟨hs2.1, hs2.lt (by decide)⟩
  go_wp2_with fail
  refine (next_any 2 (by omega) B b _ (H.at 0 rfl)).mono ?_
  rintro _ w4 ⟨s3, rfl, hs3, hd, hg⟩
  replace H := (H).diceAt 0 rfl hg hd
  clear hg hd
  try clear C
  try simp only [World.size_alloc, List.nil_append, List.cons_append, List.append_assoc] at H
  try clear w3
  have C := H.cells
  try simp only [cellsOf, apartOf, and_true] at C
  dsimp only
  have hq : s3.tdiv 2 = 0 := by
    have h1 := hs3.1
    have h2 := hs3.lt (by decide)
    rcases (show s3 = 0 ∨ s3 = 1 by omega) with rfl | rfl <;> rfl
  clear hs3
  go_wp2_with fail
  refine (next_any 3 (by omega) B b _ (H.at 0 rfl)).mono ?_
  rintro _ w5 ⟨s4, rfl, hs4, hd, hg⟩
  replace H := (H).diceAt 0 rfl hg hd
  clear hg hd
  try clear C
  try simp only [World.size_alloc, List.nil_append, List.cons_append, List.append_assoc] at H
  try clear w4
  have C := H.cells
  try simp only [cellsOf, apartOf, and_true] at C
  dsimp only
  replace hs4 : 0 ≤ s4 ∧ s4 < 3 := ⟨hs4.1, hs4.lt (by decide)⟩
  go_wp2_with fail
  generalize hwb : (((((w5.setCell _ _).setCell _ _).setCell _ _).setCell _ _).setCell _ _).setCell _ _ = w6
  replace H := HS.eqW hwb (H.putAll (i := 1) rfl (vs := [.int .i64 s0, .int .i64 s1, .int .i64 s2, .int .i64 1, .int .i64 (1 + s4), .int .i64 2]) rfl rfl)
  simp only [List.nil_append, List.cons_append, List.append_assoc, List.set_cons_succ, List.set_cons_zero] at H
  clear hwb
  try clear C
  try clear w5
  have C := H.cells
  try simp only [cellsOf, apartOf, and_true] at C
  refine bodyPost_ret (by simp [results, Tryd.results29, go_sem, C]; try rfl) rfl ?_
  exact ⟨s0, s1, s2, 1 + s4, rfl, ⟨hs0, hs1, hs2, by omega⟩, H.at 0 rfl, H.doneDice⟩

/-- What mill.Fault makes. -/
structure MF (a0 a1 a2 a3 a4 a5 chips k p0 p1 p2 p3 p4 p5 ch ms : Int) : Prop where
  k : 1 ≤ k ∧ k ≤ 6
  pv : PV a0 a1 a2 a3 a4 a5 p0 p1 p2 p3 p4 p5
  ch : 0 ≤ ch ∧ ch < chips
  ms : 0 ≤ ms ∧ ms < 256
def MFPost (a0 a1 a2 a3 a4 a5 chips : Int) (B b : Nat) (w : World) (e : Ending) (w' : World) : Prop :=
  ∃ (k f0 f1 f2 f3 f4 f5 ch ms vl : Int) (hd : Bool), e = .returned (vF k f0 f1 f2 f3 f4 f5 ch ms vl hd) ∧ MF a0 a1 a2 a3 a4 a5 chips k f0 f1 f2 f3 f4 f5 ch ms ∧ Dice B w' b ∧ Chg b w w'
theorem kinds_at (j : Nat) (hj : j < 9) : ∃ k : Int, (#[.int .i64 1, .int .i64 1, .int .i64 1, .int .i64 2, .int .i64 2, .int .i64 3, .int .i64 4, .int .i64 5, .int .i64 6] : Array Value)[j]? = some (.int .i64 k) ∧ 1 ≤ k ∧ k ≤ 6 := by
  have : j = 0 ∨ j = 1 ∨ j = 2 ∨ j = 3 ∨ j = 4 ∨ j = 5 ∨ j = 6 ∨ j = 7 ∨ j = 8 := by omega
  rcases this with rfl | rfl | rfl | rfl | rfl | rfl | rfl | rfl | rfl <;> exact ⟨_, rfl, by decide, by decide⟩
theorem PV.zeros {a0 a1 a2 a3 a4 a5 p0 p1 p2 p3 p4 p5 q2 q3 q4 q5 : Int} (h : PV a0 a1 a2 a3 a4 a5 p0 p1 p2 p3 p4 p5) (h2 : q2 = 0 ∨ q2 = p2) (h3 : q3 = 0 ∨ q3 = p3) (h4 : q4 = 0 ∨ q4 = p4) (h5 : q5 = 0 ∨ q5 = p5) : PV a0 a1 a2 a3 a4 a5 p0 p1 q2 q3 q4 q5 := by
  have z : ∀ {a p q : Int}, (0 ≤ p ∧ p < 2 ^ a.toNat) → (q = 0 ∨ q = p) → 0 ≤ q ∧ q < 2 ^ a.toNat := fun {a p q} h e => by
    have := pw_pos a
    rcases e with rfl | rfl
    · exact ⟨Int.le_refl _, by omega⟩
    · exact h
  exact ⟨h.h0, h.h1, z h.h2 h2, z h.h3 h3, z h.h4 h4, z h.h5 h5⟩

set_option maxHeartbeats 8000000 in
theorem mfault_any {a0 a1 a2 a3 a4 a5 : Int} (h : SV a0 a1 a2 a3 a4 a5) (chips : Int) (hc : chips ≤ 1000) (hc1 : 1 ≤ chips) (B b : Nat) (w : World) (hd : Dice B w b) (hB : B ≤ w.heap.size) :
    Calls Tryd.prog 40 #[.pointer (some ⟨b, 0, none⟩), v6 a0 a1 a2 a3 a4 a5, .int .i64 chips] w (MFPost a0 a1 a2 a3 a4 a5 chips B b w) := by
  have HS' := Lib.hid h
  have HC := Lib.hid hc
  have HC1 := Lib.hid hc1
  clear h hc hc1
  go_enter Tryd.func40, Tryd.ntmps40
  have H := HS.startDice hd hB
  have C := H.cells
  try simp only [cellsOf, apartOf, and_true] at C
  clear hd
  go_wp2_with fail
  refine wp_region_gH (by kernel_rfl) [1, 2, 5, 6, 7, 8, 9, 10, 11, 12, 13, 14, 15, 16, 17, 0, 3, 4, 18, 19, 20] (by kernel_rfl) (by kernel_rfl) (by kernel_rfl) (OneD b) (H.alloc.alloc) ?_
  clear H; intro w1 H hz0
  try clear C
  try simp only [World.size_alloc, List.nil_append, List.cons_append, List.append_assoc] at H hz0 ⊢
  generalize w.heap.size + 1 = bR at H hz0 ⊢
  generalize w.heap.size = bS at H hz0 ⊢
  clear hz0
  have C := H.cells
  try simp only [cellsOf, apartOf, and_true] at C
  simp only [List.filterMap_cons, List.filterMap_nil, List.getElem?_toArray, List.getElem?_cons_zero, List.getElem?_cons_succ]
  (refine wpG_free rfl rfl rfl (fun _ _ => ?_); go_step; go_step)
  (refine wpG_call rfl rfl (fun wc hc _ _ => ?_); go_step; refine (next_any 9 (by omega) B b _ (hc.inv.at 0 rfl)).mono ?_; rintro _ wd ⟨v0, rfl, hv0, hd, hg⟩; dsimp only; go_step; refine ⟨hc.chgS hg rfl (Dice.lt (H.at 0 rfl)) (hc.inv.diceAt 0 rfl hg hd), hc.chgK hg (Dice.lt (H.at 0 rfl)), ?_⟩; clear hg hd hc wc wd)
  (refine wpG_free rfl rfl rfl (fun _ _ => ?_); go_step; go_step)
  (refine wpG_load rfl rfl rfl (by simp [Stay, OneD, NoD, *]) (by simp [*]) (fun _ _ => ?_); go_step; go_step)
  (refine wpG_call rfl rfl (fun wc hc _ _ => ?_); go_step; refine (place_any HS'.out B b _ (hc.inv.at 0 rfl)).mono ?_; rintro _ wd ⟨p0, p1, p2, p3, p4, p5, rfl, hp, hd, hg⟩; dsimp only; go_step; refine ⟨hc.chgS hg rfl (Dice.lt (H.at 0 rfl)) (hc.inv.diceAt 0 rfl hg hd), hc.chgK hg (Dice.lt (H.at 0 rfl)), ?_⟩; clear hg hd hc wc wd)
  (refine wpG_free rfl rfl rfl (fun _ _ => ?_); go_step; go_step)
  (refine wpG_free rfl rfl rfl (fun _ _ => ?_); go_step; go_step)
  (refine wpG_call rfl rfl (fun wc hc _ _ => ?_); go_step; refine (next_any chips (by have := HC.out; omega) B b _ (hc.inv.at 0 rfl)).mono ?_; rintro _ wd ⟨v2, rfl, hv2, hd, hg⟩; dsimp only; go_step; refine ⟨hc.chgS hg rfl (Dice.lt (H.at 0 rfl)) (hc.inv.diceAt 0 rfl hg hd), hc.chgK hg (Dice.lt (H.at 0 rfl)), ?_⟩; clear hg hd hc wc wd)
  (refine wpG_free rfl rfl rfl (fun _ _ => ?_); go_step; go_step)
  (refine wpG_call rfl rfl (fun wc hc _ _ => ?_); go_step; refine (next_any 255 (by omega) B b _ (hc.inv.at 0 rfl)).mono ?_; rintro _ wd ⟨v3, rfl, hv3, hd, hg⟩; dsimp only; go_step; refine ⟨hc.chgS hg rfl (Dice.lt (H.at 0 rfl)) (hc.inv.diceAt 0 rfl hg hd), hc.chgK hg (Dice.lt (H.at 0 rfl)), ?_⟩; clear hg hd hc wc wd)
  (refine wpG_free rfl rfl rfl (fun _ _ => ?_); go_step; go_step)
  (refine wpG_free rfl rfl rfl (fun _ _ => ?_); go_step; go_step)
  (refine wpG_free rfl rfl rfl (fun _ _ => ?_); go_step; go_step)
  (refine wpG_call rfl rfl (fun wc hc _ _ => ?_); go_step; refine (next_any 2 (by omega) B b _ (hc.inv.at 0 rfl)).mono ?_; rintro _ wd ⟨v4, rfl, hv4, hd, hg⟩; dsimp only; go_step; refine ⟨hc.chgS hg rfl (Dice.lt (H.at 0 rfl)) (hc.inv.diceAt 0 rfl hg hd), hc.chgK hg (Dice.lt (H.at 0 rfl)), ?_⟩; clear hg hd hc wc wd)
  (refine wpG_free rfl rfl rfl (fun _ _ => ?_); go_step; go_step)
  (refine wpG_lit rfl rfl #[.int .i64 1, .int .i64 1, .int .i64 1, .int .i64 2, .int .i64 2, .int .i64 3, .int .i64 4, .int .i64 5, .int .i64 6]   3 9 (fun w => by kernel_rfl) (fun bL hbL nbL _ _ => ?_); go_simp; go_step)
  obtain ⟨j, rfl⟩ : ∃ j : Nat, v0 = j := ⟨v0.toNat, by have := hv0.1; omega⟩
  have hj : j < 9 := by have := hv0.lt (by omega); omega
  obtain ⟨k, hk, hk1, hk6⟩ := kinds_at j hj
  have hjl : ((j : Nat) : Int) < 9 := by omega
  (refine wpG_free rfl rfl rfl (fun _ _ => ?_); go_step; go_step)
  (refine wpG_look rfl rfl rfl (fun _ => by kernel_rfl) (Fl.at _ _ _ ) ( hk) (fun _ _ => ?_); go_simp; go_step)
  (refine wpG_free rfl rfl rfl (fun _ _ => ?_); go_step; go_step)
  (refine wpG_float rfl rfl #[.int .i64 0, .int .i64 0, .int .i64 0, .int .i64 0, .int .i64 0, .int .i64 0, .int .i64 0, .int .i64 0, .int .u8 0, .int .u8 0, .bool false]   44 (fun w => by kernel_rfl) (fun bQ hbQ nbQ _ _ => ?_); go_simp; go_step)
  (refine wpG_store (cs := #[.int .i64 _, .int .i64 p0, .int .i64 p1, .int .i64 p2, .int .i64 p3, .int .i64 p4, .int .i64 p5, .int .i64 v2, .int .u8 _, .int .u8 0, .bool _]) rfl rfl rfl rfl (Fl.at _ _ _) rfl (by kernel_rfl) rfl rfl (fun _ _ => ?_); go_simp; go_step)
  refine wpG_nil ?_
  intro w2 hC
  replace H := H.floats1 hC (Fl.at _ _ _)
  clear hC C hbQ nbQ hbL nbL hk hj hjl w1
  try simp only [List.nil_append, List.cons_append, List.append_assoc] at H
  skip
  try clear C
  try simp only [World.size_alloc, List.nil_append, List.cons_append, List.append_assoc] at H
  have C := H.cells
  try simp only [cellsOf, apartOf, and_true] at C
  go_step
  go_step
  replace H := H.less (L' := [.dice _ _, .blk bR _ _, .blk bQ _ _]) (by repeat (first | exact .slnil | refine .cons_cons _ ?_ | refine .cons _ ?_))
  try clear C
  obtain ⟨m, hm⟩ : ∃ m, m = wrap64 (1 + v3) % 256 := ⟨_, rfl⟩
  have hmb : 0 ≤ m ∧ m < 256 := by rw [hm]; omega
  obtain ⟨hard, hhd⟩ : ∃ hard, hard = (v4 == 0) := ⟨_, rfl⟩
  have hp2 := Lib.hid hp
  have hv2' : 0 ≤ v2 ∧ v2 < chips := ⟨hv2.1, hv2.lt (by have := HC1.out; omega)⟩
  rw [← hm, ← hhd] at H
  clear hm hhd hv0 hv2 hv3 hv4 hp
  try clear C
  try simp only [World.size_alloc, List.nil_append, List.cons_append, List.append_assoc] at H
  have C := H.cells
  try simp only [cellsOf, apartOf, and_true] at C
  go_step
  go_cut [] from 28 to 36 (fun wx => ∃ vl : Int, HS (OneD b) w [.dice B b, .blk bR #[.int .i64 0, .int .i64 0, .int .i64 0, .int .i64 0, .int .i64 0, .int .i64 0, .int .i64 0, .int .i64 0, .int .u8 0, .int .u8 0, .bool false] 44, .blk bQ #[.int .i64 k, .int .i64 p0, .int .i64 p1, .int .i64 p2, .int .i64 p3, .int .i64 p4, .int .i64 p5, .int .i64 v2, .int .u8 m, .int .u8 vl, .bool hard] 44] wx)
  case first =>
    cases hard
    all_goals go_wp2_with fail
    · go_meet
      case rel => exact ⟨0, H⟩
    · refine wp_region_sH (by kernel_rfl) (by kernel_rfl) (by kernel_rfl) (by kernel_rfl) (fun w => w.cell? ⟨bQ, 8, none⟩ = some (.int .u8 m)) (H) (fun w0 H => (Blk.cell (H.at 2 rfl) 8).trans rfl) ?_
      clear H; intro w2 h0 H hz0
      try clear C
      try simp only [World.size_alloc, List.nil_append, List.cons_append, List.append_assoc] at H hz0
      clear hz0
      try clear w2
      have C := H.cells
      try simp only [cellsOf, apartOf, and_true] at C
      (refine wpX_free rfl rfl rfl (fun K hK => ?_); go_step; refine hK _ _ ?_; clear hK K)
      refine wpX_eff rfl rfl (fun _ _ => ?_)
      go_step
      refine (next_any 256 (by omega) B b _ (H.at 0 rfl)).mono ?_
      rintro _ w3 ⟨v5, rfl, hv5, hd, hg⟩
      replace H := H.diceAt 0 rfl hg hd
      clear hg hd
      try clear C
      have C := H.cells
      try simp only [cellsOf, apartOf, and_true] at C
      try clear w2
      dsimp only
      go_step
      refine ⟨(Blk.cell (H.at 2 rfl) 8).trans rfl, ?_⟩
      (refine wpX_free rfl rfl rfl (fun K hK => ?_); go_step; refine hK _ _ ?_; clear hK K)
      (refine wpX_free rfl rfl rfl (fun K hK => ?_); go_step; refine hK _ _ ?_; clear hK K)
      (refine wpX_yield rfl rfl (.int .u8 m) (fun w (hw : w.cell? ⟨bQ, 8, none⟩ = some (.int .u8 m)) => by go_simp) ?_; go_simp)
      (refine wpX_free rfl rfl rfl (fun K hK => ?_); go_step; refine hK _ _ ?_; clear hK K)
      (refine wpX_free rfl rfl rfl (fun K hK => ?_); go_step; refine hK _ _ ?_; clear hK K)
      (refine wpX_eff rfl rfl (fun _ _ => ?_); go_step; go_step; refine ⟨?_, ?_⟩)
      · exact (Blk.cell ((H.setAt 2 rfl).at 2 rfl) 8).trans rfl
      (refine wpX_nil ?_; go_step)
      go_wp2_with fail
      go_meet
      case rel => exact ⟨_, H.setTo 2 rfl (by rfl)⟩
  case rest =>
    clear H C
    obtain ⟨vl, H⟩ := hcut
    skip
    try clear C
    try simp only [World.size_alloc, List.nil_append, List.cons_append, List.append_assoc] at H
    have C := H.cells
    try simp only [cellsOf, apartOf, and_true] at C
    have hk : k = 1 ∨ k = 2 ∨ k = 3 ∨ k = 4 ∨ k = 5 ∨ k = 6 := by omega
    clear hk1 hk6
    rcases hk with rfl | rfl | rfl | rfl | rfl | rfl
    · go_upto_region 13 with fail
      have H2 : HS (OneD b) w [.dice B b, .blk bR #[.int .i64 0, .int .i64 0, .int .i64 0, .int .i64 0, .int .i64 0, .int .i64 0, .int .i64 0, .int .i64 0, .int .u8 0, .int .u8 0, .bool false] 44, .blk bQ #[.int .i64 1, .int .i64 p0, .int .i64 p1, .int .i64 p2, .int .i64 p3, .int .i64 p4, .int .i64 p5, .int .i64 v2, .int .u8 m, .int .u8 vl, .bool hard] 44] _ := H
      clear H C
      have H := H2
      clear H2
      skip
      have C := H.cells
      try simp only [cellsOf, apartOf, and_true] at C
      skip
      go_wp2_with fail
      generalize hwb : ((((((((((wc.setCell _ _).setCell _ _).setCell _ _).setCell _ _).setCell _ _).setCell _ _).setCell _ _).setCell _ _).setCell _ _).setCell _ _).setCell _ _ = w4
      replace H := HS.eqW hwb (H.putAll (i := 1) rfl (vs := [.int .i64 1, .int .i64 p0, .int .i64 p1, .int .i64 p2, .int .i64 p3, .int .i64 p4, .int .i64 p5, .int .i64 v2, .int .u8 m, .int .u8 vl, .bool hard]) rfl rfl)
      simp only [List.nil_append, List.cons_append, List.append_assoc, List.set_cons_succ, List.set_cons_zero] at H
      clear hwb
      try clear C
      try clear wc
      have C := H.cells
      try simp only [cellsOf, apartOf, and_true] at C
      refine bodyPost_ret (by simp [results, Tryd.results40, go_sem, C]; try rfl) rfl ?_
      exact ⟨_, _, _, _, _, _, _, _, _, _, _, rfl, ⟨by decide, hp2.out.zeros (by simp) (by simp) (by simp) (by simp), hv2', hmb⟩, H.at 0 rfl, H.doneDice⟩
    · go_upto_region 13 with fail
      have H2 : HS (OneD b) w [.dice B b, .blk bR #[.int .i64 0, .int .i64 0, .int .i64 0, .int .i64 0, .int .i64 0, .int .i64 0, .int .i64 0, .int .i64 0, .int .u8 0, .int .u8 0, .bool false] 44, .blk bQ #[.int .i64 2, .int .i64 p0, .int .i64 p1, .int .i64 p2, .int .i64 p3, .int .i64 p4, .int .i64 0, .int .i64 v2, .int .u8 m, .int .u8 vl, .bool hard] 44] _ := H.setTo 2 rfl (o := 6) (v := .int .i64 0) (by rfl)
      clear H C
      have H := H2
      clear H2
      generalize wc.setCell _ _ = wq at H ⊢
      have C := H.cells
      try simp only [cellsOf, apartOf, and_true] at C
      skip
      go_wp2_with fail
      generalize hwb : ((((((((((wq.setCell _ _).setCell _ _).setCell _ _).setCell _ _).setCell _ _).setCell _ _).setCell _ _).setCell _ _).setCell _ _).setCell _ _).setCell _ _ = w5
      replace H := HS.eqW hwb (H.putAll (i := 1) rfl (vs := [.int .i64 2, .int .i64 p0, .int .i64 p1, .int .i64 p2, .int .i64 p3, .int .i64 p4, .int .i64 0, .int .i64 v2, .int .u8 m, .int .u8 vl, .bool hard]) rfl rfl)
      simp only [List.nil_append, List.cons_append, List.append_assoc, List.set_cons_succ, List.set_cons_zero] at H
      clear hwb
      try clear C
      try clear wq
      have C := H.cells
      try simp only [cellsOf, apartOf, and_true] at C
      refine bodyPost_ret (by simp [results, Tryd.results40, go_sem, C]; try rfl) rfl ?_
      exact ⟨_, _, _, _, _, _, _, _, _, _, _, rfl, ⟨by decide, hp2.out.zeros (by simp) (by simp) (by simp) (by simp), hv2', hmb⟩, H.at 0 rfl, H.doneDice⟩
    · go_upto_region 13 with fail
      have H2 : HS (OneD b) w [.dice B b, .blk bR #[.int .i64 0, .int .i64 0, .int .i64 0, .int .i64 0, .int .i64 0, .int .i64 0, .int .i64 0, .int .i64 0, .int .u8 0, .int .u8 0, .bool false] 44, .blk bQ #[.int .i64 3, .int .i64 p0, .int .i64 p1, .int .i64 p2, .int .i64 p3, .int .i64 0, .int .i64 p5, .int .i64 v2, .int .u8 m, .int .u8 vl, .bool hard] 44] _ := H.setTo 2 rfl (o := 5) (v := .int .i64 0) (by rfl)
      clear H C
      have H := H2
      clear H2
      generalize wc.setCell _ _ = wq at H ⊢
      have C := H.cells
      try simp only [cellsOf, apartOf, and_true] at C
      skip
      go_wp2_with fail
      generalize hwb : ((((((((((wq.setCell _ _).setCell _ _).setCell _ _).setCell _ _).setCell _ _).setCell _ _).setCell _ _).setCell _ _).setCell _ _).setCell _ _).setCell _ _ = w6
      replace H := HS.eqW hwb (H.putAll (i := 1) rfl (vs := [.int .i64 3, .int .i64 p0, .int .i64 p1, .int .i64 p2, .int .i64 p3, .int .i64 0, .int .i64 p5, .int .i64 v2, .int .u8 m, .int .u8 vl, .bool hard]) rfl rfl)
      simp only [List.nil_append, List.cons_append, List.append_assoc, List.set_cons_succ, List.set_cons_zero] at H
      clear hwb
      try clear C
      try clear wq
      have C := H.cells
      try simp only [cellsOf, apartOf, and_true] at C
      refine bodyPost_ret (by simp [results, Tryd.results40, go_sem, C]; try rfl) rfl ?_
      exact ⟨_, _, _, _, _, _, _, _, _, _, _, rfl, ⟨by decide, hp2.out.zeros (by simp) (by simp) (by simp) (by simp), hv2', hmb⟩, H.at 0 rfl, H.doneDice⟩
    · go_upto_region 13 with fail
      have H2 : HS (OneD b) w [.dice B b, .blk bR #[.int .i64 0, .int .i64 0, .int .i64 0, .int .i64 0, .int .i64 0, .int .i64 0, .int .i64 0, .int .i64 0, .int .u8 0, .int .u8 0, .bool false] 44, .blk bQ #[.int .i64 4, .int .i64 p0, .int .i64 p1, .int .i64 p2, .int .i64 p3, .int .i64 0, .int .i64 0, .int .i64 v2, .int .u8 m, .int .u8 vl, .bool hard] 44] _ := (H.setAt 2 rfl (o := 6) (v := .int .i64 0)).setTo 2 rfl (o := 5) (v := .int .i64 0) (by rfl)
      clear H C
      have H := H2
      clear H2
      generalize (wc.setCell _ _).setCell _ _ = wq at H ⊢
      have C := H.cells
      try simp only [cellsOf, apartOf, and_true] at C
      skip
      go_wp2_with fail
      generalize hwb : ((((((((((wq.setCell _ _).setCell _ _).setCell _ _).setCell _ _).setCell _ _).setCell _ _).setCell _ _).setCell _ _).setCell _ _).setCell _ _).setCell _ _ = w7
      replace H := HS.eqW hwb (H.putAll (i := 1) rfl (vs := [.int .i64 4, .int .i64 p0, .int .i64 p1, .int .i64 p2, .int .i64 p3, .int .i64 0, .int .i64 0, .int .i64 v2, .int .u8 m, .int .u8 vl, .bool hard]) rfl rfl)
      simp only [List.nil_append, List.cons_append, List.append_assoc, List.set_cons_succ, List.set_cons_zero] at H
      clear hwb
      try clear C
      try clear wq
      have C := H.cells
      try simp only [cellsOf, apartOf, and_true] at C
      refine bodyPost_ret (by simp [results, Tryd.results40, go_sem, C]; try rfl) rfl ?_
      exact ⟨_, _, _, _, _, _, _, _, _, _, _, rfl, ⟨by decide, hp2.out.zeros (by simp) (by simp) (by simp) (by simp), hv2', hmb⟩, H.at 0 rfl, H.doneDice⟩
    · go_upto_region 13 with fail
      have H2 : HS (OneD b) w [.dice B b, .blk bR #[.int .i64 0, .int .i64 0, .int .i64 0, .int .i64 0, .int .i64 0, .int .i64 0, .int .i64 0, .int .i64 0, .int .u8 0, .int .u8 0, .bool false] 44, .blk bQ #[.int .i64 5, .int .i64 p0, .int .i64 p1, .int .i64 p2, .int .i64 0, .int .i64 0, .int .i64 0, .int .i64 v2, .int .u8 m, .int .u8 vl, .bool hard] 44] _ := ((H.setAt 2 rfl (o := 6) (v := .int .i64 0)).setAt 2 rfl (o := 5) (v := .int .i64 0)).setTo 2 rfl (o := 4) (v := .int .i64 0) (by rfl)
      clear H C
      have H := H2
      clear H2
      generalize ((wc.setCell _ _).setCell _ _).setCell _ _ = wq at H ⊢
      have C := H.cells
      try simp only [cellsOf, apartOf, and_true] at C
      skip
      go_wp2_with fail
      generalize hwb : ((((((((((wq.setCell _ _).setCell _ _).setCell _ _).setCell _ _).setCell _ _).setCell _ _).setCell _ _).setCell _ _).setCell _ _).setCell _ _).setCell _ _ = w8
      replace H := HS.eqW hwb (H.putAll (i := 1) rfl (vs := [.int .i64 5, .int .i64 p0, .int .i64 p1, .int .i64 p2, .int .i64 0, .int .i64 0, .int .i64 0, .int .i64 v2, .int .u8 m, .int .u8 vl, .bool hard]) rfl rfl)
      simp only [List.nil_append, List.cons_append, List.append_assoc, List.set_cons_succ, List.set_cons_zero] at H
      clear hwb
      try clear C
      try clear wq
      have C := H.cells
      try simp only [cellsOf, apartOf, and_true] at C
      refine bodyPost_ret (by simp [results, Tryd.results40, go_sem, C]; try rfl) rfl ?_
      exact ⟨_, _, _, _, _, _, _, _, _, _, _, rfl, ⟨by decide, hp2.out.zeros (by simp) (by simp) (by simp) (by simp), hv2', hmb⟩, H.at 0 rfl, H.doneDice⟩
    · go_upto_region 13 with fail
      have H2 : HS (OneD b) w [.dice B b, .blk bR #[.int .i64 0, .int .i64 0, .int .i64 0, .int .i64 0, .int .i64 0, .int .i64 0, .int .i64 0, .int .i64 0, .int .u8 0, .int .u8 0, .bool false] 44, .blk bQ #[.int .i64 6, .int .i64 p0, .int .i64 p1, .int .i64 0, .int .i64 0, .int .i64 0, .int .i64 0, .int .i64 v2, .int .u8 m, .int .u8 vl, .bool hard] 44] _ := (((H.setAt 2 rfl (o := 6) (v := .int .i64 0)).setAt 2 rfl (o := 5) (v := .int .i64 0)).setAt 2 rfl (o := 4) (v := .int .i64 0)).setTo 2 rfl (o := 3) (v := .int .i64 0) (by rfl)
      clear H C
      have H := H2
      clear H2
      generalize (((wc.setCell _ _).setCell _ _).setCell _ _).setCell _ _ = wq at H ⊢
      have C := H.cells
      try simp only [cellsOf, apartOf, and_true] at C
      skip
      go_wp2_with fail
      generalize hwb : ((((((((((wq.setCell _ _).setCell _ _).setCell _ _).setCell _ _).setCell _ _).setCell _ _).setCell _ _).setCell _ _).setCell _ _).setCell _ _).setCell _ _ = w9
      replace H := HS.eqW hwb (H.putAll (i := 1) rfl (vs := [.int .i64 6, .int .i64 p0, .int .i64 p1, .int .i64 0, .int .i64 0, .int .i64 0, .int .i64 0, .int .i64 v2, .int .u8 m, .int .u8 vl, .bool hard]) rfl rfl)
      simp only [List.nil_append, List.cons_append, List.append_assoc, List.set_cons_succ, List.set_cons_zero] at H
      clear hwb
      try clear C
      try clear wq
      have C := H.cells
      try simp only [cellsOf, apartOf, and_true] at C
      refine bodyPost_ret (by simp [results, Tryd.results40, go_sem, C]; try rfl) rfl ?_
      exact ⟨_, _, _, _, _, _, _, _, _, _, _, rfl, ⟨by decide, hp2.out.zeros (by simp) (by simp) (by simp) (by simp), hv2', hmb⟩, H.at 0 rfl, H.doneDice⟩
end Go.Proofs.YtaeockopliplfaaDoor
