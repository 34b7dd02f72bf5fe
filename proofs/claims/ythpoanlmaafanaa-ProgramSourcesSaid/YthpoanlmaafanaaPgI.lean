/- mill.Ops: operations drawn from a stream. -/
import Derived.Test.YthpoanlmaafanaaPgO
import Derived.Test.YthpoanlmaafanaaLit
import Derived.Test.YthpoanlmaafanaaAppR
namespace Go.Proofs.Ythpoanlmaafanaa
set_option linter.unusedSimpArgs false
set_option linter.unusedVariables false
open Go.RowKit
set_option maxRecDepth 100000
attribute [local irreducible] wpX wpF Calls

def bC (x : Int) : List Value := [.int .u8 x]
theorem bC_len (x : Int) : (bC x).length = 1 := rfl
theorem infoB : (Try.prog.info? 5).map (fun i => (i.zero, i.size, i.bytes)) = some (some (.int .u8 0), 1, 1) := by kernel_rfl
theorem elemB : Elem Try.prog 36 5 (.int .u8 0) 1 1 := Elem.mk' Try.underlying36 infoB rfl (by decide)
theorem infoOp : (Try.prog.info? 38).map (fun i => (i.zero, i.size, i.bytes)) = some (some (.agg #[.int .i64 0, .int .i64 0, .int .i64 0, .int .i64 0, .int .i64 0, .slice none 0 0]), 6, 64) := by kernel_rfl
theorem elemOp : Elem Try.prog 22 38 (.agg #[.int .i64 0, .int .i64 0, .int .i64 0, .int .i64 0, .int .i64 0, .slice none 0 0]) 6 64 := Elem.mk' Try.underlying22 infoOp rfl (by decide)
def GivesB (n : Nat) (B b : Nat) (w : World) (e : Ending) (w' : World) : Prop :=
  ∃ (v : Value) (bs : List Int), e = .returned v ∧ bs.length = n ∧ HS (OneD b) w [.dice B b, .row v 5 1 n (bs.flatMap bC)] w'
set_option maxHeartbeats 4000000 in
theorem mbytes_any (n : Nat) (hn : n ≤ 1000) (B b : Nat) (w : World) (hd : Dice B w b) (hB : B ≤ w.heap.size) :
    Calls Try.prog 31 #[.pointer (some ⟨b, 0, none⟩), .int .i64 n] w (GivesB n B b w) := by
  go_enter Try.func31, Try.ntmps31
  have H := HS.startDice hd hB
  have C := H.cells
  try simp only [cellsOf, cellsM, apartOf, apartM, and_true] at C
  clear hd
  have hnr := H.nilRow 5 1
  clear H
  have H := hnr
  clear hnr
  try simp only [List.nil_append, List.cons_append] at H
  try clear C
  try simp only [World.size_alloc, List.nil_append, List.cons_append, List.append_assoc] at H
  have C := H.cells
  try simp only [cellsOf, cellsM, apartOf, apartM, and_true] at C
  go_wp2_with fail
  go_loopw [1, 5] (fun nn u wr => ∃ (k : Nat) (bs : List Int), nn = .int .i64 k ∧ k + bs.length = n ∧ HS (OneD b) w [.dice B b, .row u 5 1 bs.length (bs.flatMap bC)] wr) (fun nn _ _ => (intOf nn).toNat)
  case atStart => exact ⟨n, [], rfl, by simp, H⟩
  case round =>
    clear H C
    obtain ⟨k, bs, rfl, hk, H⟩ := hrel
    skip
    try clear C
    try simp only [World.size_alloc, List.nil_append, List.cons_append, List.append_assoc] at H
    have C := H.cells
    try simp only [cellsOf, cellsM, apartOf, apartM, and_true] at C
    by_cases hk0 : 0 < k
    · have hki : (0 : Int) < k := by omega
      have hbl : bs.length ≤ 1000 := by omega
      have hkw : IntKind.i64.wrap ((k : Int) - 1) = ((k - 1 : Nat) : Int) := by rw [IntWalk.i64_in _ (by omega)]; omega
      go_wp2_with fail
      refine (next_any 256 (by omega) B b _ (H.at 0 rfl)).mono ?_
      rintro _ w1 ⟨v0, rfl, hv0, hd, hg⟩
      replace H := (H).diceAt 0 rfl hg hd
      clear hg hd
      try clear C
      try simp only [World.size_alloc, List.nil_append, List.cons_append, List.append_assoc] at H
      try clear wr
      have C := H.cells
      try simp only [cellsOf, cellsM, apartOf, apartM, and_true] at C
      dsimp only
      go_wp2_with (at_builtin; refine wpList_append_H rfl (.tmp 10) (.tmp 14) 36 rfl elemB H.alloc 1 rfl rfl 2 rfl rfl rfl rfl (by decide) (by unfold maxLen; omega) (by omega) (fun g cap wz HZ => ?_); clear H C)
      go_roundw
      case rel =>
        refine ⟨k - 1, bs ++ [v0 % 256], rfl, by rw [List.length_append]; simp; omega, ?_⟩
        rw [List.length_append, List.flatMap_append]
        exact HS.less HZ (by repeat (first | exact .slnil | refine .cons_cons _ ?_ | refine .cons _ ?_))
      case measure => simp [intOf]; omega
    · obtain rfl : k = 0 := by omega
      go_wp2_with fail
      go_ret
      have hbn : bs.length = n := by omega
      exact ⟨_, bs, rfl, hbn, by rw [← hbn]; exact H⟩
theorem kinds_op (j : Nat) (hj : j < 10) : ∃ k : Int, (#[.int .i64 1, .int .i64 1, .int .i64 2, .int .i64 2, .int .i64 2, .int .i64 3, .int .i64 3, .int .i64 4, .int .i64 5, .int .i64 6] : Array Value)[j]? = some (.int .i64 k) ∧ 1 ≤ k ∧ k ≤ 6 := by
  have : j = 0 ∨ j = 1 ∨ j = 2 ∨ j = 3 ∨ j = 4 ∨ j = 5 ∨ j = 6 ∨ j = 7 ∨ j = 8 ∨ j = 9 := by omega
  rcases this with rfl | rfl | rfl | rfl | rfl | rfl | rfl | rfl | rfl | rfl <;> exact ⟨_, rfl, by decide, by decide⟩
/-- An operation, and its data. -/
def GivesOp (n : Nat) (B b : Nat) (w : World) (e : Ending) (w' : World) : Prop :=
  ∃ (x : Ox) (bs : List Int), e = .returned (vOx x) ∧ x.n ≤ n ∧ bs.length = x.n ∧ HS (OneD b) w [.dice B b, .row (.slice x.sa x.n x.c) 5 1 x.n (bs.flatMap bC)] w'
set_option maxHeartbeats 8000000 in
theorem mop_any (n : Nat) (hn : n ≤ 1000) (B b : Nat) (w : World) (hd : Dice B w b) (hB : B ≤ w.heap.size) :
    Calls Try.prog 21 #[.pointer (some ⟨b, 0, none⟩), .int .i64 n] w (GivesOp n B b w) := by
  have HBY := Lib.hid (fun w hd hB => mbytes_any n hn B b w hd hB)
  have HBB := Lib.hid hB
  go_enter Try.func21, Try.ntmps21
  have H := HS.startDice hd hB
  have C := H.cells
  try simp only [cellsOf, cellsM, apartOf, apartM, and_true] at C
  clear hd
  go_wp2_with fail
  refine wp_region_gH (by kernel_rfl) [1, 2, 5, 6, 7, 8, 9, 0, 3, 4, 10, 11, 12] (by kernel_rfl) (by kernel_rfl) (by kernel_rfl) (OneD b) (H.alloc) ?_
  clear H; intro w1 H hz0
  try clear C
  try simp only [World.size_alloc, List.nil_append, List.cons_append, List.append_assoc] at H hz0 ⊢
  generalize w.heap.size = bR at H hz0 ⊢
  clear hz0
  have C := H.cells
  try simp only [cellsOf, cellsM, apartOf, apartM, and_true] at C
  simp only [List.filterMap_cons, List.filterMap_nil, List.getElem?_toArray, List.getElem?_cons_zero, List.getElem?_cons_succ]
  (refine wpG_free rfl rfl rfl (fun _ _ => ?_); go_step; go_step)
  (refine wpG_call rfl rfl (fun wc hc _ _ => ?_); go_step; refine (next_any 10 (by omega) B b _ (hc.inv.at 0 rfl)).mono ?_; rintro _ wd ⟨v0, rfl, hv0, hd, hg⟩; dsimp only; go_step; refine ⟨hc.chgS hg rfl (Dice.lt (H.at 0 rfl)) (hc.inv.diceAt 0 rfl hg hd), hc.chgK hg (Dice.lt (H.at 0 rfl)), ?_⟩; clear hg hd hc wc wd)
  (refine wpG_free rfl rfl rfl (fun _ _ => ?_); go_step; go_step)
  (refine wpG_call rfl rfl (fun wc hc _ _ => ?_); go_step; refine (next_any 3 (by omega) B b _ (hc.inv.at 0 rfl)).mono ?_; rintro _ wd ⟨v1, rfl, hv1, hd, hg⟩; dsimp only; go_step; refine ⟨hc.chgS hg rfl (Dice.lt (H.at 0 rfl)) (hc.inv.diceAt 0 rfl hg hd), hc.chgK hg (Dice.lt (H.at 0 rfl)), ?_⟩; clear hg hd hc wc wd)
  (refine wpG_free rfl rfl rfl (fun _ _ => ?_); go_step; go_step)
  (refine wpG_free rfl rfl rfl (fun _ _ => ?_); go_step; go_step)
  (refine wpG_call rfl rfl (fun wc hc _ _ => ?_); go_step; refine (next_any 3 (by omega) B b _ (hc.inv.at 0 rfl)).mono ?_; rintro _ wd ⟨v2, rfl, hv2, hd, hg⟩; dsimp only; go_step; refine ⟨hc.chgS hg rfl (Dice.lt (H.at 0 rfl)) (hc.inv.diceAt 0 rfl hg hd), hc.chgK hg (Dice.lt (H.at 0 rfl)), ?_⟩; clear hg hd hc wc wd)
  (refine wpG_lit rfl rfl #[.int .i64 1, .int .i64 1, .int .i64 2, .int .i64 2, .int .i64 2, .int .i64 3, .int .i64 3, .int .i64 4, .int .i64 5, .int .i64 6]   3 10 (fun w => by kernel_rfl) (fun bL hbL nbL _ _ => ?_); go_simp; go_step)
  obtain ⟨j, rfl⟩ : ∃ j : Nat, v0 = j := ⟨v0.toNat, by have := hv0.1; omega⟩
  have hj : j < 10 := by have := hv0.lt (by omega); omega
  obtain ⟨k, hk, hk1, hk6⟩ := kinds_op j hj
  have hjl : ((j : Nat) : Int) < 10 := by omega
  (refine wpG_free rfl rfl rfl (fun _ _ => ?_); go_step; go_step)
  (refine wpG_look rfl rfl rfl (fun _ => by kernel_rfl) (Fl.at _ _ _ ) ( hk) (fun _ _ => ?_); go_simp; go_step)
  (refine wpG_free rfl rfl rfl (fun _ _ => ?_); go_step; go_step)
  (refine wpG_float rfl rfl #[.int .i64 0, .int .i64 0, .int .i64 0, .int .i64 0, .int .i64 0, .slice none 0 0]   38 (fun w => by kernel_rfl) (fun bQ hbQ nbQ _ _ => ?_); go_simp; go_step)
  (refine wpG_store (cs := #[.int .i64 k, .int .i64 _, .int .i64 v2, .int .i64 0, .int .i64 0, .slice none 0 0]) rfl rfl rfl rfl (Fl.at _ _ _) rfl (by kernel_rfl) rfl rfl (fun _ _ => ?_); go_simp; go_step)
  refine wpG_nil ?_
  intro w2 hC
  replace H := H.floats1 hC (Fl.at _ _ _)
  clear hC C hbQ nbQ hbL nbL hk hj hjl w1
  try simp only [List.nil_append, List.cons_append, List.append_assoc] at H
  have hnr := H.nilRow 5 1
  clear H
  have H := hnr
  clear hnr
  try simp only [List.nil_append, List.cons_append] at H
  skip
  try clear C
  try simp only [World.size_alloc, List.nil_append, List.cons_append, List.append_assoc] at H
  have C := H.cells
  try simp only [cellsOf, cellsM, apartOf, apartM, and_true] at C
  go_step
  go_step
  obtain ⟨pp, hpp⟩ : ∃ p, p = wrap64 (1 + v1) := ⟨_, rfl⟩
  rw [← hpp] at H
  clear hpp hv0 hv1 hv2
  try clear C
  try simp only [World.size_alloc, List.nil_append, List.cons_append, List.append_assoc] at H
  have C := H.cells
  try simp only [cellsOf, cellsM, apartOf, apartM, and_true] at C
  go_step
  go_cut [] from 17 to 39 (fun wx => ∃ (k p g wd o : Int) (s : Option Addr) (m c : Nat) (bs : List Int), m ≤ n ∧ bs.length = m ∧ HS (OneD b) w [.dice B b, .blk bR #[.int .i64 0, .int .i64 0, .int .i64 0, .int .i64 0, .int .i64 0, .slice none 0 0] 38, .blk bQ #[.int .i64 k, .int .i64 p, .int .i64 g, .int .i64 wd, .int .i64 o, .slice s m c] 38, .row (.slice s m c) 5 1 m (bs.flatMap bC)] wx)
  case first =>
    have hkk : k = 1 ∨ k = 2 ∨ k = 3 ∨ k = 4 ∨ k = 5 ∨ k = 6 := by omega
    clear hk1 hk6
    rcases hkk with hkk | hkk | hkk | hkk | hkk | hkk
    all_goals subst hkk
    · skip
      go_wp2_with fail
      refine (next_any 4 (by omega) B b _ (H.at 0 rfl)).mono ?_
      rintro _ w2 ⟨v3, rfl, hv3, hd, hg⟩
      replace H := (H).diceAt 0 rfl hg hd
      clear hg hd
      try clear C
      try simp only [World.size_alloc, List.nil_append, List.cons_append, List.append_assoc] at H
      try clear w2
      have C := H.cells
      try simp only [cellsOf, cellsM, apartOf, apartM, and_true] at C
      dsimp only
      go_wp2_with fail
      go_meet
      case rel => exact ⟨_, _, _, _, _, none, 0, 0, [], by omega, rfl, H.setTo 2 rfl rfl⟩
    · skip
      go_wp2_with fail
      refine (next_any 4 (by omega) B b _ (H.at 0 rfl)).mono ?_
      rintro _ w3 ⟨v3, rfl, hv3, hd, hg⟩
      replace H := (H).diceAt 0 rfl hg hd
      clear hg hd
      try clear C
      try simp only [World.size_alloc, List.nil_append, List.cons_append, List.append_assoc] at H
      try clear w2
      have C := H.cells
      try simp only [cellsOf, cellsM, apartOf, apartM, and_true] at C
      dsimp only
      go_wp2_with fail
      refine (HBY.out _ (H.at 0 rfl) (Nat.le_trans HBB.out H.size)).mono ?_
      rintro _ w4 ⟨v, bs, rfl, hbs, K⟩
      replace H := HS.joinDice H 0 rfl K (fun A hA => by simp only [List.mem_cons, List.mem_nil_iff, or_false] at hA; rcases hA with rfl; rfl)
      clear K
      simp only [List.nil_append, List.cons_append] at H
      obtain ⟨s5, c5, rfl⟩ := ownsRow_slice (H.at 4 rfl)
      skip
      try clear C
      try simp only [World.size_alloc, List.nil_append, List.cons_append, List.append_assoc] at H
      have C := H.cells
      try simp only [cellsOf, cellsM, apartOf, apartM, and_true] at C
      dsimp only
      go_wp2_with fail
      go_meet
      case rel => exact ⟨_, _, _, _, _, s5, n, c5, bs, Nat.le_refl _, hbs, HS.less ((H.setTo (o := 3) 2 rfl rfl).setTo (o := 5) 2 rfl rfl) (by repeat (first | exact .slnil | refine .cons_cons _ ?_ | refine .cons _ ?_))⟩
    · skip
      go_wp2_with fail
      go_meet
      case rel => exact ⟨_, _, _, _, _, none, 0, 0, [], by omega, rfl, H⟩
    · skip
      go_wp2_with fail
      refine (next_any 4 (by omega) B b _ (H.at 0 rfl)).mono ?_
      rintro _ w4 ⟨v3, rfl, hv3, hd, hg⟩
      replace H := (H).diceAt 0 rfl hg hd
      clear hg hd
      try clear C
      try simp only [World.size_alloc, List.nil_append, List.cons_append, List.append_assoc] at H
      try clear w2
      have C := H.cells
      try simp only [cellsOf, cellsM, apartOf, apartM, and_true] at C
      dsimp only
      go_wp2_with fail
      go_meet
      case rel => exact ⟨_, _, _, _, _, none, 0, 0, [], by omega, rfl, (H.setTo (o := 2) 2 rfl rfl).setTo (o := 4) 2 rfl rfl⟩
    · skip
      go_wp2_with fail
      go_meet
      case rel => exact ⟨_, _, _, _, _, none, 0, 0, [], by omega, rfl, H⟩
    · skip
      go_wp2_with fail
      go_meet
      case rel => exact ⟨_, _, _, _, _, none, 0, 0, [], by omega, rfl, H⟩
  case rest =>
    clear H C hk1 hk6
    obtain ⟨k, p, g, wd, o, s, m, c, bs, hm, hbs, H⟩ := hcut
    skip
    try clear C
    try simp only [World.size_alloc, List.nil_append, List.cons_append, List.append_assoc] at H
    have C := H.cells
    try simp only [cellsOf, cellsM, apartOf, apartM, and_true] at C
    go_wp2_with fail
    refine (next_any 30 (by omega) B b _ (H.at 0 rfl)).mono ?_
    rintro _ w5 ⟨v5, rfl, hv5, hd, hg⟩
    replace H := (H).diceAt 0 rfl hg hd
    clear hg hd
    try clear C
    try simp only [World.size_alloc, List.nil_append, List.cons_append, List.append_assoc] at H
    try clear wc
    have C := H.cells
    try simp only [cellsOf, cellsM, apartOf, apartM, and_true] at C
    dsimp only
    skip
    by_cases h5 : v5 = 1
    · subst h5
      go_wp2_with fail
      refine (next_any 6 (by omega) B b _ (H.at 0 rfl)).mono ?_
      rintro _ w6 ⟨v6, rfl, hv6, hd, hg⟩
      replace H := (H).diceAt 0 rfl hg hd
      clear hg hd
      try clear C
      try simp only [World.size_alloc, List.nil_append, List.cons_append, List.append_assoc] at H
      try clear w5
      have C := H.cells
      try simp only [cellsOf, cellsM, apartOf, apartM, and_true] at C
      dsimp only
      go_wp2_with fail
      refine (next_any 3 (by omega) B b _ (H.at 0 rfl)).mono ?_
      rintro _ w7 ⟨v7, rfl, hv7, hd, hg⟩
      replace H := (H).diceAt 0 rfl hg hd
      clear hg hd
      try clear C
      try simp only [World.size_alloc, List.nil_append, List.cons_append, List.append_assoc] at H
      try clear w6
      have C := H.cells
      try simp only [cellsOf, cellsM, apartOf, apartM, and_true] at C
      dsimp only
      go_upto_region 11 with fail
      generalize hwb : World.setCell _ _ _ = w9
      replace H := HS.eqW hwb ((H.setTo (o := 3) (v := .int .i64 v6) 2 rfl rfl).setTo (o := 1) (v := .int .i64 v7) 2 rfl rfl)
      clear hwb
      simp only [List.set_cons_succ, List.set_cons_zero] at H
      skip
      try clear C
      try simp only [World.size_alloc, List.nil_append, List.cons_append, List.append_assoc] at H
      have C := H.cells
      try simp only [cellsOf, cellsM, apartOf, apartM, and_true] at C
      go_wp2_with fail
      generalize hwb : (((((w9.setCell _ _).setCell _ _).setCell _ _).setCell _ _).setCell _ _).setCell _ _ = w8
      replace H := HS.eqW hwb (H.putAll (i := 1) rfl (vs := [.int .i64 k, .int .i64 v7, .int .i64 g, .int .i64 v6, .int .i64 o, .slice s m c]) rfl rfl)
      simp only [List.nil_append, List.cons_append, List.append_assoc, List.set_cons_succ, List.set_cons_zero] at H
      clear hwb
      try clear C
      try clear w9
      have C := H.cells
      try simp only [cellsOf, cellsM, apartOf, apartM, and_true] at C
      refine bodyPost_ret (by simp [results, Try.results21, go_sem, C]; try rfl) rfl ?_
      exact ⟨⟨k, v7, g, v6, o, s, m, c⟩, bs, rfl, hm, hbs, HS.less H (by repeat (first | exact .slnil | refine .cons_cons _ ?_ | refine .cons _ ?_))⟩
    · have h5b : (v5 == 1) = false := beq_eq_false_iff_ne.2 h5
      skip
      go_wp2_with fail
      generalize hwb : (((((w5.setCell _ _).setCell _ _).setCell _ _).setCell _ _).setCell _ _).setCell _ _ = w9
      replace H := HS.eqW hwb (H.putAll (i := 1) rfl (vs := [.int .i64 k, .int .i64 p, .int .i64 g, .int .i64 wd, .int .i64 o, .slice s m c]) rfl rfl)
      simp only [List.nil_append, List.cons_append, List.append_assoc, List.set_cons_succ, List.set_cons_zero] at H
      clear hwb
      try clear C
      try clear w5
      have C := H.cells
      try simp only [cellsOf, cellsM, apartOf, apartM, and_true] at C
      refine bodyPost_ret (by simp [results, Try.results21, go_sem, C]; try rfl) rfl ?_
      exact ⟨⟨k, p, g, wd, o, s, m, c⟩, bs, rfl, hm, hbs, HS.less H (by repeat (first | exact .slnil | refine .cons_cons _ ?_ | refine .cons _ ?_))⟩
end Go.Proofs.Ythpoanlmaafanaa
