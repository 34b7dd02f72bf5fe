/- mill.Line: a line drawn from a stream. -/
import Derived.Test.YtfmcicmbehjdcaaLrA
import Derived.Test.YtfmcicmbehjdcaaXst
import Derived.Test.YtfmcicmbehjdcaaK1
namespace Go.Proofs.Ytfmcicmbehjdcaa
set_option linter.unusedSimpArgs false
set_option linter.unusedVariables false
open Go.RowKit
set_option maxRecDepth 100000
attribute [local irreducible] wpX wpF Calls

def GivesBD (n : Nat) (B b : Nat) (w : World) (e : Ending) (w' : World) : Prop :=
  ∃ (s : Option Addr) (c : Nat) (bs : List Int), e = .returned (.slice s n c) ∧ bs.length = n ∧ HS (OneD b) w [.dice B b, .row (.slice s n c) 5 1 n (bs.flatMap bC1)] w'
set_option maxHeartbeats 4000000 in
theorem mbytesD_any (n : Nat) (hn : n ≤ 1000) (B b : Nat) (w : World) (hd : Dice B w b) (hB : B ≤ w.heap.size) :
    Calls Try.prog 43 #[.pointer (some ⟨b, 0, none⟩), .int .i64 n] w (GivesBD n B b w) := by
  go_enter Try.func43, Try.ntmps43
  have H := HS.startDice hd hB
  have C := H.cells
  try simp only [cellsOf, cellsM, apartOf, apartM, and_true] at C
  clear hd
  have hnr := H.nilRow 5 1
  clear H
  have H := hnr
  clear hnr
  try simp only [List.nil_append, List.cons_append] at H
  try clear C
  try simp only [World.size_alloc, List.nil_append, List.cons_append, List.append_assoc] at H
  have C := H.cells
  try simp only [cellsOf, cellsM, apartOf, apartM, and_true] at C
  go_wp2_with fail
  go_loopw [1, 5] (fun nn u wr => ∃ (k : Nat) (bs : List Int), nn = .int .i64 k ∧ k + bs.length = n ∧ HS (OneD b) w [.dice B b, .row u 5 1 bs.length (bs.flatMap bC1)] wr) (fun nn _ _ => (intOf nn).toNat)
  case atStart => exact ⟨n, [], rfl, by simp, H⟩
  case round =>
    clear H C
    obtain ⟨k, bs, rfl, hk, H⟩ := hrel
    skip
    try clear C
    try simp only [World.size_alloc, List.nil_append, List.cons_append, List.append_assoc] at H
    have C := H.cells
    try simp only [cellsOf, cellsM, apartOf, apartM, and_true] at C
    by_cases hk0 : 0 < k
    · have hki : (0 : Int) < k := by omega
      have hbl : bs.length ≤ 1000 := by omega
      have hkw : IntKind.i64.wrap ((k : Int) - 1) = ((k - 1 : Nat) : Int) := by rw [IntWalk.i64_in _ (by omega)]; omega
      go_wp2_with fail
      refine (next_any 256 (by omega) B b _ (H.at 0 rfl)).mono ?_
      rintro _ w1 ⟨v0, rfl, hv0, hd, hg⟩
      replace H := (H).diceAt 0 rfl hg hd
      clear hg hd
      try clear C
      try simp only [World.size_alloc, List.nil_append, List.cons_append, List.append_assoc] at H
      try clear wr
      have C := H.cells
      try simp only [cellsOf, cellsM, apartOf, apartM, and_true] at C
      dsimp only
      go_wp2_with (at_builtin; refine wpList_append_H rfl (.tmp 10) (.tmp 14) 33 rfl elemBy H.alloc 1 rfl rfl 2 rfl rfl rfl rfl (by decide) (by unfold maxLen; omega) (by omega) (fun g cap wz HZ => ?_); clear H C)
      go_roundw
      case rel =>
        refine ⟨k - 1, bs ++ [v0 % 256], rfl, by rw [List.length_append]; simp; omega, ?_⟩
        rw [List.length_append, List.flatMap_append]
        exact HS.less HZ (by repeat (first | exact .slnil | refine .cons_cons _ ?_ | refine .cons _ ?_))
      case measure => simp [intOf]; omega
    · obtain rfl : k = 0 := by omega
      obtain ⟨s5, c5, rfl⟩ := ownsRow_slice (H.at 1 rfl)
      have hbn : bs.length = n := by omega
      subst hbn
      go_wp2_with fail
      go_ret
      exact ⟨s5, c5, bs, rfl, rfl, H⟩
theorem made_by (n : Nat) : (madeCells #[.int .u8 0] (n * 1)).toList = (List.replicate n 0).flatMap bC1 := by
  rw [Nat.mul_one]
  refine List.ext_getElem (by rw [flat_len bC1_len]; simp [madeCells]) fun i h1 h2 => ?_
  rw [flat_len bC1_len, List.length_replicate] at h2
  have h3 := flat_get bC1_len (List.replicate n 0) i 0 (.int .u8 0) (by rw [List.length_replicate]; omega) (by rw [getElem!_pos _ _ (by rw [List.length_replicate]; omega), List.getElem_replicate]; rfl)
  rw [show i * 1 + 0 = i by omega] at h3
  obtain ⟨h5, h6⟩ := List.getElem?_eq_some_iff.1 h3
  rw [h6]
  simp [madeCells, Nat.mod_one]
/-- A line drawn from a stream. -/
def GivesLineD (size : Nat) (a : Int) (B b : Nat) (w : World) (e : Ending) (w' : World) : Prop :=
  ∃ (m : Lm) (x : Sv) (F : Nat → Prop), e = .returned (lnV m x) ∧ m.ad = a ∧ m.bs.length = size ∧ HS (OneD b) w [.dice B b, .any F (fun w => BytesAt w x m.bs)] w'
set_option maxHeartbeats 8000000 in
theorem mline_any (size : Nat) (hsz : size ≤ 100) (a : Int) (B b : Nat) (w : World) (hd : Dice B w b) (hB : B ≤ w.heap.size) :
    Calls Try.prog 23 #[.pointer (some ⟨b, 0, none⟩), .int .i64 size, .int .i64 a] w (GivesLineD size a B b w) := by
  have HBY := Lib.hid (fun w hd hB => mbytesD_any size (by omega) B b w hd hB)
  have HBB := Lib.hid hB
  have HMB := Lib.hid (made_by size)
  obtain ⟨i, i1, i2, i3, i4⟩ := elemBy.hi
  go_enter Try.func23, Try.ntmps23
  have H := HS.startDice hd hB
  have C := H.cells
  try simp only [cellsOf, cellsM, apartOf, apartM, and_true] at C
  clear hd
  go_upto_region 1 with fail
  generalize hwb : w.alloc _ = w1
  replace H := HS.eqW hwb H.alloc
  try simp only [World.size_alloc, List.nil_append, List.cons_append, List.append_assoc] at H
  clear hwb
  generalize w.heap.size = bR at H ⊢
  try clear C
  have C := H.cells
  try simp only [cellsOf, cellsM, apartOf, apartM, and_true] at C
  go_wp2_with fail
  refine (HBY.out _ (H.at 0 rfl) (Nat.le_trans HBB.out H.size)).mono ?_
  rintro _ w55 ⟨s1, c1, bs, rfl, hbl, K⟩
  have H1 := H.joinDice 0 rfl K (one_low rfl)
  clear K H C HBY
  have H := HS.anyOf (L := [_, _]) H1 rfl
  clear H1
  try simp only [List.nil_append, List.cons_append] at H
  have HBL := Lib.hid hbl
  clear hbl
  skip
  try clear C
  try simp only [World.size_alloc, List.nil_append, List.cons_append, List.append_assoc] at H
  have C := H.cells
  try simp only [cellsOf, cellsM, apartOf, apartM, and_true] at C
  dsimp only
  generalize hK : Item.ok (Item.row (.slice s1 size c1) 5 1 size (bs.flatMap bC1)) = KK at H
  have HKK := Lib.hid (show ∀ wx, KK wx → BytesAt wx ⟨s1, size, c1⟩ bs from fun wx h => by rw [← hK] at h; exact bytes_row HBL.out.symm h)
  clear hK
  go_wp2_with fail
  refine (next_any 2 (by omega) B b _ (H.at 0 rfl)).mono ?_
  rintro _ w2 ⟨v0, rfl, hv0, hd, hg⟩
  replace H := (H).diceAt 0 rfl hg hd
  clear hg hd
  try clear C
  try simp only [World.size_alloc, List.nil_append, List.cons_append, List.append_assoc] at H
  try clear w55
  have C := H.cells
  try simp only [cellsOf, cellsM, apartOf, apartM, and_true] at C
  dsimp only
  clear hv0
  obtain ⟨dd, hdd⟩ : ∃ dd, (v0 == 0) = dd := ⟨_, rfl⟩
  go_wp2_with fail
  refine (next_any 5 (by omega) B b _ (H.at 0 rfl)).mono ?_
  rintro _ w3 ⟨v1, rfl, hv1, hd, hg⟩
  replace H := (H).diceAt 0 rfl hg hd
  clear hg hd
  try clear C
  try simp only [World.size_alloc, List.nil_append, List.cons_append, List.append_assoc] at H
  try clear w2
  have C := H.cells
  try simp only [cellsOf, cellsM, apartOf, apartM, and_true] at C
  dsimp only
  clear hv1
  obtain ⟨pp, hpp⟩ : ∃ pp, (v1 == 1) = pp := ⟨_, rfl⟩
  go_upto_region 2 with fail
  clear hdd hpp
  generalize hwb : w3.alloc _ = w4
  replace H := HS.eqW hwb H.alloc
  try simp only [World.size_alloc, List.nil_append, List.cons_append, List.append_assoc] at H
  clear hwb
  generalize w3.heap.size = bX at H ⊢
  try clear C
  try clear w3
  have C := H.cells
  try simp only [cellsOf, cellsM, apartOf, apartM, and_true] at C
  have HBX := Lib.hid (H.own _ (List.mem_of_getElem? (i := 3) rfl) bX rfl)
  have zR : w.heap.size ≤ bR := (H.own _ (List.mem_of_getElem? (i := 1) rfl) bR rfl).resolve_right (fun e => by simp [OneD, *] at e)
  skip
  cases pp
  case false =>
    repeat go_step
    generalize hwb : (((w4.setCell _ _).setCell _ _).setCell _ _).setCell _ _ = w5
    replace H := HS.eqW hwb (H.putAll (i := 1) rfl (vs := [.int .i64 a, .slice s1 size c1, .bool dd, .bool false]) rfl rfl)
    simp only [List.nil_append, List.cons_append, List.append_assoc, List.set_cons_succ, List.set_cons_zero] at H
    clear hwb
    try clear C
    try clear w4
    have C := H.cells
    try simp only [cellsOf, cellsM, apartOf, apartM, and_true] at C
    refine bodyPost_ret (v := .agg #[.int .i64 a, .slice s1 size c1, .bool dd, .bool false]) (by simp [results, Try.results23, go_sem, C]) rfl ?_
    have H9 := HS.less (L' := [.dice B b, .any _ KK]) H (by repeat (first | exact .slnil | refine .cons_cons _ ?_ | refine .cons _ ?_))
    exact ⟨⟨a, bs, dd, false⟩, ⟨s1, size, c1⟩, _, rfl, rfl, HBL.out, HS.weak (L := [_]) H9 HKK.out⟩
  case true =>
    skip
    go_upto_region 4 with (at_make; go_loud (refine wpList_make_full _ rfl (.tmp 21) (.tmp 21) 33 rfl w4.heap.size 5 i _ 1 elemBy.ht i1 i2 i3 .i64 .i64 _ _ size rfl rfl rfl rfl (by rw [i4]; omega) (by unfold maxLen; omega) (Nat.le_refl _) (fun wm hm1 hm2 => ?_)); replace H := H.getsRow ((Below.refl _ _).grown hm2 (Nat.le_refl _) (fun k h => by cases h)) hm1; clear hm1 hm2; simp only [List.nil_append, List.cons_append] at H; clear C; have C := H.cells; simp only [cellsOf, cellsM, apartOf, apartM, and_true] at C)
    generalize hwb : World.setCell _ _ _ = w9
    replace H := HS.eqW hwb (H.setTo (o := 1) (v := .slice (some ⟨w4.heap.size, 0, none⟩) size size) 3 rfl rfl)
    clear hwb C
    simp only [List.set_cons_succ, List.set_cons_zero] at H
    generalize w4.heap.size = bZ at H ⊢
    skip
    try clear C
    try simp only [World.size_alloc, List.nil_append, List.cons_append, List.append_assoc] at H
    have C := H.cells
    try simp only [cellsOf, cellsM, apartOf, apartM, and_true] at C
    repeat go_step
    generalize hwb : (((w9.setCell _ _).setCell _ _).setCell _ _).setCell _ _ = w6
    replace H := HS.eqW hwb (H.putAll (i := 1) rfl (vs := [.int .i64 a, .slice (some ⟨bZ, 0, none⟩) size size, .bool dd, .bool true]) rfl rfl)
    simp only [List.nil_append, List.cons_append, List.append_assoc, List.set_cons_succ, List.set_cons_zero] at H
    clear hwb
    try clear C
    try clear w9
    have C := H.cells
    try simp only [cellsOf, cellsM, apartOf, apartM, and_true] at C
    refine bodyPost_ret (v := .agg #[.int .i64 a, .slice (some ⟨bZ, 0, none⟩) size size, .bool dd, .bool true]) (by simp [results, Try.results23, go_sem, C]) rfl ?_
    have H9 := HS.less (L' := [.dice B b, .row (.slice (some ⟨bZ, 0, none⟩) size size) 5 1 size (madeCells #[.int .u8 0] (size * 1)).toList]) H (by repeat (first | exact .slnil | refine .cons_cons _ ?_ | refine .cons _ ?_))
    have hms := HMB.out
    rw [hms] at H9
    have H8 := HS.anyOf (L := [_]) H9 rfl
    exact ⟨⟨a, List.replicate size 0, dd, true⟩, ⟨some ⟨bZ, 0, none⟩, size, size⟩, _, rfl, rfl, List.length_replicate, HS.weak (L := [_]) H8 fun wx h => bytes_row List.length_replicate.symm h⟩
end Go.Proofs.Ytfmcicmbehjdcaa
