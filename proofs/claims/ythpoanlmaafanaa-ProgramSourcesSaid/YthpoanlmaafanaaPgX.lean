/- The sanity check of layer 40; the statement ProgramForks: its walk. -/
import Derived.Test.YthpoanlmaafanaaPgW
namespace Go.Proofs.Ythpoanlmaafanaa
set_option linter.unusedSimpArgs false
set_option linter.unusedVariables false
open Go.RowKit
set_option maxRecDepth 100000
attribute [local irreducible] wpX wpF Calls

theorem gives_ofP {n : Nat} {args : Array Value} {v : Value} {w : World} (h : Calls Try.prog n args w fun e w' => e = .returned v ∧ w = w') : Calls Try.prog n args w (Gives v w) :=
  h.mono fun e w' ⟨h1, h2⟩ => ⟨h1, h2 ▸ Below.refl _ _⟩
set_option maxHeartbeats 4000000 in
theorem awake40_any (w : World) : Calls Try.prog 9 #[] w (Gives (.bool true) w) := by
  go_enter Try.func9, Try.ntmps9
  have H := HS.start NoD w
  go_upto_region 2 with fail
  generalize hwb : ((w.alloc _).alloc _).alloc _ = w1
  replace H := HS.eqW hwb H.alloc.alloc.alloc
  try simp only [World.size_alloc, List.nil_append, List.cons_append, List.append_assoc] at H
  clear hwb
  generalize w.heap.size + 2 = bL at H ⊢
  generalize w.heap.size + 1 = b8 at H ⊢
  generalize w.heap.size = b7 at H ⊢
  try clear C
  have C := H.cells
  try simp only [cellsOf, cellsM, apartOf, apartM, and_true] at C
  obtain ⟨l0, hl0⟩ : ∃ l, l = awL b7 b8 := ⟨_, rfl⟩
  have HLI := Lib.hid (H.blkLies 2 oxC_len (xs := l0) (n := l0.length) rfl rfl (by rw [hl0]; rfl))
  have hll : l0.length = 5 := by rw [hl0]; rfl
  have hs := source_any (l := l0) (by omega) 4 (sa := some ⟨bL, 0, none⟩) (c := 5) (by omega) _ HLI.out
  rw [show sourceP l0 4 = (1, true) by rw [hl0]; exact awSP b7 b8, hll] at hs
  have HSO := Lib.hid hs
  have HPG := Lib.hid (fun w h => pages_any (l := l0) (by omega) (sa := some ⟨bL, 0, none⟩) 5 w h)
  rw [hll] at HPG
  have HPL := Lib.hid (fun us (h : Uq (runF 0 l0 noF) us) => awPg b7 b8 (by rw [← hl0]; exact h))
  have HV1 := Lib.hid (fun w => (show Calls Try.prog 19 #[.int .i64 1, .agg #[.int .i64 2, .int .i64 1, .int .i64 0, .int .i64 2, .int .i64 0, .slice (some ⟨b7, 0, none⟩) 1 1]] w (Gives (.bool true) w) from pvalid_any 1 (awL b7 b8)[1]! w))
  have HV2 := Lib.hid (fun w => (show Calls Try.prog 19 #[.int .i64 2, .agg #[.int .i64 2, .int .i64 1, .int .i64 0, .int .i64 2, .int .i64 0, .slice (some ⟨b7, 0, none⟩) 1 1]] w (Gives (.bool false) w) from pvalid_any 2 (awL b7 b8)[1]! w))
  have HC9 : cellsOf w1 _ := H.cells
  clear hs HC9
  go_wp2_with fail
  refine (HSO.out).mono ?_
  rintro _ w2 ⟨rfl, hb⟩
  replace H := H.below hb
  clear hb
  try clear C
  try simp only [World.size_alloc, List.nil_append, List.cons_append, List.append_assoc] at H
  try clear w1
  have C := H.cells
  try simp only [cellsOf, cellsM, apartOf, apartM, and_true] at C
  dsimp only
  clear HSO
  go_wp2_with fail
  have hli2 := H.blkLies 2 oxC_len (xs := l0) (n := l0.length) rfl rfl (by rw [hl0]; rfl)
  rw [hll] at hli2
  refine (HPG.out _ hli2).mono ?_
  rintro _ w9 ⟨us, v, rfl, hu, hul, K⟩
  have hu2 := HPL.out us hu
  rw [hu2] at K
  replace H := H.join K (fun A hA => by simp only [List.mem_cons, List.mem_nil_iff, or_false] at hA; rcases hA with rfl; rfl)
  simp only [List.nil_append, List.cons_append] at H
  clear K hli2 HPG HPL hu hu2 hul HLI
  obtain ⟨s5, c5, rfl⟩ := ownsRow_slice (H.at 3 rfl)
  clear hl0 hll
  skip
  try clear C
  try simp only [World.size_alloc, List.nil_append, List.cons_append, List.append_assoc] at H
  have C := H.cells
  try simp only [cellsOf, cellsM, apartOf, apartM, and_true] at C
  dsimp only
  go_wp2_with fail
  refine (HV1.out _).mono ?_
  rintro _ w3 ⟨rfl, hb⟩
  replace H := H.below hb
  clear hb
  try clear C
  try simp only [World.size_alloc, List.nil_append, List.cons_append, List.append_assoc] at H
  try clear w9
  have C := H.cells
  try simp only [cellsOf, cellsM, apartOf, apartM, and_true] at C
  dsimp only
  go_wp2_with fail
  refine (HV2.out _).mono ?_
  rintro _ w4 ⟨rfl, hb⟩
  replace H := H.below hb
  clear hb
  try clear C
  try simp only [World.size_alloc, List.nil_append, List.cons_append, List.append_assoc] at H
  try clear w3
  have C := H.cells
  try simp only [cellsOf, cellsM, apartOf, apartM, and_true] at C
  dsimp only
  go_wp2_with fail
  go_ret
  exact ⟨rfl, H.done⟩
theorem row_cap40 {w : World} {B k n c : Nat} {e : TypeId} {sa : Option Addr} {cs : List Value} (h : w.ownsRow B e k (.slice sa n c) n cs) : n ≤ c := by
  obtain ⟨sa', c', e1, h1⟩ := ownsRow_cap h
  injection e1 with e1 e2 e3
  subst e1 e3
  exact h1.1
set_option maxHeartbeats 16000000 in
theorem pforks_walk (sa : Option Addr) (len cap : Nat) (hl : len ≤ maxLen) (page word : Int) (w : World) (hI : Ints w sa len) :
    Calls Try.prog 5 #[.slice sa len cap, .int .i64 page, .int .i64 word] w (Gives (.bool true) w) := by
  have HI := Lib.hid hI
  clear hI
  have hli := light_any sa len cap hl
  clear hl
  have HAW := Lib.hid awake40_any
  by_cases h400 : len ≤ 400
  · rw [decide_eq_true h400] at hli
    have HLI := Lib.hid hli
    clear hli
    go_enter Try.func5, Try.ntmps5
    have H := HS.start NoD w
    go_wp2_with fail
    refine (gives_ofP (HLI.out _)).mono ?_
    rintro _ w1 ⟨rfl, hb⟩
    replace H := H.below hb
    clear hb
    try clear C
    try simp only [World.size_alloc, List.nil_append, List.cons_append, List.append_assoc] at H
    have C := H.cells
    try simp only [cellsOf, cellsM, apartOf, apartM, and_true] at C
    dsimp only
    go_wp2_with fail
    refine (roll_at w.heap.size _ _ _ h400 _ H.size (H.ints HI.out)).mono ?_
    rintro _ w2 ⟨bd, rfl, hd, hb, hbb⟩
    replace H := H.getsDice hb hd hbb (Nat.le_refl _)
    clear hb hd hbb
    try clear C
    try simp only [World.size_alloc, List.nil_append, List.cons_append, List.append_assoc] at H
    try clear w1
    have C := H.cells
    try simp only [cellsOf, cellsM, apartOf, apartM, and_true] at C
    dsimp only
    go_wp2_with fail
    refine (mops_any 1 (by omega) 20 (by omega) w.heap.size bd _ (H.at 0 rfl) H.size).mono ?_
    rintro _ w2 ⟨v, l, rfl, hl2, hlm, hln, K⟩
    replace H := HS.joinDice H 0 rfl K (fun A hA => by simp only [List.mem_cons, List.mem_nil_iff, or_false] at hA; rcases hA with rfl | rfl <;> rfl)
    clear K hln hl2
    simp only [List.nil_append, List.cons_append] at H
    obtain ⟨s1, c1, rfl⟩ := ownsRow_slice (H.at 1 rfl)
    skip
    try clear C
    try simp only [World.size_alloc, List.nil_append, List.cons_append, List.append_assoc] at H
    have C := H.cells
    try simp only [cellsOf, cellsM, apartOf, apartM, and_true] at C
    dsimp only
    have HM1 := Lib.hid (fun w => gives_ofP (mod_any page 3 w))
    have HM2 := Lib.hid (fun w => gives_ofP (mod_any word 4 w))
    have hm1 := modF_in (n := page) (m := 3) (by decide) (by decide)
    have hm2 := modF_in (n := word) (m := 4) (by decide) (by decide)
    generalize modF page 3 = g at HM1 hm1
    generalize modF word 4 = wd at HM2 hm2
    go_upto_region 4 with (at_builtin; refine wpList_append_H rfl (.tmp 26) (.tmp 28) 22 rfl elemOp H.alloc 1 rfl rfl 3 rfl rfl rfl rfl (by decide) (by unfold maxLen; omega) (by omega) (fun g1 d1 wz HZ => ?_); clear H C)
    simp only [List.nil_append, List.cons_append, List.append_assoc, List.set_cons_succ, List.set_cons_zero] at HZ
    have H := HZ
    clear HZ
    skip
    try clear C
    try simp only [World.size_alloc, List.nil_append, List.cons_append, List.append_assoc] at H
    have C := H.cells
    try simp only [cellsOf, cellsM, apartOf, apartM, and_true] at C
    go_wp2_with fail
    refine (HM1.out _).mono ?_
    rintro _ w3 ⟨rfl, hb⟩
    replace H := H.below hb
    clear hb
    try clear C
    try simp only [World.size_alloc, List.nil_append, List.cons_append, List.append_assoc] at H
    try clear wz
    have C := H.cells
    try simp only [cellsOf, cellsM, apartOf, apartM, and_true] at C
    dsimp only
    go_wp2_with fail
    refine (HM2.out _).mono ?_
    rintro _ w4 ⟨rfl, hb⟩
    replace H := H.below hb
    clear hb
    try clear C
    try simp only [World.size_alloc, List.nil_append, List.cons_append, List.append_assoc] at H
    try clear w3
    have C := H.cells
    try simp only [cellsOf, cellsM, apartOf, apartM, and_true] at C
    dsimp only
    clear HM1 HM2
    go_upto_region 5 with fail
    generalize hwb : w4.alloc _ = w5
    replace H := HS.eqW hwb H.alloc
    try simp only [World.size_alloc, List.nil_append, List.cons_append, List.append_assoc] at H
    clear hwb
    generalize w4.heap.size = b8 at H ⊢
    try clear C
    try clear w4
    have C := H.cells
    try simp only [cellsOf, cellsM, apartOf, apartM, and_true] at C
    go_upto_region 6 with fail
    generalize hwb : w5.alloc _ = w6
    replace H := HS.eqW hwb H.alloc
    try simp only [World.size_alloc, List.nil_append, List.cons_append, List.append_assoc] at H
    clear hwb
    generalize w5.heap.size = b9 at H ⊢
    try clear C
    try clear w5
    have C := H.cells
    try simp only [cellsOf, cellsM, apartOf, apartM, and_true] at C
    go_upto_region 7 with fail
    generalize hwb : World.setCell _ _ _ = w9
    replace H := HS.eqW hwb (H.setTo (o := 1) (v := .int .i64 9) 5 rfl rfl)
    clear hwb
    simp only [List.set_cons_succ, List.set_cons_zero] at H
    skip
    try clear C
    try simp only [World.size_alloc, List.nil_append, List.cons_append, List.append_assoc] at H
    have C := H.cells
    try simp only [cellsOf, cellsM, apartOf, apartM, and_true] at C
    go_upto_region 8 with fail
    generalize hwb : (w9.alloc _).alloc _ = w7
    replace H := HS.eqW hwb H.alloc.alloc
    try simp only [World.size_alloc, List.nil_append, List.cons_append, List.append_assoc] at H
    clear hwb
    generalize w9.heap.size + 1 = b10 at H ⊢
    generalize w9.heap.size = b41 at H ⊢
    try clear C
    try clear w9
    have C := H.cells
    try simp only [cellsOf, cellsM, apartOf, apartM, and_true] at C
    go_upto_region 9 with (at_builtin; refine wpList_append_H rfl (.tmp 43) (.tmp 49) 22 rfl elemOp H.alloc 1 rfl rfl 8 rfl rfl rfl rfl (by decide) (by unfold maxLen; omega) (by omega) (fun g2 d2 wy HZ => ?_); clear H C)
    simp only [List.nil_append, List.cons_append, List.append_assoc, List.set_cons_succ, List.set_cons_zero] at HZ
    have H := HZ
    clear HZ
    obtain ⟨L, hL⟩ : ∃ L : List Ox, L = l ++ [fk9] ++ [⟨1, 1, g, wd, 0, none, 0, 0⟩, ⟨1, 9, g, wd, 0, none, 0, 0⟩, ⟨2, 1, g, wd, 0, some ⟨b41, 0, none⟩, 1, 1⟩, ⟨1, 1, g, wd, 0, none, 0, 0⟩, ⟨1, 9, g, wd, 0, none, 0, 0⟩] := ⟨_, rfl⟩
    have hLl : L.length = l.length + 1 + 5 := by rw [hL]; simp
    replace H : HS NoD w [.row (.slice (some ⟨g2, 0, none⟩) L.length d2) 38 6 L.length (L.flatMap oxC)] wy := by
      have H9 := HS.less (L' := [_]) H (.cons _ (.cons_cons _ (List.nil_sublist _)))
      rw [hLl, hL]
      simpa [fk9, oxC] using H9
    obtain ⟨a, ok, s1', s2', s3', s4'⟩ := forks_law l ⟨hm1.1, by omega⟩ ⟨hm2.1, by omega⟩ (some ⟨b41, 0, none⟩) 1 hL
    have hcap := row_cap40 (H.at 0 rfl)
    have hLx : L.length ≤ 1000000 := by omega
    have q1 : IntKind.i64.wrap ((L.length : Int) - 5) = (l.length : Int) + 1 := by rw [IntWalk.i64_in _ (by omega)]; omega
    have q2 : IntKind.i64.wrap ((L.length : Int) - 4) = (l.length : Int) + 2 := by rw [IntWalk.i64_in _ (by omega)]; omega
    have q3 : IntKind.i64.wrap ((L.length : Int) - 2) = (l.length : Int) + 4 := by rw [IntWalk.i64_in _ (by omega)]; omega
    have q4 : IntKind.i64.wrap ((L.length : Int) - 1) = (l.length : Int) + 5 := by rw [IntWalk.i64_in _ (by omega)]; omega
    have q5 : IntKind.i64.wrap ((L.length : Int) - 3) = (l.length : Int) + 3 := by rw [IntWalk.i64_in _ (by omega)]; omega
    have S1 := Lib.hid (fun w h => source_any (l := L) hLx ((l.length : Int) + 1) (sa := some ⟨g2, 0, none⟩) (c := d2) hcap w h)
    have S2 := Lib.hid (fun w h => source_any (l := L) hLx ((l.length : Int) + 2) (sa := some ⟨g2, 0, none⟩) (c := d2) hcap w h)
    have S3 := Lib.hid (fun w h => source_any (l := L) hLx ((l.length : Int) + 4) (sa := some ⟨g2, 0, none⟩) (c := d2) hcap w h)
    have S4 := Lib.hid (fun w h => source_any (l := L) hLx ((l.length : Int) + 5) (sa := some ⟨g2, 0, none⟩) (c := d2) hcap w h)
    rw [s1'] at S1
    rw [s2'] at S2
    rw [s3'] at S3
    rw [s4'] at S4
    obtain ⟨n3, hn3⟩ : ∃ n, n = (l.length : Int) + 3 := ⟨_, rfl⟩
    rw [← hn3] at q5 S3
    clear s1' s2' s3' s4' hL hm1 hm2 hlm hcap hLx hn3
    obtain ⟨NL, hNL⟩ : ∃ n, n = l.length + 1 + 5 := ⟨_, rfl⟩
    rw [← hNL] at hLl ⊢
    rw [hLl] at H q1 q2 q3 q4 q5 S1 S2 S3 S4
    have HLL := Lib.hid hLl
    clear hLl hNL
    skip
    try clear C
    try simp only [World.size_alloc, List.nil_append, List.cons_append, List.append_assoc] at H
    have C := H.cells
    try simp only [cellsOf, cellsM, apartOf, apartM, and_true] at C
    go_wp2_with fail
    refine (S1.out _ (by rw [← HLL.out]; exact H.rowLies 0 oxC_len (xs := L) (by rw [HLL.out]; rfl) rfl)).mono ?_
    rintro _ w8 ⟨rfl, hb⟩
    replace H := H.below hb
    clear hb
    try clear C
    try simp only [World.size_alloc, List.nil_append, List.cons_append, List.append_assoc] at H
    try clear wy
    have C := H.cells
    try simp only [cellsOf, cellsM, apartOf, apartM, and_true] at C
    dsimp only
    go_wp2_with fail
    refine (S2.out _ (by rw [← HLL.out]; exact H.rowLies 0 oxC_len (xs := L) (by rw [HLL.out]; rfl) rfl)).mono ?_
    rintro _ w9 ⟨rfl, hb⟩
    replace H := H.below hb
    clear hb
    try clear C
    try simp only [World.size_alloc, List.nil_append, List.cons_append, List.append_assoc] at H
    try clear w8
    have C := H.cells
    try simp only [cellsOf, cellsM, apartOf, apartM, and_true] at C
    dsimp only
    skip
    cases ok with
    | false =>
      rw [if_neg (show ¬ (false = true) by decide)] at S3
      skip
      go_wp2_with fail
      refine (S3.out _ (by rw [← HLL.out]; exact H.rowLies 0 oxC_len (xs := L) (by rw [HLL.out]; rfl) rfl)).mono ?_
      rintro _ w10 ⟨rfl, hb⟩
      replace H := H.below hb
      clear hb
      try clear C
      try simp only [World.size_alloc, List.nil_append, List.cons_append, List.append_assoc] at H
      try clear w9
      have C := H.cells
      try simp only [cellsOf, cellsM, apartOf, apartM, and_true] at C
      dsimp only
      go_wp2_with fail
      refine (S4.out _ (by rw [← HLL.out]; exact H.rowLies 0 oxC_len (xs := L) (by rw [HLL.out]; rfl) rfl)).mono ?_
      rintro _ w11 ⟨rfl, hb⟩
      replace H := H.below hb
      clear hb
      try clear C
      try simp only [World.size_alloc, List.nil_append, List.cons_append, List.append_assoc] at H
      try clear w10
      have C := H.cells
      try simp only [cellsOf, cellsM, apartOf, apartM, and_true] at C
      dsimp only
      go_wp2_with fail
      refine (HAW.out _).mono ?_
      rintro _ w12 ⟨rfl, hb⟩
      replace H := H.below hb
      clear hb
      try clear C
      try simp only [World.size_alloc, List.nil_append, List.cons_append, List.append_assoc] at H
      try clear w11
      have C := H.cells
      try simp only [cellsOf, cellsM, apartOf, apartM, and_true] at C
      dsimp only
      go_wp2_with fail
      go_ret
      exact ⟨rfl, H.done⟩
    | true =>
      rw [if_pos rfl] at S3
      skip
      go_wp2_with fail
      refine (S3.out _ (by rw [← HLL.out]; exact H.rowLies 0 oxC_len (xs := L) (by rw [HLL.out]; rfl) rfl)).mono ?_
      rintro _ w13 ⟨rfl, hb⟩
      replace H := H.below hb
      clear hb
      try clear C
      try simp only [World.size_alloc, List.nil_append, List.cons_append, List.append_assoc] at H
      try clear w9
      have C := H.cells
      try simp only [cellsOf, cellsM, apartOf, apartM, and_true] at C
      dsimp only
      go_wp2_with fail
      refine (S4.out _ (by rw [← HLL.out]; exact H.rowLies 0 oxC_len (xs := L) (by rw [HLL.out]; rfl) rfl)).mono ?_
      rintro _ w14 ⟨rfl, hb⟩
      replace H := H.below hb
      clear hb
      try clear C
      try simp only [World.size_alloc, List.nil_append, List.cons_append, List.append_assoc] at H
      try clear w13
      have C := H.cells
      try simp only [cellsOf, cellsM, apartOf, apartM, and_true] at C
      dsimp only
      go_wp2_with fail
      refine (HAW.out _).mono ?_
      rintro _ w15 ⟨rfl, hb⟩
      replace H := H.below hb
      clear hb
      try clear C
      try simp only [World.size_alloc, List.nil_append, List.cons_append, List.append_assoc] at H
      try clear w14
      have C := H.cells
      try simp only [cellsOf, cellsM, apartOf, apartM, and_true] at C
      dsimp only
      go_wp2_with fail
      go_ret
      exact ⟨rfl, H.done⟩
  · rw [decide_eq_false h400] at hli
    have HLI := Lib.hid hli
    clear hli
    go_enter Try.func5, Try.ntmps5
    have H := HS.start NoD w
    go_wp2_with fail
    refine (gives_ofP (HLI.out _)).mono ?_
    rintro _ w1 ⟨rfl, hb⟩
    replace H := H.below hb
    clear hb
    try clear C
    try simp only [World.size_alloc, List.nil_append, List.cons_append, List.append_assoc] at H
    have C := H.cells
    try simp only [cellsOf, cellsM, apartOf, apartM, and_true] at C
    dsimp only
    go_wp2_with fail
    refine (HAW.out _).mono ?_
    rintro _ w2 ⟨rfl, hb⟩
    replace H := H.below hb
    clear hb
    try clear C
    try simp only [World.size_alloc, List.nil_append, List.cons_append, List.append_assoc] at H
    try clear w1
    have C := H.cells
    try simp only [cellsOf, cellsM, apartOf, apartM, and_true] at C
    dsimp only
    go_wp2_with fail
    go_ret
    exact ⟨rfl, H.done⟩
end Go.Proofs.Ythpoanlmaafanaa
