/- Blobs and stores drawn from a stream. -/
import Derived.Test.YtheccfiidollpaaRlI
namespace Go.Proofs.Ytheccfiidollpaa
set_option linter.unusedSimpArgs false
set_option linter.unusedVariables false
open Go.RowKit
set_option maxRecDepth 100000
attribute [local irreducible] wpX wpF Calls

def GivesB1 (n : Nat) (B b : Nat) (w : World) (e : Ending) (w' : World) : Prop :=
  ∃ (s : Option Addr) (c : Nat) (bs : List Int), e = .returned (.slice s n c) ∧ bs.length = n ∧ HS (OneD b) w [.dice B b, .row (.slice s n c) 5 1 n (bs.flatMap bC1)] w'
set_option maxHeartbeats 4000000 in
theorem mbytes1_any (n : Nat) (hn : n ≤ 1000) (B b : Nat) (w : World) (hd : Dice B w b) (hB : B ≤ w.heap.size) :
    Calls Try.prog 18 #[.pointer (some ⟨b, 0, none⟩), .int .i64 n] w (GivesB1 n B b w) := by
  go_enter Try.func18, Try.ntmps18
  have H := HS.startDice hd hB
  have C := H.cells
  try simp only [cellsOf, cellsM, apartOf, apartM, and_true] at C
  clear hd
  have hnr := H.nilRow 5 1
  clear H
  have H := hnr
  clear hnr
  try simp only [List.nil_append, List.cons_append] at H
  try clear C
  try simp only [World.size_alloc, List.nil_append, List.cons_append, List.append_assoc] at H
  have C := H.cells
  try simp only [cellsOf, cellsM, apartOf, apartM, and_true] at C
  go_wp2_with fail
  go_loopw [1, 5] (fun nn u wr => ∃ (k : Nat) (bs : List Int), nn = .int .i64 k ∧ k + bs.length = n ∧ HS (OneD b) w [.dice B b, .row u 5 1 bs.length (bs.flatMap bC1)] wr) (fun nn _ _ => (intOf nn).toNat)
  case atStart => exact ⟨n, [], rfl, by simp, H⟩
  case round =>
    clear H C
    obtain ⟨k, bs, rfl, hk, H⟩ := hrel
    skip
    try clear C
    try simp only [World.size_alloc, List.nil_append, List.cons_append, List.append_assoc] at H
    have C := H.cells
    try simp only [cellsOf, cellsM, apartOf, apartM, and_true] at C
    by_cases hk0 : 0 < k
    · have hki : (0 : Int) < k := by omega
      have hbl : bs.length ≤ 1000 := by omega
      have hkw : IntKind.i64.wrap ((k : Int) - 1) = ((k - 1 : Nat) : Int) := by rw [IntWalk.i64_in _ (by omega)]; omega
      go_wp2_with fail
      refine (next_any 256 (by omega) B b _ (H.at 0 rfl)).mono ?_
      rintro _ w1 ⟨v0, rfl, hv0, hd, hg⟩
      replace H := (H).diceAt 0 rfl hg hd
      clear hg hd
      try clear C
      try simp only [World.size_alloc, List.nil_append, List.cons_append, List.append_assoc] at H
      try clear wr
      have C := H.cells
      try simp only [cellsOf, cellsM, apartOf, apartM, and_true] at C
      dsimp only
      go_wp2_with (at_builtin; refine wpList_append_H rfl (.tmp 10) (.tmp 14) 46 rfl elemBy H.alloc 1 rfl rfl 2 rfl rfl rfl rfl (by decide) (by unfold maxLen; omega) (by omega) (fun g cap wz HZ => ?_); clear H C)
      go_roundw
      case rel =>
        refine ⟨k - 1, bs ++ [v0 % 256], rfl, by rw [List.length_append]; simp; omega, ?_⟩
        rw [List.length_append, List.flatMap_append]
        exact HS.less HZ (by repeat (first | exact .slnil | refine .cons_cons _ ?_ | refine .cons _ ?_))
      case measure => simp [intOf]; omega
    · obtain rfl : k = 0 := by omega
      obtain ⟨s5, c5, rfl⟩ := ownsRow_slice (H.at 1 rfl)
      have hbn : bs.length = n := by omega
      subst hbn
      go_wp2_with fail
      go_ret
      exact ⟨s5, c5, bs, rfl, rfl, H⟩
def GivesBlobD (size : Nat) (B b : Nat) (w : World) (e : Ending) (w' : World) : Prop :=
  ∃ (q : Bv) (bm : Bm) (F : Nat → Prop), e = .returned (vBv q) ∧ 1 ≤ bm.id ∧ bm.id ≤ 6 ∧ GoodB size bm ∧ HS (OneD b) w [.dice B b, .any F (fun w => BlobAt w q bm)] w'
set_option maxHeartbeats 8000000 in
theorem mblob_any (size : Nat) (hsz : size ≤ 32) (B b : Nat) (w : World) (hd : Dice B w b) (hB : B ≤ w.heap.size) :
    Calls Try.prog 10 #[.pointer (some ⟨b, 0, none⟩), .int .i64 size] w (GivesBlobD size B b w) := by
  have HBY := Lib.hid (fun w hd hB => mbytes1_any size (by omega) B b w hd hB)
  have HBB := Lib.hid hB
  go_enter Try.func10, Try.ntmps10
  have H := HS.startDice hd hB
  have C := H.cells
  try simp only [cellsOf, cellsM, apartOf, apartM, and_true] at C
  clear hd
  go_upto_region 1 with fail
  generalize hwb : w.alloc _ = w1
  replace H := HS.eqW hwb H.alloc
  try simp only [World.size_alloc, List.nil_append, List.cons_append, List.append_assoc] at H
  clear hwb
  generalize w.heap.size = bR at H ⊢
  try clear C
  have C := H.cells
  try simp only [cellsOf, cellsM, apartOf, apartM, and_true] at C
  go_wp2_with fail
  refine (next_any 6 (by omega) B b _ (H.at 0 rfl)).mono ?_
  rintro _ w2 ⟨v0, rfl, hv0, hd, hg⟩
  replace H := (H).diceAt 0 rfl hg hd
  clear hg hd
  try clear C
  try simp only [World.size_alloc, List.nil_append, List.cons_append, List.append_assoc] at H
  try clear w1
  have C := H.cells
  try simp only [cellsOf, cellsM, apartOf, apartM, and_true] at C
  dsimp only
  have hv1 : v0 < 6 := hv0.lt (by omega)
  have hv2 : 0 ≤ v0 := hv0.1
  obtain ⟨id, hid⟩ : ∃ id, id = 1 + v0 := ⟨_, rfl⟩
  have hiw : IntKind.i64.wrap (1 + v0) = id := by rw [hid]; exact IntWalk.i64_in _ (by omega)
  have hid1 : 1 ≤ id ∧ id ≤ 6 := by omega
  clear hv0 hid hv1 hv2
  go_upto_region 2 with fail
  clear hiw
  generalize hwb : w2.alloc _ = w3
  replace H := HS.eqW hwb H.alloc
  try simp only [World.size_alloc, List.nil_append, List.cons_append, List.append_assoc] at H
  clear hwb
  generalize w2.heap.size = bX at H ⊢
  try clear C
  try clear w2
  have C := H.cells
  try simp only [cellsOf, cellsM, apartOf, apartM, and_true] at C
  have hn1 := (H.nilRow 46 1).anyNil
  clear H
  have H := hn1
  clear hn1
  simp only [List.nil_append, List.cons_append] at H
  try clear C
  try simp only [World.size_alloc, List.nil_append, List.cons_append, List.append_assoc] at H
  have C := H.cells
  try simp only [cellsOf, cellsM, apartOf, apartM, and_true] at C
  go_wp2_with fail
  go_loopw [10] (fun jj wr => ∃ (j : Nat) (s : Option Addr) (c : Nat) (ys : List Sv) (ws : List (List Int)) (F : Nat → Prop), jj = .int .i64 j ∧ j ≤ 4 ∧ ys.length = j ∧ ws.length = j ∧ Hid (∀ i, i < j → (ws[i]!).length = size) ∧ HS (OneD b) w [.dice B b, .blk bR #[.int .i64 0, .slice none 0 0] 32, .blk bX #[.int .i64 id, .slice s j c] 32, .row (.slice s j c) 46 1 j (ys.flatMap svC), .any F (fun w => ∀ i, i < j → BytesAt w ys[i]! ws[i]!)] wr) (fun jj _ => 4 - (intOf jj).toNat)
  case atStart => exact ⟨0, none, 0, [], [], fun _ => False, rfl, by omega, rfl, rfl, (show Hid _ from fun i hi => absurd hi (Nat.not_lt_zero _)), HS.weak (L := [_, _, _, _]) H (fun _ _ i hi => absurd hi (Nat.not_lt_zero _))⟩
  case round =>
    clear H C
    obtain ⟨j, s, c, ys, ws, F, rfl, hj, hyl, hwl, HSZ, H⟩ := hrel
    skip
    try clear C
    try simp only [World.size_alloc, List.nil_append, List.cons_append, List.append_assoc] at H
    have C := H.cells
    try simp only [cellsOf, cellsM, apartOf, apartM, and_true] at C
    skip
    by_cases hlt : j < 4
    · have hji : (j : Int) < 4 := by omega
      have HYL := Lib.hid hyl
      have HWL := Lib.hid hwl
      clear hyl hwl
      have hXb : bX ≠ b := fun e => H.apart (i := 2) (j := 0) rfl rfl (by decide) rfl e
      have hXs : ¬ (Value.slice s j c).ownBlock = some bX := fun e => H.apart (i := 3) (j := 2) rfl rfl (by decide) e rfl
      have HKF := Lib.hid (show ∀ w, (fun w => ∀ i, i < j → BytesAt w ys[i]! ws[i]!) w → ∀ i, i < j → BytesAt w ys[i]! ws[i]! from fun _ h => h)
      have HSV := Lib.hid (fun x => show ys.flatMap svC ++ [Sv.v x] = (ys ++ [x]).flatMap svC by rw [List.flatMap_append]; rfl)
      have HON := Lib.hid (svC_one ys)
      generalize ys.flatMap svC = cj at H HSV HON
      generalize (fun w => ∀ i, i < j → BytesAt w ys[i]! ws[i]!) = KF at H HKF
      go_upto_region 4 with fail
      refine wp_region_hz (by kernel_rfl) [0, 1, 2, 3, 4, 5, 6, 7] (by kernel_rfl) (by kernel_rfl) (by kernel_rfl) rfl (fun k => k = b ∨ (Value.slice s j c).ownBlock = some k) (H) ?_
      clear H; intro w4 H hz0
      try clear C
      try simp only [World.size_alloc, List.nil_append, List.cons_append, List.append_assoc] at H hz0 ⊢
      clear hz0
      try clear wr
      have C := H.cells
      try simp only [cellsOf, cellsM, apartOf, apartM, and_true] at C
      have Z := H.zs
      try simp only [ltsOf, ltsM, and_true] at Z
      simp only [List.filterMap_cons, List.filterMap_nil, List.getElem?_toArray, List.getElem?_cons_zero, List.getElem?_cons_succ]
      (refine wpH_free rfl rfl rfl (fun _ _ => ?_); go_step; go_step)
      (refine wpH_load rfl rfl rfl (by simp [Stay, OneD, NoD, *]) (by simp [*]) (fun _ _ => ?_); go_step; go_step)
      (refine wpH_free rfl rfl rfl (fun _ _ => ?_); go_step; go_step)
      (refine wpH_free rfl rfl rfl (fun _ _ => ?_); go_step; go_step)
      (refine wpH_call rfl rfl (fun wc hc _ _ => ?_); go_step; refine (HBY.out _ (hc.hs.at 0 rfl) (Nat.le_trans HBB.out hc.hs.size)).mono ?_; rintro _ wd ⟨sx, cx, bs, rfl, hbl, K⟩; dsimp only; go_step; refine ⟨_, (hc.joinDiceH (fun _ h => h.1) 0 rfl (fun h => h.2 (by first | exact rfl | exact .inl rfl)) (K) (one_low rfl)).1, (hc.joinDiceH (fun _ h => h.1) 0 rfl (fun h => h.2 (by first | exact rfl | exact .inl rfl)) (K) (one_low rfl)).2, ?_⟩; clear hc; try clear wc wd)
      (refine wpH_lit rfl rfl #[.slice sx size cx]   46 1 (fun w => by kernel_rfl) (fun bL hbL nbL _ _ => ?_); go_simp; go_step)
      refine wpH_append rfl (.tmp 13) (.tmp 17) 30 rfl elemWd 3 rfl rfl (fun k hk hS => hS.2 (.inr hk)) (fun _ h => h.1) rfl (fun w hc => src_lit (Fl.at _ _ _) hc) rfl (fun y hy => svC_one [⟨sx, size, cx⟩] y (by simpa [svC] using hy)) (by unfold maxLen; omega) (by omega) (N := j + 1) rfl (fun s2 c2 hs2 => ?_)
      (refine wpH_free rfl rfl rfl (fun _ _ => ?_); go_step; go_step)
      refine wpH_nil ?_
      intro w5 hC
      replace H := hC.hs
      clear hC
      try clear C
      try clear Z
      try simp only [List.nil_append, List.cons_append, List.append_assoc, List.set_cons_succ, List.set_cons_zero] at H
      try clear w4
      have C := H.cells
      try simp only [cellsOf, cellsM, apartOf, apartM, and_true] at C
      go_upto_region 5 with fail
      generalize hwb : World.setCell _ _ _ = w9
      have H9 := HS.eqW hwb (H.setTo (o := 1) (v := .slice s2 (j + 1) c2) 2 rfl rfl)
      clear H C hwb
      simp only [List.set_cons_succ, List.set_cons_zero] at H9
      have hsv := HSV.out ⟨sx, size, cx⟩
      have H8 := HS.anyOf (L := [_, _, _, _, _]) H9 rfl
      have H7 := HS.merge (L := [_, _, _, _]) H8
      have H6 := HS.weak (L := [_, _, _, _]) H7 (K' := fun w => ∀ i, i < j + 1 → BytesAt w (ys ++ [(⟨sx, size, cx⟩ : Sv)])[i]! (ws ++ [bs])[i]!) (fun w' ⟨a1, a2⟩ i hi => by
        by_cases e : i < j
        · rw [app_get1 (by rw [HYL.out]; exact e), app_get1 (by rw [HWL.out]; exact e)]; exact HKF.out w' a1 i e
        · obtain rfl : i = j := by omega
          have e1 : (ys ++ [(⟨sx, size, cx⟩ : Sv)])[i]! = ⟨sx, size, cx⟩ := by have := app_get2 ys (⟨sx, size, cx⟩ : Sv); rwa [HYL.out] at this
          have e2 : (ws ++ [bs])[i]! = bs := by have := app_get2 ws bs; rwa [HWL.out] at this
          rw [e1, e2]
          exact bytes_row hbl.symm a2)
      have HSZ2 := Lib.hid (show ∀ i, i < j + 1 → ((ws ++ [bs])[i]!).length = size from fun i hi => by
        by_cases e : i < j
        · rw [app_get1 (by rw [HWL.out]; exact e)]; exact HSZ.out i e
        · obtain rfl : i = j := by omega
          have e2 : (ws ++ [bs])[i]! = bs := by have := app_get2 ws bs; rwa [HWL.out] at this
          rw [e2]; exact hbl)
      obtain ⟨F6, H6⟩ : ∃ F6, HS (OneD b) w [.dice B b, .blk bR #[.int .i64 0, .slice none 0 0] 32, .blk bX #[.int .i64 id, .slice s2 (j + 1) c2] 32, .row (.slice s2 (j + 1) c2) 46 1 (j + 1) ((ys ++ [(⟨sx, size, cx⟩ : Sv)]).flatMap svC), .any F6 (fun w => ∀ i, i < j + 1 → BytesAt w (ys ++ [(⟨sx, size, cx⟩ : Sv)])[i]! (ws ++ [bs])[i]!)] w9 := ⟨_, by rw [← hsv]; exact H6⟩
      clear H7 H8 H9 hsv
      go_wp2_with fail
      go_roundw
      case rel => exact ⟨j + 1, s2, c2, ys ++ [(⟨sx, size, cx⟩ : Sv)], ws ++ [bs], F6, by go_num, by omega, by rw [List.length_append, HYL.out]; rfl, by rw [List.length_append, HWL.out]; rfl, HSZ2, H6⟩
      case measure => simp [intOf]; omega
    · obtain rfl : j = 4 := by omega
      have HYL := Lib.hid hyl
      have HWL := Lib.hid hwl
      clear hyl hwl
      skip
      go_wp2_with fail
      generalize hwb : (wr.setCell _ _).setCell _ _ = w6
      replace H := HS.eqW hwb (H.putAll (i := 1) rfl (vs := [.int .i64 id, .slice s 4 c]) rfl rfl)
      simp only [List.nil_append, List.cons_append, List.append_assoc, List.set_cons_succ, List.set_cons_zero] at H
      clear hwb
      try clear C
      try clear wr
      have C := H.cells
      try simp only [cellsOf, cellsM, apartOf, apartM, and_true] at C
      refine bodyPost_ret (by simp [results, Try.results10, go_sem, C]; try rfl) rfl ?_
      have H9 := HS.less (L' := [.dice B b, .row (.slice s 4 c) 46 1 4 (ys.flatMap svC), .any F (fun w => ∀ i, i < 4 → BytesAt w ys[i]! ws[i]!)]) H (by repeat (first | exact .slnil | refine .cons_cons _ ?_ | refine .cons _ ?_))
      have H8 := H9.permu (L' := [.dice B b, .any F (fun w => ∀ i, i < 4 → BytesAt w ys[i]! ws[i]!), .row (.slice s 4 c) 46 1 4 (ys.flatMap svC)]) (List.Perm.cons _ (List.Perm.swap _ _ []))
      have hws : (fun w => ∀ i, i < 4 → BytesAt w ys[i]! ws[i]!) = (fun w => ∀ i, i < ws.length → BytesAt w ys[i]! ws[i]!) := by rw [HWL.out]
      rw [hws] at H8
      have H7 := HS.wordsOf (L := [.dice B b]) H8 HYL.out.symm (by rw [HYL.out, HWL.out])
      have H6 := HS.weak (L := [.dice B b]) H7 (K' := fun w => BlobAt w ⟨id, ⟨s, 4, c⟩⟩ ⟨id, ws⟩) fun w' h => ⟨rfl, h⟩
      obtain ⟨F6, H6⟩ : ∃ F6, HS (OneD b) w [.dice B b, .any F6 (fun w => BlobAt w ⟨id, ⟨s, 4, c⟩⟩ ⟨id, ws⟩)] _ := ⟨_, H6⟩
      exact ⟨⟨id, ⟨s, 4, c⟩⟩, ⟨id, ws⟩, F6, rfl, hid1.1, hid1.2, ⟨hid1.1, by have := hid1.2; dsimp only; omega, HWL.out, fun i hi => HSZ.out i hi⟩, H6⟩
end Go.Proofs.Ytheccfiidollpaa
