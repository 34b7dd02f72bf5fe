/- Chapter 26's answers: Same at equal gauges, Leak, Over; ints at equal lists. -/
import Derived.Test.YtdcieajdgmopkaaRate5
namespace Go.Proofs.Ytdcieajdgmopkaa
set_option linter.unusedSimpArgs false
set_option linter.unusedVariables false
open Go.RowKit
set_option maxRecDepth 100000
attribute [local go_sem] lt_more ne_more ne_more'

set_option maxHeartbeats 4000000 in
theorem same26 (P L : Int) {sa sb : Option Addr} (c d : Nat) {xs : List G3} (hx : xs.length ≤ 100000) (w : World) (hl : Lies w w.heap.size sa 3 xs.length (fun j => gC xs[j]!)) (hm : Lies w w.heap.size sb 3 xs.length (fun j => gC xs[j]!)) :
    Calls Try.prog 11 #[vG P L (.slice sa xs.length c), vG P L (.slice sb xs.length d)] w (Gives (.bool true) w) := by
  have HL := Lib.hid hl
  have HM := Lib.hid hm
  clear hl hm
  go_enter Try.func11, Try.ntmps11
  have H := HS.start NoD w
  go_wp2_with fail
  generalize hwb : (w.alloc _).alloc _ = w1
  replace H := HS.eqW hwb H.alloc.alloc
  try simp only [World.size_alloc, List.nil_append, List.cons_append, List.append_assoc] at H
  clear hwb
  generalize w.heap.size + 1 = bB at H ⊢
  generalize w.heap.size = bA at H ⊢
  try clear C
  have C := H.cells
  try simp only [cellsOf, apartOf, and_true] at C
  go_loopw [31] (fun i wr => ∃ (j : Nat), i = .int .i64 j ∧ j ≤ xs.length ∧ HS NoD w [.blk bA #[.int .i64 P, .int .i64 L, .slice sa xs.length c] 24, .blk bB #[.int .i64 P, .int .i64 L, .slice sb xs.length d] 24] wr) (fun i _ => xs.length - (intOf i).toNat)
  case atStart => exact ⟨0, rfl, Nat.zero_le _, H⟩
  case round =>
    clear H C w1
    obtain ⟨j, rfl, hj, H⟩ := hrel
    skip
    try clear C
    try simp only [World.size_alloc, List.nil_append, List.cons_append, List.append_assoc] at H
    have C := H.cells
    try simp only [cellsOf, apartOf, and_true] at C
    by_cases hlt : j < xs.length
    · obtain ⟨b, o, rfl, hb, hc⟩ := (H.lies HL.out).at hlt
      obtain ⟨x, hxj⟩ : ∃ x, x = xs[j]! := ⟨_, rfl⟩
      rw [← hxj] at hc
      have HX := Lib.hid hxj
      clear hxj
      obtain ⟨p, l, t⟩ := x
      have c0 : wr.cell? ⟨b, o + j * 3, none⟩ = some (.int .i64 p) := hc 0 _ rfl
      have c1 : wr.cell? ⟨b, o + j * 3 + 1, none⟩ = some (.int .i64 l) := hc 1 _ rfl
      have c2 : wr.cell? ⟨b, o + j * 3 + 2, none⟩ = some (.int .i64 t) := hc 2 _ rfl
      clear hc
      go_upto_region 6 with fail
      generalize hwb : wr.alloc _ = w2
      replace H := HS.eqW hwb H.alloc
      try simp only [World.size_alloc, List.nil_append, List.cons_append, List.append_assoc] at H
      clear hwb
      generalize wr.heap.size = bx at H ⊢
      try clear C
      try clear wr
      have C := H.cells
      try simp only [cellsOf, apartOf, and_true] at C
      obtain ⟨b', o', rfl, hb', hc'⟩ := (H.lies HM.out).at hlt
      rw [← HX.out] at hc'
      have d0 : w2.cell? ⟨b', o' + j * 3, none⟩ = some (.int .i64 p) := hc' 0 _ rfl
      have d1 : w2.cell? ⟨b', o' + j * 3 + 1, none⟩ = some (.int .i64 l) := hc' 1 _ rfl
      have d2 : w2.cell? ⟨b', o' + j * 3 + 2, none⟩ = some (.int .i64 t) := hc' 2 _ rfl
      clear hc' c0 c1 c2
      go_region
      go_wp2_with fail
      go_roundw
      case rel => exact ⟨j + 1, by go_num, by omega, H.drew.less (by repeat (first | exact .slnil | refine .cons_cons _ ?_ | refine .cons _ ?_))⟩
      case measure => simp [intOf]; omega
    · skip
      go_wp2_with fail
      go_ret
      exact ⟨rfl, H.done⟩
set_option maxHeartbeats 4000000 in
theorem rleak_ok {P T : Int} (L : Int) {sa : Option Addr} (c : Nat) {xs : List G3} (hok : GOK P T xs) (w : World) (hl : Lies w w.heap.size sa 3 xs.length (fun j => gC xs[j]!)) :
    Calls Try.prog 24 #[vG P L (.slice sa xs.length c), .int .i64 T] w (GivesS (vG P L) 33 3 (leakL P T xs).length ((leakL P T xs).flatMap gC) w) := by
  have HL := Lib.hid hl
  have HOK := Lib.hid hok
  have hxl := hok.len
  clear hl hok
  go_enter Try.func24, Try.ntmps24
  have H := HS.start NoD w
  go_wp2_with fail
  generalize hwb : ((w.alloc _).alloc _).alloc _ = w1
  replace H := HS.eqW hwb H.alloc.alloc.alloc
  try simp only [World.size_alloc, List.nil_append, List.cons_append, List.append_assoc] at H
  clear hwb
  generalize w.heap.size + 2 = bO at H ⊢
  generalize w.heap.size + 1 = bR at H ⊢
  generalize w.heap.size = bG at H ⊢
  try clear C
  have C := H.cells
  try simp only [cellsOf, apartOf, and_true] at C
  have hn := H.nilRow 33 3
  clear H
  have H := hn
  clear hn
  try simp only [List.nil_append, List.cons_append] at H
  go_loopw [17] (fun i wr => ∃ (j : Nat) (v : Value), i = .int .i64 j ∧ j ≤ xs.length ∧ HS NoD w [.blk bG #[.int .i64 P, .int .i64 L, .slice sa xs.length c] 24, .blk bR #[.int .i64 0, .int .i64 0, .slice none 0 0] 24, .blk bO #[.int .i64 P, .int .i64 L, v] 24, .row v 33 3 (leakL P T (xs.take j)).length ((leakL P T (xs.take j)).flatMap gC)] wr) (fun i _ => xs.length - (intOf i).toNat)
  case atStart => exact ⟨0, _, rfl, Nat.zero_le _, H⟩
  case round =>
    clear H C w1
    obtain ⟨j, v, rfl, hj, H⟩ := hrel
    skip
    try clear C
    try simp only [World.size_alloc, List.nil_append, List.cons_append, List.append_assoc] at H
    have C := H.cells
    try simp only [cellsOf, apartOf, and_true] at C
    by_cases hlt : j < xs.length
    · obtain ⟨b, o, rfl, hb, hc⟩ := (H.lies HL.out).at hlt
      have htk := leakL_take (P := P) (T := T) hlt
      have hxo := HOK.out.all xs[j]! (by rw [getElem!_pos xs j hlt]; exact List.getElem_mem _)
      obtain ⟨x, hx⟩ : ∃ x, x = xs[j]! := ⟨_, rfl⟩
      rw [← hx] at hc hxo htk
      obtain ⟨p, l, t⟩ := x
      have c0 : wr.cell? ⟨b, o + j * 3, none⟩ = some (.int .i64 p) := hc 0 _ rfl
      have c1 : wr.cell? ⟨b, o + j * 3 + 1, none⟩ = some (.int .i64 l) := hc 1 _ rfl
      have c2 : wr.cell? ⟨b, o + j * 3 + 2, none⟩ = some (.int .i64 t) := hc 2 _ rfl
      dsimp only at hxo
      have HTK := Lib.hid htk
      clear hc hx htk
      generalize hys : leakL P T (xs.take j) = ys at H C HTK
      have hylen : ys.length ≤ 1000 := by rw [← hys]; exact Nat.le_trans (leakL_len _ _ _) (Nat.le_trans (List.length_take_le' _ _) HOK.out.len)
      clear hys
      obtain ⟨q, hq⟩ : ∃ q, q = leakN P T ⟨p, l, t⟩ := ⟨_, rfl⟩
      have hgo : wrap64 (l - q) = l - q ∧ (t ≤ T → wrap64 (T - t) = T - t ∧ (T - t).tdiv P = q ∧ wrap64 q = q ∧ wrap64 (q * P) = q * P ∧ wrap64 (t + q * P) = t + q * P) ∧ (¬ t ≤ T → q = 0) := by
        have hT2 := HOK.out.T2
        have hT0 := HOK.out.T0
        by_cases hge : t ≤ T
        · have h1 := leakN_in (x := ⟨p, l, t⟩) HOK.out.P1 hge
          rw [← hq] at h1
          generalize q * P = m at h1 ⊢
          dsimp only at h1
          refine ⟨IntWalk.wrap64_in _ (by omega), fun _ => ⟨IntWalk.wrap64_in _ (by omega), h1.2.2.2.2, IntWalk.wrap64_in _ (by omega), IntWalk.wrap64_in _ (by omega), IntWalk.wrap64_in _ (by omega)⟩, fun h => absurd hge h⟩
        · have : q = 0 := by rw [hq]; unfold leakN; rw [if_neg hge]
          subst this
          exact ⟨IntWalk.wrap64_in _ (by omega), fun h => absurd h hge, fun _ => rfl⟩
      have htk2 : leakL P T (xs.take (j + 1)) = ys ++ (if 0 < l - q then [⟨p, l - q, t + q * P⟩] else []) := by
        rw [HTK.out]
        unfold leakG
        rw [← hq]
        dsimp only
        split <;> rfl
      have HTK2 := Lib.hid htk2
      have hP0 : P ≠ 0 := by have := HOK.out.P1; omega
      have hP1 : 0 < P := by have := HOK.out.P1; omega
      have hP2 : ¬ P = -1 := by have := HOK.out.P1; omega
      clear htk2 HTK hq
      obtain ⟨q0, qs, qz⟩ := hgo
      have hmx : wrap64 (T - t) = T - t := by have := HOK.out.T2; have := HOK.out.T0; exact IntWalk.wrap64_in _ (by omega)
      have hgo2 : (if t < T then T - t else 0).tdiv P = q ∧ wrap64 q = q ∧ wrap64 (q * P) = q * P ∧ wrap64 (t + q * P) = t + q * P := by
        by_cases hge : t ≤ T
        · obtain ⟨q1, q2, q3, q4, q5⟩ := qs hge
          refine ⟨?_, q3, q4, q5⟩
          by_cases h0 : t < T
          · rw [if_pos h0]; exact q2
          · rw [if_neg h0, ← q2, show T - t = 0 by omega]
        · obtain rfl := qz hge
          rw [if_neg (by omega), Int.zero_tdiv]
          have := hxo.2.2
          refine ⟨rfl, IntWalk.wrap64_in _ (by omega), by rw [Int.zero_mul]; exact IntWalk.wrap64_in _ (by omega), by rw [Int.zero_mul, Int.add_zero]; exact IntWalk.wrap64_in _ (by omega)⟩
      obtain ⟨q1, q2, q3, q4⟩ := hgo2
      clear qs qz
      go_upto_region 6 with fail
      generalize hwb : wr.alloc _ = w2
      replace H := HS.eqW hwb H.alloc
      try simp only [World.size_alloc, List.nil_append, List.cons_append, List.append_assoc] at H
      clear hwb
      generalize wr.heap.size = bx at H ⊢
      try clear C
      try clear wr
      have C := H.cells
      try simp only [cellsOf, apartOf, and_true] at C
      go_region
      generalize hwb : World.drew _ = wd
      have HD := HS.eqW hwb (((H.setTo (o := 1) (v := .int .i64 (l - q)) 4 rfl rfl).setTo (o := 2) (v := .int .i64 (t + q * P)) 4 rfl rfl).drew)
      clear hwb H C
      have H := HD
      clear HD
      simp only [List.nil_append, List.cons_append, List.append_assoc, List.set_cons_succ, List.set_cons_zero] at H
      have H : HS NoD w [.blk bG #[.int .i64 P, .int .i64 L, .slice (some ⟨b, o, none⟩) xs.length c] 24, .blk bR #[.int .i64 0, .int .i64 0, .slice none 0 0] 24, .blk bO #[.int .i64 P, .int .i64 L, v] 24, .row v 33 3 ys.length (ys.flatMap gC), .blk bx #[.int .i64 p, .int .i64 (l - q), .int .i64 (t + q * P)] 33] wd := H
      skip
      try clear C
      try simp only [World.size_alloc, List.nil_append, List.cons_append, List.append_assoc] at H
      have C := H.cells
      try simp only [cellsOf, apartOf, and_true] at C
      by_cases hpos : 0 < l - q
      · rw [if_pos hpos] at HTK2
        skip
        go_upto_region 8 with fail
        go_wp2_with (at_builtin; refine wpList_append_H rfl (.tmp 46) (.tmp 48) 22 rfl elemG H.alloc 3 rfl rfl 5 rfl rfl rfl rfl (by decide) (by unfold maxLen; omega) (by omega) (fun g cap wz HZ => ?_); clear H C; have C := HZ.cells; simp only [List.nil_append, List.cons_append, List.set_cons_succ, List.set_cons_zero, cellsOf, apartOf, and_true] at C)
        go_roundw
        case rel =>
          refine ⟨j + 1, .slice (some ⟨g, 0, none⟩) (ys.length + 1) cap, by go_num, by omega, ?_⟩
          rw [HTK2.out]
          have HY := HZ.setTo (o := 2) (v := .slice (some ⟨g, 0, none⟩) (ys.length + 1) cap) 2 rfl rfl
          rw [List.length_append, List.flatMap_append]
          exact HY.less (by repeat (first | exact .slnil | refine .cons_cons _ ?_ | refine .cons _ ?_))
        case measure => simp [intOf]; omega
      · rw [if_neg hpos, List.append_nil] at HTK2
        skip
        go_wp2_with fail
        go_roundw
        case rel => exact ⟨j + 1, v, by go_num, by omega, by rw [HTK2.out]; exact H.less (by repeat (first | exact .slnil | refine .cons_cons _ ?_ | refine .cons _ ?_))⟩
        case measure => simp [intOf]; omega
    · have hje : j = xs.length := by omega
      subst hje
      rw [List.take_length] at H
      skip
      try clear C
      try simp only [World.size_alloc, List.nil_append, List.cons_append, List.append_assoc] at H
      have C := H.cells
      try simp only [cellsOf, apartOf, and_true] at C
      obtain ⟨sb, d, rfl⟩ := ownsRow_slice (H.at 3 rfl)
      go_wp2_with fail
      generalize hwb : ((wr.setCell _ _).setCell _ _).setCell _ _ = w3
      replace H := HS.eqW hwb (H.putAll (i := 1) rfl (vs := [.int .i64 P, .int .i64 L, .slice sb (leakL P T xs).length d]) rfl rfl)
      simp only [List.nil_append, List.cons_append, List.append_assoc, List.set_cons_succ, List.set_cons_zero] at H
      clear hwb
      try clear C
      try clear wr
      have C := H.cells
      try simp only [cellsOf, apartOf, and_true] at C
      refine bodyPost_ret (by simp [results, Try.results24, go_sem, C]; try rfl) rfl ?_
      exact H.givesS 3 rfl
end Go.Proofs.Ytdcieajdgmopkaa
