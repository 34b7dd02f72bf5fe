/- Plan (chapter 39): crowded, in (of the specification). -/
import Derived.Test.YtdhnpjgnnfgklaaPlG
namespace Go.Proofs.Ytdhnpjgnnfgklaa
set_option linter.unusedSimpArgs false
set_option linter.unusedVariables false
open Go.RowKit
set_option maxRecDepth 100000
attribute [local irreducible] wpX wpF Calls
attribute [local go_sem] run_mkMapG

theorem chan_iff {x y : P6} : chanP x = chanP y ↔ x.a = y.a ∧ x.b = y.b := by
  unfold chanP; simp
set_option maxHeartbeats 8000000 in
theorem rcrowded_any (most : Int) {sa : Option Addr} (c : Nat) {rs : List P6} (hx : rs.length ≤ 100000) (w : World) (hl : Lies w w.heap.size sa 6 rs.length (fun j => pC rs[j]!)) :
    Calls Try.prog 36 #[.slice sa rs.length c, .int .i64 most] w (Gives (.bool (crowdP chanP rs most)) w) := by
  have HL := Lib.hid hl
  clear hl
  go_enter Try.func36, Try.ntmps36
  have H := HS.start NoD w
  go_wp2_with fail
  go_loopw [12] (fun j wr => ∃ (k : Nat), j = .int .i64 k ∧ k ≤ rs.length ∧ Hid (∀ i, i < k → (cntP chanP rs (chanP rs[i]!) : Int) ≤ most) ∧ HS NoD w [] wr) (fun j _ => rs.length - (intOf j).toNat)
  case atStart => exact ⟨0, rfl, Nat.zero_le _, (show Hid _ from fun i hi => absurd hi (Nat.not_lt_zero _)), H⟩
  case round =>
    clear H
    obtain ⟨k, rfl, hk, HA, H⟩ := hrel
    skip
    by_cases hlt : k < rs.length
    · have hki : (k : Int) < rs.length := by omega
      obtain ⟨b, o, rfl, hb, hc⟩ := (H.lies HL.out).at hlt
      obtain ⟨q, hq⟩ : ∃ q, q = rs[k]! := ⟨_, rfl⟩
      rw [← hq] at hc
      have HQ := Lib.hid hq
      clear hq
      obtain ⟨p0, p1, p2, p3, p4, p5⟩ := q
      have c0 : wr.cell? ⟨b, o + k * 6, none⟩ = some (.int .i64 p0) := hc 0 _ rfl
      have c1 : wr.cell? ⟨b, o + k * 6 + 1, none⟩ = some (.int .i64 p1) := hc 1 _ rfl
      have c2 : wr.cell? ⟨b, o + k * 6 + 2, none⟩ = some (.int .i64 p2) := hc 2 _ rfl
      have c3 : wr.cell? ⟨b, o + k * 6 + 3, none⟩ = some (.int .i64 p3) := hc 3 _ rfl
      have c4 : wr.cell? ⟨b, o + k * 6 + 4, none⟩ = some (.int .i64 p4) := hc 4 _ rfl
      have c5 : wr.cell? ⟨b, o + k * 6 + 5, none⟩ = some (.int .i64 p5) := hc 5 _ rfl
      clear hc hb
      go_upto_region 4 with fail
      clear c0 c1 c2 c3 c4 c5
      generalize hwb : wr.alloc _ = w1
      replace H := HS.eqW hwb H.alloc
      try simp only [World.size_alloc, List.nil_append, List.cons_append, List.append_assoc] at H
      clear hwb
      generalize wr.heap.size = bR at H ⊢
      try clear C
      try clear wr
      have C := H.cells
      try simp only [cellsOf, cellsM, apartOf, apartM, and_true] at C
      go_wp2_with fail
      go_loopw [7, 18] (fun nn ii wr => ∃ (n i : Nat), nn = .int .i64 n ∧ ii = .int .i64 i ∧ i ≤ rs.length ∧ Hid (n = cntP chanP (rs.take i) (chanP ⟨p0, p1, p2, p3, p4, p5⟩)) ∧ HS NoD w [.blk bR #[.int .i64 p0, .int .i64 p1, .int .i64 p2, .int .i64 p3, .int .i64 p4, .int .i64 p5] 39] wr) (fun _ ii _ => rs.length - (intOf ii).toNat)
      case atStart => exact ⟨0, 0, rfl, rfl, Nat.zero_le _, (show Hid _ from rfl), H⟩
      case round =>
        clear H C
        obtain ⟨n, i, rfl, rfl, hi, HN, H⟩ := hrel
        skip
        try clear C
        try simp only [World.size_alloc, List.nil_append, List.cons_append, List.append_assoc] at H
        have C := H.cells
        try simp only [cellsOf, cellsM, apartOf, apartM, and_true] at C
        by_cases hlt2 : i < rs.length
        · have hii : (i : Int) < rs.length := by omega
          have hn5 : n ≤ 100000 := by have h1 := HN.out; have h2 := cntP_len chanP (rs.take i) (chanP ⟨p0, p1, p2, p3, p4, p5⟩); have h3 : (rs.take i).length ≤ rs.length := by simp; omega
                                      omega
          obtain ⟨b2, o2, e0, hb2, hc2⟩ := (H.lies HL.out).at hlt2
          cases e0
          obtain ⟨q2, hq2⟩ : ∃ q, q = rs[i]! := ⟨_, rfl⟩
          rw [← hq2] at hc2
          have HQ2 := Lib.hid hq2
          clear hq2
          obtain ⟨q0, q1, q2, q3, q4, q5⟩ := q2
          have d0 : wr.cell? ⟨b, o + i * 6, none⟩ = some (.int .i64 q0) := hc2 0 _ rfl
          have d1 : wr.cell? ⟨b, o + i * 6 + 1, none⟩ = some (.int .i64 q1) := hc2 1 _ rfl
          have d2 : wr.cell? ⟨b, o + i * 6 + 2, none⟩ = some (.int .i64 q2) := hc2 2 _ rfl
          have d3 : wr.cell? ⟨b, o + i * 6 + 3, none⟩ = some (.int .i64 q3) := hc2 3 _ rfl
          have d4 : wr.cell? ⟨b, o + i * 6 + 4, none⟩ = some (.int .i64 q4) := hc2 4 _ rfl
          have d5 : wr.cell? ⟨b, o + i * 6 + 5, none⟩ = some (.int .i64 q5) := hc2 5 _ rfl
          clear hc2 hb2
          have HT := Lib.hid (cntP_take chanP hlt2 (chanP ⟨p0, p1, p2, p3, p4, p5⟩))
          go_upto_region 8 with fail
          clear d0 d1 d2 d3 d4 d5
          generalize hwb : wr.alloc _ = w2
          replace H := HS.eqW hwb H.alloc
          try simp only [World.size_alloc, List.nil_append, List.cons_append, List.append_assoc] at H
          clear hwb
          generalize wr.heap.size = bQ at H ⊢
          try clear C
          try clear wr
          have C := H.cells
          try simp only [cellsOf, cellsM, apartOf, apartM, and_true] at C
          skip
          by_cases h0 : q0 = p0
          · subst h0
            by_cases h1 : q1 = p1
            · subst h1
              go_wp2_with fail
              go_roundw
              case rel => exact ⟨n + 1, i + 1, by go_num, by go_num, by omega, (show Hid _ from by have h := HT.out; rw [← HQ2.out, if_pos (by rfl)] at h; rw [h, HN.out]; rfl), H.less (by repeat (first | exact .slnil | refine .cons_cons _ ?_ | refine .cons _ ?_))⟩
              case measure => simp [intOf]; omega
            · have h1b : (q1 == p1) = false := beq_eq_false_iff_ne.2 h1
              skip
              go_wp2_with fail
              go_roundw
              case rel => exact ⟨n, i + 1, rfl, by go_num, by omega, (show Hid _ from by rw [HT.out, ← HQ2.out, if_neg (fun e => h1 (chan_iff.1 e).2), HN.out]; rfl), H.less (by repeat (first | exact .slnil | refine .cons_cons _ ?_ | refine .cons _ ?_))⟩
              case measure => simp [intOf]; omega
          · have h0b : (q0 == p0) = false := beq_eq_false_iff_ne.2 h0
            skip
            go_wp2_with fail
            go_roundw
            case rel => exact ⟨n, i + 1, rfl, by go_num, by omega, (show Hid _ from by rw [HT.out, ← HQ2.out, if_neg (fun e => h0 (chan_iff.1 e).1), HN.out]; rfl), H.less (by repeat (first | exact .slnil | refine .cons_cons _ ?_ | refine .cons _ ?_))⟩
            case measure => simp [intOf]; omega
        · have hin : i = rs.length := by omega
          subst hin
          have hnn := HN.out
          rw [List.take_length] at hnn
          by_cases hm : most < (n : Int)
          · go_wp2_with fail
            go_ret
            refine ⟨?_, H.done⟩
            have : crowdP chanP rs most = true := by
              unfold crowdP
              rw [List.any_eq_true]
              refine ⟨rs[k]!, by rw [getElem!_pos rs k hlt]; exact List.getElem_mem _, ?_⟩
              rw [decide_eq_true_iff, ← HQ.out]
              unfold cntP at hnn
              rw [← hnn]; exact hm
            rw [this]; rfl
          · go_wp2_with fail
            go_roundw
            case rel =>
              refine ⟨k + 1, by go_num, by omega, (show Hid _ from fun i hi => ?_), H.less (by repeat (first | exact .slnil | refine .cons_cons _ ?_ | refine .cons _ ?_))⟩
              by_cases e : i = k
              · subst e; rw [← HQ.out, ← hnn]; omega
              · exact HA.out i (by omega)
            case measure => simp [intOf]; omega
    · go_wp2_with fail
      go_ret
      refine ⟨?_, H.done⟩
      have : crowdP chanP rs most = false := by
        unfold crowdP
        rw [List.any_eq_false]
        intro r hr
        obtain ⟨i, hi, rfl⟩ := List.getElem_of_mem hr
        have h1 := HA.out i (by omega)
        rw [getElem!_pos rs i hi] at h1
        unfold cntP at h1
        simp only [decide_eq_true_iff, Int.not_lt]; exact h1
      rw [this]; rfl
set_option maxHeartbeats 8000000 in
theorem rin_any (p : P6) {sa : Option Addr} (c : Nat) {rs : List P6} (hx : rs.length ≤ 100000) (w : World) (hl : Lies w w.heap.size sa 6 rs.length (fun j => pC rs[j]!)) :
    Calls Try.prog 45 #[.slice sa rs.length c, kP p] w (Gives (.bool (inR rs p)) w) := by
  have HL := Lib.hid hl
  clear hl
  obtain ⟨p0, p1, p2, p3, p4, p5⟩ := p
  have HR := Lib.hid (fun W => rrank_any ⟨p0, p1, p2, p3, p4, p5⟩ W)
  show Calls Try.prog 45 #[.slice sa rs.length c, v6 p0 p1 p2 p3 p4 p5] w _
  go_enter Try.func45, Try.ntmps45
  have H := HS.start NoD w
  go_upto_region 1 with fail
  generalize hwb : w.alloc _ = w1
  replace H := HS.eqW hwb H.alloc
  try simp only [World.size_alloc, List.nil_append, List.cons_append, List.append_assoc] at H
  clear hwb
  generalize w.heap.size = bP at H ⊢
  try clear C
  have C := H.cells
  try simp only [cellsOf, cellsM, apartOf, apartM, and_true] at C
  go_wp2_with fail
  go_loopw [9] (fun j wr => ∃ (k : Nat), j = .int .i64 k ∧ k ≤ rs.length ∧ Hid (∀ i, i < k → rankP rs[i]! ≠ rankP ⟨p0, p1, p2, p3, p4, p5⟩) ∧ HS NoD w [.blk bP #[.int .i64 p0, .int .i64 p1, .int .i64 p2, .int .i64 p3, .int .i64 p4, .int .i64 p5] 39] wr) (fun j _ => rs.length - (intOf j).toNat)
  case atStart => exact ⟨0, rfl, Nat.zero_le _, (show Hid _ from fun i hi => absurd hi (Nat.not_lt_zero _)), H⟩
  case round =>
    clear H C
    obtain ⟨k, rfl, hk, HA, H⟩ := hrel
    skip
    try clear C
    try simp only [World.size_alloc, List.nil_append, List.cons_append, List.append_assoc] at H
    have C := H.cells
    try simp only [cellsOf, cellsM, apartOf, apartM, and_true] at C
    by_cases hlt : k < rs.length
    · have hki : (k : Int) < rs.length := by omega
      obtain ⟨b, o, rfl, hb, hc⟩ := (H.lies HL.out).at hlt
      obtain ⟨q, hq⟩ : ∃ q, q = rs[k]! := ⟨_, rfl⟩
      rw [← hq] at hc
      have HQ := Lib.hid hq
      clear hq
      have HR2 := Lib.hid (fun W => rrank_any q W)
      have heq := fun w => eqlP (rankP ⟨p0, p1, p2, p3, p4, p5⟩) (rankP q) w
      obtain ⟨q0, q1, q2, q3, q4, q5⟩ := q
      have c0 : wr.cell? ⟨b, o + k * 6, none⟩ = some (.int .i64 q0) := hc 0 _ rfl
      have c1 : wr.cell? ⟨b, o + k * 6 + 1, none⟩ = some (.int .i64 q1) := hc 1 _ rfl
      have c2 : wr.cell? ⟨b, o + k * 6 + 2, none⟩ = some (.int .i64 q2) := hc 2 _ rfl
      have c3 : wr.cell? ⟨b, o + k * 6 + 3, none⟩ = some (.int .i64 q3) := hc 3 _ rfl
      have c4 : wr.cell? ⟨b, o + k * 6 + 4, none⟩ = some (.int .i64 q4) := hc 4 _ rfl
      have c5 : wr.cell? ⟨b, o + k * 6 + 5, none⟩ = some (.int .i64 q5) := hc 5 _ rfl
      clear hc hb
      go_upto_region 4 with fail
      clear c0 c1 c2 c3 c4 c5
      generalize hwb : wr.alloc _ = w2
      replace H := HS.eqW hwb H.alloc
      try simp only [World.size_alloc, List.nil_append, List.cons_append, List.append_assoc] at H
      clear hwb
      generalize wr.heap.size = bQ at H ⊢
      try clear C
      try clear wr
      have C := H.cells
      try simp only [cellsOf, cellsM, apartOf, apartM, and_true] at C
      skip
      generalize hx : rankP ⟨p0, p1, p2, p3, p4, p5⟩ = x at HR heq HA
      generalize hy : rankP ⟨q0, q1, q2, q3, q4, q5⟩ = y at HR2 heq
      have HX := Lib.hid hx
      have HY := Lib.hid hy
      clear hx hy
      replace HR := Lib.hid (show ∀ W, Calls Try.prog 34 #[v6 p0 p1 p2 p3 p4 p5] W (Gives (v6 x.a x.b x.c x.d x.e x.f) W) from HR.out)
      replace HR2 := Lib.hid (show ∀ W, Calls Try.prog 34 #[v6 q0 q1 q2 q3 q4 q5] W (Gives (v6 y.a y.b y.c y.d y.e y.f) W) from HR2.out)
      replace heq := (show ∀ w, (binOp .eql 39 (v6 x.a x.b x.c x.d x.e x.f) (v6 y.a y.b y.c y.d y.e y.f)).run Try.prog w = .ok (.bool (decide (x = y))) w from heq)
      by_cases he : x = y
      · rw [decide_eq_true he] at heq
        refine wp_region_xH (by kernel_rfl) (by kernel_rfl) (by kernel_rfl) (by kernel_rfl) (fun _ => False) (H) ?_
        clear H; intro w3 H hz0 hs0
        try clear C
        try simp only [World.size_alloc, List.nil_append, List.cons_append, List.append_assoc] at H hz0
        clear hz0
        try clear w2
        have C := H.cells
        try simp only [cellsOf, cellsM, apartOf, apartM, and_true] at C
        have Z := H.zs
        try simp only [ltsOf, ltsM, and_true] at Z
        have hz0 := Nat.le_refl w3.heap.size
        repeat (first | (refine wpX_skip rfl ?_; go_simp) | (refine wpX_free rfl rfl rfl (fun K hK => ?_); go_step; refine hK _ _ ?_; clear hK K) | (refine wpX_load rfl rfl rfl (by simp [Stay, OneD, NoD, *]) hs0 (by simp [*]) (fun K hK => ?_); go_step; refine hK _ _ ?_; clear hK K))
        refine wpX_eff rfl rfl (fun _ _ => ?_)
        go_step
        refine (HR.out _).mono ?_
        rintro _ w4 ⟨rfl, hb⟩
        replace hs0 := hs0.belowS hz0 hb
        replace hz0 := Nat.le_trans hz0 hb.size
        replace H := H.below hb
        clear hb
        try clear C
        have C := H.cells
        try simp only [cellsOf, cellsM, apartOf, apartM, and_true] at C
        try clear w3
        dsimp only
        go_step
        refine ⟨hs0, ?_⟩
        repeat (first | (refine wpX_skip rfl ?_; go_simp) | (refine wpX_free rfl rfl rfl (fun K hK => ?_); go_step; refine hK _ _ ?_; clear hK K) | (refine wpX_load rfl rfl rfl (by simp [Stay, OneD, NoD, *]) hs0 (by simp [*]) (fun K hK => ?_); go_step; refine hK _ _ ?_; clear hK K))
        refine wpX_eff rfl rfl (fun _ _ => ?_)
        go_step
        refine (HR2.out _).mono ?_
        rintro _ w5 ⟨rfl, hb⟩
        replace hs0 := hs0.belowS hz0 hb
        replace hz0 := Nat.le_trans hz0 hb.size
        replace H := H.below hb
        clear hb
        try clear C
        have C := H.cells
        try simp only [cellsOf, cellsM, apartOf, apartM, and_true] at C
        try clear w4
        dsimp only
        go_step
        refine ⟨hs0, ?_⟩
        repeat (first | (refine wpX_skip rfl ?_; go_simp) | (refine wpX_free rfl rfl rfl (fun K hK => ?_); go_step; refine hK _ _ ?_; clear hK K) | (refine wpX_load rfl rfl rfl (by simp [Stay, OneD, NoD, *]) hs0 (by simp [*]) (fun K hK => ?_); go_step; refine hK _ _ ?_; clear hK K))
        (refine wpX_yield rfl rfl ((.bool true)) (fun w hw => by go_simp) ?_; go_simp)
        repeat (first | (refine wpX_skip rfl ?_; go_simp) | (refine wpX_free rfl rfl rfl (fun K hK => ?_); go_step; refine hK _ _ ?_; clear hK K) | (refine wpX_load rfl rfl rfl (by simp [Stay, OneD, NoD, *]) hs0 (by simp [*]) (fun K hK => ?_); go_step; refine hK _ _ ?_; clear hK K))
        (refine wpX_nil ?_; go_step)
        go_wp2_with fail
        go_ret
        refine ⟨?_, H.done⟩
        have : inR rs ⟨p0, p1, p2, p3, p4, p5⟩ = true := inR_iff.2 ⟨rs[k]!, by rw [getElem!_pos rs k hlt]; exact List.getElem_mem _, by rw [← HQ.out, HX.out, HY.out, he]⟩
        rw [this]; rfl
      · rw [decide_eq_false he] at heq
        skip
        refine wp_region_xH (by kernel_rfl) (by kernel_rfl) (by kernel_rfl) (by kernel_rfl) (fun _ => False) (H) ?_
        clear H; intro w6 H hz0 hs0
        try clear C
        try simp only [World.size_alloc, List.nil_append, List.cons_append, List.append_assoc] at H hz0
        clear hz0
        try clear w2
        have C := H.cells
        try simp only [cellsOf, cellsM, apartOf, apartM, and_true] at C
        have Z := H.zs
        try simp only [ltsOf, ltsM, and_true] at Z
        have hz0 := Nat.le_refl w6.heap.size
        repeat (first | (refine wpX_skip rfl ?_; go_simp) | (refine wpX_free rfl rfl rfl (fun K hK => ?_); go_step; refine hK _ _ ?_; clear hK K) | (refine wpX_load rfl rfl rfl (by simp [Stay, OneD, NoD, *]) hs0 (by simp [*]) (fun K hK => ?_); go_step; refine hK _ _ ?_; clear hK K))
        refine wpX_eff rfl rfl (fun _ _ => ?_)
        go_step
        refine (HR.out _).mono ?_
        rintro _ w7 ⟨rfl, hb⟩
        replace hs0 := hs0.belowS hz0 hb
        replace hz0 := Nat.le_trans hz0 hb.size
        replace H := H.below hb
        clear hb
        try clear C
        have C := H.cells
        try simp only [cellsOf, cellsM, apartOf, apartM, and_true] at C
        try clear w6
        dsimp only
        go_step
        refine ⟨hs0, ?_⟩
        repeat (first | (refine wpX_skip rfl ?_; go_simp) | (refine wpX_free rfl rfl rfl (fun K hK => ?_); go_step; refine hK _ _ ?_; clear hK K) | (refine wpX_load rfl rfl rfl (by simp [Stay, OneD, NoD, *]) hs0 (by simp [*]) (fun K hK => ?_); go_step; refine hK _ _ ?_; clear hK K))
        refine wpX_eff rfl rfl (fun _ _ => ?_)
        go_step
        refine (HR2.out _).mono ?_
        rintro _ w8 ⟨rfl, hb⟩
        replace hs0 := hs0.belowS hz0 hb
        replace hz0 := Nat.le_trans hz0 hb.size
        replace H := H.below hb
        clear hb
        try clear C
        have C := H.cells
        try simp only [cellsOf, cellsM, apartOf, apartM, and_true] at C
        try clear w7
        dsimp only
        go_step
        refine ⟨hs0, ?_⟩
        repeat (first | (refine wpX_skip rfl ?_; go_simp) | (refine wpX_free rfl rfl rfl (fun K hK => ?_); go_step; refine hK _ _ ?_; clear hK K) | (refine wpX_load rfl rfl rfl (by simp [Stay, OneD, NoD, *]) hs0 (by simp [*]) (fun K hK => ?_); go_step; refine hK _ _ ?_; clear hK K))
        (refine wpX_yield rfl rfl ((.bool false)) (fun w hw => by go_simp) ?_; go_simp)
        repeat (first | (refine wpX_skip rfl ?_; go_simp) | (refine wpX_free rfl rfl rfl (fun K hK => ?_); go_step; refine hK _ _ ?_; clear hK K) | (refine wpX_load rfl rfl rfl (by simp [Stay, OneD, NoD, *]) hs0 (by simp [*]) (fun K hK => ?_); go_step; refine hK _ _ ?_; clear hK K))
        (refine wpX_nil ?_; go_step)
        go_wp2_with fail
        go_roundw
        case rel =>
          refine ⟨k + 1, by go_num, by omega, (show Hid _ from fun i hi => ?_), H.less (by repeat (first | exact .slnil | refine .cons_cons _ ?_ | refine .cons _ ?_))⟩
          by_cases e : i = k
          · subst e; rw [← HQ.out, HX.out, HY.out]; exact Ne.symm he
          · rw [HX.out]; exact HA.out i (by omega)
        case measure => simp [intOf]; omega
    · go_wp2_with fail
      go_ret
      refine ⟨?_, H.done⟩
      have : inR rs ⟨p0, p1, p2, p3, p4, p5⟩ = false := by
        rw [← Bool.not_eq_true, inR_iff]
        rintro ⟨r, hr, e⟩
        obtain ⟨i, hi, rfl⟩ := List.getElem_of_mem hr
        refine HA.out i (by omega) ?_
        rw [getElem!_pos rs i hi]; exact e
      rw [this]; rfl
end Go.Proofs.Ytdhnpjgnnfgklaa
