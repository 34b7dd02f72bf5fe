/- Package memfaultref29: Valid, whatever the programs. -/
import Derived.Test.YtedbpmckgiifpaaGreatRvLaw
namespace Go.Proofs.YtedbpmckgiifpaaGreat
set_option linter.unusedSimpArgs false
set_option linter.unusedVariables false
open Go.RowKit
set_option maxRecDepth 100000
attribute [local go_sem] lt_more ne_more ne_more'
attribute [local go_sem] run_mkMapV
attribute [local irreducible] wpX wpF Calls

set_option maxHeartbeats 32000000 in
theorem rvalid_gen {F : Int} {v : Value} {ps : List Pr} (hsm : SmallP ps) (w : World) (hl : Ps w w.heap.size v ps) :
    Calls Tryz.prog 51 #[v, .int .i64 F] w (Gives (.bool (goodB F ps)) w) := by
  have HT : Tryz.prog.underlying 102 = some (.map 3 4) := by kernel_rfl
  have HK : Tryz.prog.underlying 3 = some (.int .i64) := by kernel_rfl
  have HE : ∀ w, (zeroValue 4).run Tryz.prog w = .ok (.bool false) w := fun w => by rfl
  obtain ⟨R, hR⟩ : ∃ R, R = goodB F ps := ⟨_, rfl⟩
  have HRT := Lib.hid (fun h => hR.trans (goodB_t (F := F) (ps := ps) h))
  have HRF := Lib.hid (fun h => hR.trans (goodB_f (F := F) (ps := ps) h))
  rw [← hR]
  clear hR
  obtain ⟨qs, hqs, ⟨sa, c, rfl, hc, hl⟩, hi⟩ := hl
  have hx0 : qs.length ≤ 1000 := by have := hsm.1; rw [← hqs] at this; simpa using this
  have HSM := Lib.hid (fun j => smallQ (j := j) hsm hqs)
  have HL := Lib.hid hl
  have HI := Lib.hid hi
  have HQS := Lib.hid hqs
  have hpl : ps.length = qs.length := by rw [← hqs]; simp
  have HPL := Lib.hid hpl
  clear hl hi hqs hc hsm hpl
  go_enter Tryz.func51, Tryz.ntmps51
  have H := HS.start NoD w
  go_upto_region 2 with fail
  generalize hwb : (w.alloc _) = wm
  replace H := HS.eqW hwb H.allocObj
  try simp only [World.size_alloc, List.nil_append, List.cons_append, List.append_assoc] at H
  clear hwb
  generalize w.heap.size = bo at H ⊢
  skip
  try clear C
  try simp only [World.size_alloc, List.nil_append, List.cons_append, List.append_assoc] at H
  have C := H.cells
  try simp only [cellsOf, cellsM, apartOf, apartM, and_true] at C
  go_wp2_with fail
  go_loopw [18] (fun jj wr => ∃ (j : Nat) (eo : Array MapEntry) (co : Nat) (M : List (Int × Value)), jj = .int .i64 j ∧ j ≤ qs.length ∧ Hid (MapV eo co M) ∧ Hid (OwM M (allPg (ps.take j))) ∧ Hid (OkPr F (ps.take j)) ∧ Hid (shrO ps j) ∧ HS NoD w [.obj bo (.map eo co)] wr) (fun jj _ => qs.length - (intOf jj).toNat)
  case atStart => exact ⟨0, #[], 0, [], rfl, Nat.zero_le _, MapV.nil, OwM.nil, OkPr.nil F, shr_zero ps, H⟩
  case round =>
    clear H C
    obtain ⟨j, eo, co, M, rfl, hj, HMO, HOW, HOP, HSH, H⟩ := hrel
    skip
    try clear C
    try simp only [World.size_alloc, List.nil_append, List.cons_append, List.append_assoc] at H
    have C := H.cells
    try simp only [cellsOf, cellsM, apartOf, apartM, and_true] at C
    by_cases hlt : j < qs.length
    · obtain ⟨b, o, e0, hb, hc⟩ := (H.lies HL.out).at hlt
      cases e0
      have HM := Lib.hid (map_at hlt)
      have hpv := HI.out _ (mem_at hlt)
      obtain ⟨q, hxj⟩ : ∃ q, q = qs[j]! := ⟨_, rfl⟩
      rw [← hxj] at hc hpv
      have HX := Lib.hid hxj
      obtain ⟨⟨pi, pt, pd, pg, td⟩, pa, ta⟩ := q
      obtain ⟨⟨pb, pc, e1, hpc, hpl⟩, ⟨tb, tc, e2, htc, htl⟩⟩ := hpv
      have f1 : pa = .slice pb pg.length pc := e1
      have f2 : ta = .slice tb td.length tc := e2
      clear e1 e2
      subst f1 f2
      have HPG : Hid (Lies w w.heap.size pb 3 pg.length (fun j => pgC pg[j]!)) := hpl
      have HTD : Hid (Lies w w.heap.size tb 1 td.length (fun j => iC td[j]!)) := htl
      have HPC : Hid (pg.length ≤ pc ∧ (pb = none → pc = 0)) := hpc
      have HTC : Hid (td.length ≤ tc ∧ (tb = none → tc = 0)) := htc
      clear hpc htc
      clear hpl htl
      have c0 : wr.cell? ⟨b, o + j * 5, none⟩ = some (.int .i64 pi) := hc 0 _ rfl
      have c1 : wr.cell? ⟨b, o + j * 5 + 1, none⟩ = some (.bool pt) := hc 1 _ rfl
      have c2 : wr.cell? ⟨b, o + j * 5 + 2, none⟩ = some (.bool pd) := hc 2 _ rfl
      have c3 : wr.cell? ⟨b, o + j * 5 + 3, none⟩ = some (.slice pb pg.length pc) := hc 3 _ rfl
      have c4 : wr.cell? ⟨b, o + j * 5 + 4, none⟩ = some (.slice tb td.length tc) := hc 4 _ rfl
      clear hc hxj
      have HM0 := HM
      clear HM
      have hsm1 := HSM.out j hlt
      rw [← HX.out] at hsm1
      have hs1 : pg.length ≤ 1000 := hsm1.1
      have hs2 : td.length ≤ 1000 := hsm1.2
      have hjp : j < ps.length := by rw [HPL.out]; exact hlt
      have hpe : ps[j]! = ⟨pi, pt, pd, pg, td⟩ := by rw [← HQS.out, HM0.out, ← HX.out]
      have HPE := Lib.hid hpe
      have hok := okPr_succ hjp HOP.out
      rw [hpe] at hok
      have HOK := Lib.hid hok
      clear hsm1 hpe hok
      go_upto_region 5 with fail
      clear c0 c1 c2 c3 c4
      generalize hwb : wr.alloc _ = w1
      replace H := HS.eqW hwb H.alloc
      try simp only [World.size_alloc, List.nil_append, List.cons_append, List.append_assoc] at H
      clear hwb
      generalize wr.heap.size = b7 at H ⊢
      try clear C
      try clear wr
      have C := H.cells
      try simp only [cellsOf, cellsM, apartOf, apartM, and_true] at C
      skip
      go_cut [67] from 23 to 66 (fun y wx => ∃ tt : Bool, y = .bool tt ∧ Hid (tt = false ↔ ((1 ≤ pi ∧ pi ≤ 999) ∧ (0 < j → (ps[j - 1]!).id < pi) ∧ pg.length ≤ 16 ∧ (pd = true → pg = []) ∧ td.length ≤ 200)) ∧ HS NoD w [.obj bo (.map eo co), .blk b7 #[.int .i64 pi, .bool pt, .bool pd, .slice pb pg.length pc, .slice tb td.length tc] 52] wx)
      case first =>
        by_cases hj0 : j = 0
        · have hgt : decide ((0 : Int) < (j : Int)) = false := decide_eq_false (by omega)
          have hgn : decide (0 < j) = false := decide_eq_false (by omega)
          have HJ0 := Lib.hid hj0
          clear hj0
          by_cases i1 : 1 ≤ pi
          · have q1 : decide (pi < 1) = false := decide_eq_false (by omega)
            by_cases i2 : pi ≤ 999
            · have q2 : decide (999 < pi) = false := decide_eq_false (by omega)
              by_cases i3 : pg.length ≤ 16
              · have q3 : decide ((16 : Int) < (pg.length : Int)) = false := decide_eq_false (by omega)
                have q4 : decide (16 < pg.length) = false := decide_eq_false (by omega)
                cases pd with
                | false =>
                  by_cases i5 : td.length ≤ 200
                  · have i8 : decide ((200 : Int) < (td.length : Int)) = false := decide_eq_false (by omega)
                    have i9 : decide (200 < td.length) = false := decide_eq_false (by omega)
                    have HC9 := Lib.hid (show ((1 ≤ pi ∧ pi ≤ 999) ∧ (0 < j → (ps[j - 1]!).id < pi) ∧ pg.length ≤ 16 ∧ (false = true → pg = []) ∧ td.length ≤ 200) from ⟨⟨i1, i2⟩, (fun h0 => absurd h0 (by have := HJ0.out; omega)), i3, (fun h => by cases h), i5⟩)
                    skip
                    refine wp_region_xH (by kernel_rfl) (by kernel_rfl) (by kernel_rfl) (by kernel_rfl) (fun _ => False) (H) ?_
                    clear H; intro w2 H hz0 hs0
                    try clear C
                    try simp only [World.size_alloc, List.nil_append, List.cons_append, List.append_assoc] at H hz0
                    clear hz0
                    try clear w1
                    have C := H.cells
                    try simp only [cellsOf, cellsM, apartOf, apartM, and_true] at C
                    have Z := H.zs
                    try simp only [ltsOf, ltsM, and_true] at Z
                    have hz0 := Nat.le_refl w2.heap.size
                    repeat (first | (refine wpX_skip rfl ?_; go_simp) | (refine wpX_free rfl rfl rfl (fun K hK => ?_); go_step; refine hK _ _ ?_; clear hK K) | (refine wpX_load rfl rfl rfl (by simp [Stay, OneD, NoD, *]) hs0 (by simp [*]) (fun K hK => ?_); go_step; refine hK _ _ ?_; clear hK K))
                    (refine wpX_nil ?_; try go_step)
                    try go_step
                    go_meet
                    exact ⟨false, rfl, Lib.hid ⟨fun _ => HC9.out, fun _ => rfl⟩, H⟩
                  · have i8 : decide ((200 : Int) < (td.length : Int)) = true := decide_eq_true (by omega)
                    have i9 : decide (200 < td.length) = true := decide_eq_true (by omega)
                    have HC9 := Lib.hid (show ¬ ((1 ≤ pi ∧ pi ≤ 999) ∧ (0 < j → (ps[j - 1]!).id < pi) ∧ pg.length ≤ 16 ∧ (false = true → pg = []) ∧ td.length ≤ 200) from fun h => i5 h.2.2.2.2)
                    skip
                    refine wp_region_xH (by kernel_rfl) (by kernel_rfl) (by kernel_rfl) (by kernel_rfl) (fun _ => False) (H) ?_
                    clear H; intro w3 H hz0 hs0
                    try clear C
                    try simp only [World.size_alloc, List.nil_append, List.cons_append, List.append_assoc] at H hz0
                    clear hz0
                    try clear w1
                    have C := H.cells
                    try simp only [cellsOf, cellsM, apartOf, apartM, and_true] at C
                    have Z := H.zs
                    try simp only [ltsOf, ltsM, and_true] at Z
                    have hz0 := Nat.le_refl w3.heap.size
                    repeat (first | (refine wpX_skip rfl ?_; go_simp) | (refine wpX_free rfl rfl rfl (fun K hK => ?_); go_step; refine hK _ _ ?_; clear hK K) | (refine wpX_load rfl rfl rfl (by simp [Stay, OneD, NoD, *]) hs0 (by simp [*]) (fun K hK => ?_); go_step; refine hK _ _ ?_; clear hK K))
                    (refine wpX_nil ?_; try go_step)
                    try go_step
                    go_meet
                    exact ⟨true, rfl, Lib.hid ⟨(fun h => by cases h), fun h => absurd h HC9.out⟩, H⟩
                | true =>
                  by_cases i4 : pg = []
                  · subst i4
                    by_cases i5 : td.length ≤ 200
                    · have i8 : decide ((200 : Int) < (td.length : Int)) = false := decide_eq_false (by omega)
                      have i9 : decide (200 < td.length) = false := decide_eq_false (by omega)
                      have HC9 := Lib.hid (show ((1 ≤ pi ∧ pi ≤ 999) ∧ (0 < j → (ps[j - 1]!).id < pi) ∧ ([] : List Pg).length ≤ 16 ∧ (true = true → ([] : List Pg) = []) ∧ td.length ≤ 200) from ⟨⟨i1, i2⟩, (fun h0 => absurd h0 (by have := HJ0.out; omega)), i3, (fun _ => rfl), i5⟩)
                      skip
                      refine wp_region_xH (by kernel_rfl) (by kernel_rfl) (by kernel_rfl) (by kernel_rfl) (fun _ => False) (H) ?_
                      clear H; intro w4 H hz0 hs0
                      try clear C
                      try simp only [World.size_alloc, List.nil_append, List.cons_append, List.append_assoc] at H hz0
                      clear hz0
                      try clear w1
                      have C := H.cells
                      try simp only [cellsOf, cellsM, apartOf, apartM, and_true] at C
                      have Z := H.zs
                      try simp only [ltsOf, ltsM, and_true] at Z
                      have hz0 := Nat.le_refl w4.heap.size
                      repeat (first | (refine wpX_skip rfl ?_; go_simp) | (refine wpX_free rfl rfl rfl (fun K hK => ?_); go_step; refine hK _ _ ?_; clear hK K) | (refine wpX_load rfl rfl rfl (by simp [Stay, OneD, NoD, *]) hs0 (by simp [*]) (fun K hK => ?_); go_step; refine hK _ _ ?_; clear hK K))
                      (refine wpX_nil ?_; try go_step)
                      try go_step
                      go_meet
                      exact ⟨false, rfl, Lib.hid ⟨fun _ => HC9.out, fun _ => rfl⟩, H⟩
                    · have i8 : decide ((200 : Int) < (td.length : Int)) = true := decide_eq_true (by omega)
                      have i9 : decide (200 < td.length) = true := decide_eq_true (by omega)
                      have HC9 := Lib.hid (show ¬ ((1 ≤ pi ∧ pi ≤ 999) ∧ (0 < j → (ps[j - 1]!).id < pi) ∧ ([] : List Pg).length ≤ 16 ∧ (true = true → ([] : List Pg) = []) ∧ td.length ≤ 200) from fun h => i5 h.2.2.2.2)
                      skip
                      refine wp_region_xH (by kernel_rfl) (by kernel_rfl) (by kernel_rfl) (by kernel_rfl) (fun _ => False) (H) ?_
                      clear H; intro w5 H hz0 hs0
                      try clear C
                      try simp only [World.size_alloc, List.nil_append, List.cons_append, List.append_assoc] at H hz0
                      clear hz0
                      try clear w1
                      have C := H.cells
                      try simp only [cellsOf, cellsM, apartOf, apartM, and_true] at C
                      have Z := H.zs
                      try simp only [ltsOf, ltsM, and_true] at Z
                      have hz0 := Nat.le_refl w5.heap.size
                      repeat (first | (refine wpX_skip rfl ?_; go_simp) | (refine wpX_free rfl rfl rfl (fun K hK => ?_); go_step; refine hK _ _ ?_; clear hK K) | (refine wpX_load rfl rfl rfl (by simp [Stay, OneD, NoD, *]) hs0 (by simp [*]) (fun K hK => ?_); go_step; refine hK _ _ ?_; clear hK K))
                      (refine wpX_nil ?_; try go_step)
                      try go_step
                      go_meet
                      exact ⟨true, rfl, Lib.hid ⟨(fun h => by cases h), fun h => absurd h HC9.out⟩, H⟩
                  · have i6 : decide ((0 : Int) < (pg.length : Int)) = true := decide_eq_true (by have := List.length_pos_iff.2 i4; omega)
                    have i7 : decide (0 < pg.length) = true := decide_eq_true (List.length_pos_iff.2 i4)
                    have HC9 := Lib.hid (show ¬ ((1 ≤ pi ∧ pi ≤ 999) ∧ (0 < j → (ps[j - 1]!).id < pi) ∧ pg.length ≤ 16 ∧ (true = true → pg = []) ∧ td.length ≤ 200) from fun h => i4 (h.2.2.2.1 rfl))
                    skip
                    refine wp_region_xH (by kernel_rfl) (by kernel_rfl) (by kernel_rfl) (by kernel_rfl) (fun _ => False) (H) ?_
                    clear H; intro w6 H hz0 hs0
                    try clear C
                    try simp only [World.size_alloc, List.nil_append, List.cons_append, List.append_assoc] at H hz0
                    clear hz0
                    try clear w1
                    have C := H.cells
                    try simp only [cellsOf, cellsM, apartOf, apartM, and_true] at C
                    have Z := H.zs
                    try simp only [ltsOf, ltsM, and_true] at Z
                    have hz0 := Nat.le_refl w6.heap.size
                    repeat (first | (refine wpX_skip rfl ?_; go_simp) | (refine wpX_free rfl rfl rfl (fun K hK => ?_); go_step; refine hK _ _ ?_; clear hK K) | (refine wpX_load rfl rfl rfl (by simp [Stay, OneD, NoD, *]) hs0 (by simp [*]) (fun K hK => ?_); go_step; refine hK _ _ ?_; clear hK K))
                    (refine wpX_nil ?_; try go_step)
                    try go_step
                    go_meet
                    exact ⟨true, rfl, Lib.hid ⟨(fun h => by cases h), fun h => absurd h HC9.out⟩, H⟩
              · have q3 : decide ((16 : Int) < (pg.length : Int)) = true := decide_eq_true (by omega)
                have q4 : decide (16 < pg.length) = true := decide_eq_true (by omega)
                have HC9 := Lib.hid (show ¬ ((1 ≤ pi ∧ pi ≤ 999) ∧ (0 < j → (ps[j - 1]!).id < pi) ∧ pg.length ≤ 16 ∧ (pd = true → pg = []) ∧ td.length ≤ 200) from fun h => i3 h.2.2.1)
                skip
                refine wp_region_xH (by kernel_rfl) (by kernel_rfl) (by kernel_rfl) (by kernel_rfl) (fun _ => False) (H) ?_
                clear H; intro w7 H hz0 hs0
                try clear C
                try simp only [World.size_alloc, List.nil_append, List.cons_append, List.append_assoc] at H hz0
                clear hz0
                try clear w1
                have C := H.cells
                try simp only [cellsOf, cellsM, apartOf, apartM, and_true] at C
                have Z := H.zs
                try simp only [ltsOf, ltsM, and_true] at Z
                have hz0 := Nat.le_refl w7.heap.size
                repeat (first | (refine wpX_skip rfl ?_; go_simp) | (refine wpX_free rfl rfl rfl (fun K hK => ?_); go_step; refine hK _ _ ?_; clear hK K) | (refine wpX_load rfl rfl rfl (by simp [Stay, OneD, NoD, *]) hs0 (by simp [*]) (fun K hK => ?_); go_step; refine hK _ _ ?_; clear hK K))
                (refine wpX_nil ?_; try go_step)
                try go_step
                go_meet
                exact ⟨true, rfl, Lib.hid ⟨(fun h => by cases h), fun h => absurd h HC9.out⟩, H⟩
            · have q2 : decide (999 < pi) = true := decide_eq_true (by omega)
              have HC9 := Lib.hid (show ¬ ((1 ≤ pi ∧ pi ≤ 999) ∧ (0 < j → (ps[j - 1]!).id < pi) ∧ pg.length ≤ 16 ∧ (pd = true → pg = []) ∧ td.length ≤ 200) from fun h => i2 h.1.2)
              skip
              refine wp_region_xH (by kernel_rfl) (by kernel_rfl) (by kernel_rfl) (by kernel_rfl) (fun _ => False) (H) ?_
              clear H; intro w8 H hz0 hs0
              try clear C
              try simp only [World.size_alloc, List.nil_append, List.cons_append, List.append_assoc] at H hz0
              clear hz0
              try clear w1
              have C := H.cells
              try simp only [cellsOf, cellsM, apartOf, apartM, and_true] at C
              have Z := H.zs
              try simp only [ltsOf, ltsM, and_true] at Z
              have hz0 := Nat.le_refl w8.heap.size
              repeat (first | (refine wpX_skip rfl ?_; go_simp) | (refine wpX_free rfl rfl rfl (fun K hK => ?_); go_step; refine hK _ _ ?_; clear hK K) | (refine wpX_load rfl rfl rfl (by simp [Stay, OneD, NoD, *]) hs0 (by simp [*]) (fun K hK => ?_); go_step; refine hK _ _ ?_; clear hK K))
              (refine wpX_nil ?_; try go_step)
              try go_step
              go_meet
              exact ⟨true, rfl, Lib.hid ⟨(fun h => by cases h), fun h => absurd h HC9.out⟩, H⟩
          · have q1 : decide (pi < 1) = true := decide_eq_true (by omega)
            have HC9 := Lib.hid (show ¬ ((1 ≤ pi ∧ pi ≤ 999) ∧ (0 < j → (ps[j - 1]!).id < pi) ∧ pg.length ≤ 16 ∧ (pd = true → pg = []) ∧ td.length ≤ 200) from fun h => i1 h.1.1)
            skip
            refine wp_region_xH (by kernel_rfl) (by kernel_rfl) (by kernel_rfl) (by kernel_rfl) (fun _ => False) (H) ?_
            clear H; intro w9 H hz0 hs0
            try clear C
            try simp only [World.size_alloc, List.nil_append, List.cons_append, List.append_assoc] at H hz0
            clear hz0
            try clear w1
            have C := H.cells
            try simp only [cellsOf, cellsM, apartOf, apartM, and_true] at C
            have Z := H.zs
            try simp only [ltsOf, ltsM, and_true] at Z
            have hz0 := Nat.le_refl w9.heap.size
            repeat (first | (refine wpX_skip rfl ?_; go_simp) | (refine wpX_free rfl rfl rfl (fun K hK => ?_); go_step; refine hK _ _ ?_; clear hK K) | (refine wpX_load rfl rfl rfl (by simp [Stay, OneD, NoD, *]) hs0 (by simp [*]) (fun K hK => ?_); go_step; refine hK _ _ ?_; clear hK K))
            (refine wpX_nil ?_; try go_step)
            try go_step
            go_meet
            exact ⟨true, rfl, Lib.hid ⟨(fun h => by cases h), fun h => absurd h HC9.out⟩, H⟩
        · have hgt : decide ((0 : Int) < (j : Int)) = true := decide_eq_true (by omega)
          have hgn : decide (0 < j) = true := decide_eq_true (by omega)
          have hjt : ((j : Int) - 1).toNat = j - 1 := by omega
          have hjb : (0 : Int) ≤ (j : Int) - 1 := by omega
          have hjl : (j : Int) - 1 < (qs.length : Int) := by omega
          have hml : j - 1 < qs.length := by omega
          obtain ⟨yi, hyi⟩ : ∃ y, y = (qs[j - 1]!).p.id := ⟨_, rfl⟩
          have HYI := Lib.hid hyi
          have HPJ : Hid ((ps[j - 1]!).id = yi) := by show _ = _; rw [← HQS.out, map_at hml, hyi]
          clear hyi
          by_cases i1 : 1 ≤ pi
          · have q1 : decide (pi < 1) = false := decide_eq_false (by omega)
            by_cases i2 : pi ≤ 999
            · have q2 : decide (999 < pi) = false := decide_eq_false (by omega)
              by_cases hid : pi ≤ yi
              · have hge : decide (pi ≤ yi) = true := decide_eq_true hid
                have HC9 := Lib.hid (show ¬ ((1 ≤ pi ∧ pi ≤ 999) ∧ (0 < j → (ps[j - 1]!).id < pi) ∧ pg.length ≤ 16 ∧ (pd = true → pg = []) ∧ td.length ≤ 200) from fun h => by have h1 := h.2.1 (by omega); rw [HPJ.out] at h1; omega)
                skip
                have hbB := hb
                refine wp_region_xH (by kernel_rfl) (by kernel_rfl) (by kernel_rfl) (by kernel_rfl) (fun _ => False) (H) ?_
                clear H; intro w10 H hz0 hs0
                try clear C
                try simp only [World.size_alloc, List.nil_append, List.cons_append, List.append_assoc] at H hz0
                clear hz0
                try clear w1
                have C := H.cells
                try simp only [cellsOf, cellsM, apartOf, apartM, and_true] at C
                have Z := H.zs
                try simp only [ltsOf, ltsM, and_true] at Z
                have hz0 := Nat.le_refl w10.heap.size
                have d3 : w10.cell? ⟨b, o + (j - 1) * 5, none⟩ = some (.int .i64 yi) := by
                  obtain ⟨bh, oh, e8, hbh, hch⟩ := (H.lies HL.out).at hml
                  obtain ⟨rfl, rfl⟩ : bh = b ∧ oh = o := by simpa using e8.symm
                  rw [HYI.out]
                  exact hch 0 _ rfl
                have hbw : b < w10.heap.size := Nat.lt_of_lt_of_le hbB H.size
                repeat (first | (refine wpX_skip rfl ?_; go_simp) | (refine wpX_free rfl rfl rfl (fun K hK => ?_); go_step; refine hK _ _ ?_; clear hK K) | (refine wpX_load rfl rfl rfl (by simp [Stay, OneD, NoD, *]) hs0 (by simp [*]) (fun K hK => ?_); go_step; refine hK _ _ ?_; clear hK K))
                (refine wpX_nil ?_; try go_step)
                try go_step
                go_meet
                exact ⟨true, rfl, Lib.hid ⟨(fun h => by cases h), fun h => absurd h HC9.out⟩, H⟩
              · have hge : decide (pi ≤ yi) = false := decide_eq_false (by omega)
                by_cases i3 : pg.length ≤ 16
                · have q3 : decide ((16 : Int) < (pg.length : Int)) = false := decide_eq_false (by omega)
                  have q4 : decide (16 < pg.length) = false := decide_eq_false (by omega)
                  cases pd with
                  | false =>
                    by_cases i5 : td.length ≤ 200
                    · have i8 : decide ((200 : Int) < (td.length : Int)) = false := decide_eq_false (by omega)
                      have i9 : decide (200 < td.length) = false := decide_eq_false (by omega)
                      have HC9 := Lib.hid (show ((1 ≤ pi ∧ pi ≤ 999) ∧ (0 < j → (ps[j - 1]!).id < pi) ∧ pg.length ≤ 16 ∧ (false = true → pg = []) ∧ td.length ≤ 200) from ⟨⟨i1, i2⟩, (fun _ => by rw [HPJ.out]; omega), i3, (fun h => by cases h), i5⟩)
                      skip
                      have hbB := hb
                      refine wp_region_xH (by kernel_rfl) (by kernel_rfl) (by kernel_rfl) (by kernel_rfl) (fun _ => False) (H) ?_
                      clear H; intro w11 H hz0 hs0
                      try clear C
                      try simp only [World.size_alloc, List.nil_append, List.cons_append, List.append_assoc] at H hz0
                      clear hz0
                      try clear w1
                      have C := H.cells
                      try simp only [cellsOf, cellsM, apartOf, apartM, and_true] at C
                      have Z := H.zs
                      try simp only [ltsOf, ltsM, and_true] at Z
                      have hz0 := Nat.le_refl w11.heap.size
                      have d3 : w11.cell? ⟨b, o + (j - 1) * 5, none⟩ = some (.int .i64 yi) := by
                        obtain ⟨bh, oh, e8, hbh, hch⟩ := (H.lies HL.out).at hml
                        obtain ⟨rfl, rfl⟩ : bh = b ∧ oh = o := by simpa using e8.symm
                        rw [HYI.out]
                        exact hch 0 _ rfl
                      have hbw : b < w11.heap.size := Nat.lt_of_lt_of_le hbB H.size
                      repeat (first | (refine wpX_skip rfl ?_; go_simp) | (refine wpX_free rfl rfl rfl (fun K hK => ?_); go_step; refine hK _ _ ?_; clear hK K) | (refine wpX_load rfl rfl rfl (by simp [Stay, OneD, NoD, *]) hs0 (by simp [*]) (fun K hK => ?_); go_step; refine hK _ _ ?_; clear hK K))
                      (refine wpX_nil ?_; try go_step)
                      try go_step
                      go_meet
                      exact ⟨false, rfl, Lib.hid ⟨fun _ => HC9.out, fun _ => rfl⟩, H⟩
                    · have i8 : decide ((200 : Int) < (td.length : Int)) = true := decide_eq_true (by omega)
                      have i9 : decide (200 < td.length) = true := decide_eq_true (by omega)
                      have HC9 := Lib.hid (show ¬ ((1 ≤ pi ∧ pi ≤ 999) ∧ (0 < j → (ps[j - 1]!).id < pi) ∧ pg.length ≤ 16 ∧ (false = true → pg = []) ∧ td.length ≤ 200) from fun h => i5 h.2.2.2.2)
                      skip
                      have hbB := hb
                      refine wp_region_xH (by kernel_rfl) (by kernel_rfl) (by kernel_rfl) (by kernel_rfl) (fun _ => False) (H) ?_
                      clear H; intro w12 H hz0 hs0
                      try clear C
                      try simp only [World.size_alloc, List.nil_append, List.cons_append, List.append_assoc] at H hz0
                      clear hz0
                      try clear w1
                      have C := H.cells
                      try simp only [cellsOf, cellsM, apartOf, apartM, and_true] at C
                      have Z := H.zs
                      try simp only [ltsOf, ltsM, and_true] at Z
                      have hz0 := Nat.le_refl w12.heap.size
                      have d3 : w12.cell? ⟨b, o + (j - 1) * 5, none⟩ = some (.int .i64 yi) := by
                        obtain ⟨bh, oh, e8, hbh, hch⟩ := (H.lies HL.out).at hml
                        obtain ⟨rfl, rfl⟩ : bh = b ∧ oh = o := by simpa using e8.symm
                        rw [HYI.out]
                        exact hch 0 _ rfl
                      have hbw : b < w12.heap.size := Nat.lt_of_lt_of_le hbB H.size
                      repeat (first | (refine wpX_skip rfl ?_; go_simp) | (refine wpX_free rfl rfl rfl (fun K hK => ?_); go_step; refine hK _ _ ?_; clear hK K) | (refine wpX_load rfl rfl rfl (by simp [Stay, OneD, NoD, *]) hs0 (by simp [*]) (fun K hK => ?_); go_step; refine hK _ _ ?_; clear hK K))
                      (refine wpX_nil ?_; try go_step)
                      try go_step
                      go_meet
                      exact ⟨true, rfl, Lib.hid ⟨(fun h => by cases h), fun h => absurd h HC9.out⟩, H⟩
                  | true =>
                    by_cases i4 : pg = []
                    · subst i4
                      by_cases i5 : td.length ≤ 200
                      · have i8 : decide ((200 : Int) < (td.length : Int)) = false := decide_eq_false (by omega)
                        have i9 : decide (200 < td.length) = false := decide_eq_false (by omega)
                        have HC9 := Lib.hid (show ((1 ≤ pi ∧ pi ≤ 999) ∧ (0 < j → (ps[j - 1]!).id < pi) ∧ ([] : List Pg).length ≤ 16 ∧ (true = true → ([] : List Pg) = []) ∧ td.length ≤ 200) from ⟨⟨i1, i2⟩, (fun _ => by rw [HPJ.out]; omega), i3, (fun _ => rfl), i5⟩)
                        skip
                        have hbB := hb
                        refine wp_region_xH (by kernel_rfl) (by kernel_rfl) (by kernel_rfl) (by kernel_rfl) (fun _ => False) (H) ?_
                        clear H; intro w13 H hz0 hs0
                        try clear C
                        try simp only [World.size_alloc, List.nil_append, List.cons_append, List.append_assoc] at H hz0
                        clear hz0
                        try clear w1
                        have C := H.cells
                        try simp only [cellsOf, cellsM, apartOf, apartM, and_true] at C
                        have Z := H.zs
                        try simp only [ltsOf, ltsM, and_true] at Z
                        have hz0 := Nat.le_refl w13.heap.size
                        have d3 : w13.cell? ⟨b, o + (j - 1) * 5, none⟩ = some (.int .i64 yi) := by
                          obtain ⟨bh, oh, e8, hbh, hch⟩ := (H.lies HL.out).at hml
                          obtain ⟨rfl, rfl⟩ : bh = b ∧ oh = o := by simpa using e8.symm
                          rw [HYI.out]
                          exact hch 0 _ rfl
                        have hbw : b < w13.heap.size := Nat.lt_of_lt_of_le hbB H.size
                        repeat (first | (refine wpX_skip rfl ?_; go_simp) | (refine wpX_free rfl rfl rfl (fun K hK => ?_); go_step; refine hK _ _ ?_; clear hK K) | (refine wpX_load rfl rfl rfl (by simp [Stay, OneD, NoD, *]) hs0 (by simp [*]) (fun K hK => ?_); go_step; refine hK _ _ ?_; clear hK K))
                        (refine wpX_nil ?_; try go_step)
                        try go_step
                        go_meet
                        exact ⟨false, rfl, Lib.hid ⟨fun _ => HC9.out, fun _ => rfl⟩, H⟩
                      · have i8 : decide ((200 : Int) < (td.length : Int)) = true := decide_eq_true (by omega)
                        have i9 : decide (200 < td.length) = true := decide_eq_true (by omega)
                        have HC9 := Lib.hid (show ¬ ((1 ≤ pi ∧ pi ≤ 999) ∧ (0 < j → (ps[j - 1]!).id < pi) ∧ ([] : List Pg).length ≤ 16 ∧ (true = true → ([] : List Pg) = []) ∧ td.length ≤ 200) from fun h => i5 h.2.2.2.2)
                        skip
                        have hbB := hb
                        refine wp_region_xH (by kernel_rfl) (by kernel_rfl) (by kernel_rfl) (by kernel_rfl) (fun _ => False) (H) ?_
                        clear H; intro w14 H hz0 hs0
                        try clear C
                        try simp only [World.size_alloc, List.nil_append, List.cons_append, List.append_assoc] at H hz0
                        clear hz0
                        try clear w1
                        have C := H.cells
                        try simp only [cellsOf, cellsM, apartOf, apartM, and_true] at C
                        have Z := H.zs
                        try simp only [ltsOf, ltsM, and_true] at Z
                        have hz0 := Nat.le_refl w14.heap.size
                        have d3 : w14.cell? ⟨b, o + (j - 1) * 5, none⟩ = some (.int .i64 yi) := by
                          obtain ⟨bh, oh, e8, hbh, hch⟩ := (H.lies HL.out).at hml
                          obtain ⟨rfl, rfl⟩ : bh = b ∧ oh = o := by simpa using e8.symm
                          rw [HYI.out]
                          exact hch 0 _ rfl
                        have hbw : b < w14.heap.size := Nat.lt_of_lt_of_le hbB H.size
                        repeat (first | (refine wpX_skip rfl ?_; go_simp) | (refine wpX_free rfl rfl rfl (fun K hK => ?_); go_step; refine hK _ _ ?_; clear hK K) | (refine wpX_load rfl rfl rfl (by simp [Stay, OneD, NoD, *]) hs0 (by simp [*]) (fun K hK => ?_); go_step; refine hK _ _ ?_; clear hK K))
                        (refine wpX_nil ?_; try go_step)
                        try go_step
                        go_meet
                        exact ⟨true, rfl, Lib.hid ⟨(fun h => by cases h), fun h => absurd h HC9.out⟩, H⟩
                    · have i6 : decide ((0 : Int) < (pg.length : Int)) = true := decide_eq_true (by have := List.length_pos_iff.2 i4; omega)
                      have i7 : decide (0 < pg.length) = true := decide_eq_true (List.length_pos_iff.2 i4)
                      have HC9 := Lib.hid (show ¬ ((1 ≤ pi ∧ pi ≤ 999) ∧ (0 < j → (ps[j - 1]!).id < pi) ∧ pg.length ≤ 16 ∧ (true = true → pg = []) ∧ td.length ≤ 200) from fun h => i4 (h.2.2.2.1 rfl))
                      skip
                      have hbB := hb
                      refine wp_region_xH (by kernel_rfl) (by kernel_rfl) (by kernel_rfl) (by kernel_rfl) (fun _ => False) (H) ?_
                      clear H; intro w15 H hz0 hs0
                      try clear C
                      try simp only [World.size_alloc, List.nil_append, List.cons_append, List.append_assoc] at H hz0
                      clear hz0
                      try clear w1
                      have C := H.cells
                      try simp only [cellsOf, cellsM, apartOf, apartM, and_true] at C
                      have Z := H.zs
                      try simp only [ltsOf, ltsM, and_true] at Z
                      have hz0 := Nat.le_refl w15.heap.size
                      have d3 : w15.cell? ⟨b, o + (j - 1) * 5, none⟩ = some (.int .i64 yi) := by
                        obtain ⟨bh, oh, e8, hbh, hch⟩ := (H.lies HL.out).at hml
                        obtain ⟨rfl, rfl⟩ : bh = b ∧ oh = o := by simpa using e8.symm
                        rw [HYI.out]
                        exact hch 0 _ rfl
                      have hbw : b < w15.heap.size := Nat.lt_of_lt_of_le hbB H.size
                      repeat (first | (refine wpX_skip rfl ?_; go_simp) | (refine wpX_free rfl rfl rfl (fun K hK => ?_); go_step; refine hK _ _ ?_; clear hK K) | (refine wpX_load rfl rfl rfl (by simp [Stay, OneD, NoD, *]) hs0 (by simp [*]) (fun K hK => ?_); go_step; refine hK _ _ ?_; clear hK K))
                      (refine wpX_nil ?_; try go_step)
                      try go_step
                      go_meet
                      exact ⟨true, rfl, Lib.hid ⟨(fun h => by cases h), fun h => absurd h HC9.out⟩, H⟩
                · have q3 : decide ((16 : Int) < (pg.length : Int)) = true := decide_eq_true (by omega)
                  have q4 : decide (16 < pg.length) = true := decide_eq_true (by omega)
                  have HC9 := Lib.hid (show ¬ ((1 ≤ pi ∧ pi ≤ 999) ∧ (0 < j → (ps[j - 1]!).id < pi) ∧ pg.length ≤ 16 ∧ (pd = true → pg = []) ∧ td.length ≤ 200) from fun h => i3 h.2.2.1)
                  skip
                  have hbB := hb
                  refine wp_region_xH (by kernel_rfl) (by kernel_rfl) (by kernel_rfl) (by kernel_rfl) (fun _ => False) (H) ?_
                  clear H; intro w16 H hz0 hs0
                  try clear C
                  try simp only [World.size_alloc, List.nil_append, List.cons_append, List.append_assoc] at H hz0
                  clear hz0
                  try clear w1
                  have C := H.cells
                  try simp only [cellsOf, cellsM, apartOf, apartM, and_true] at C
                  have Z := H.zs
                  try simp only [ltsOf, ltsM, and_true] at Z
                  have hz0 := Nat.le_refl w16.heap.size
                  have d3 : w16.cell? ⟨b, o + (j - 1) * 5, none⟩ = some (.int .i64 yi) := by
                    obtain ⟨bh, oh, e8, hbh, hch⟩ := (H.lies HL.out).at hml
                    obtain ⟨rfl, rfl⟩ : bh = b ∧ oh = o := by simpa using e8.symm
                    rw [HYI.out]
                    exact hch 0 _ rfl
                  have hbw : b < w16.heap.size := Nat.lt_of_lt_of_le hbB H.size
                  repeat (first | (refine wpX_skip rfl ?_; go_simp) | (refine wpX_free rfl rfl rfl (fun K hK => ?_); go_step; refine hK _ _ ?_; clear hK K) | (refine wpX_load rfl rfl rfl (by simp [Stay, OneD, NoD, *]) hs0 (by simp [*]) (fun K hK => ?_); go_step; refine hK _ _ ?_; clear hK K))
                  (refine wpX_nil ?_; try go_step)
                  try go_step
                  go_meet
                  exact ⟨true, rfl, Lib.hid ⟨(fun h => by cases h), fun h => absurd h HC9.out⟩, H⟩
            · have q2 : decide (999 < pi) = true := decide_eq_true (by omega)
              have HC9 := Lib.hid (show ¬ ((1 ≤ pi ∧ pi ≤ 999) ∧ (0 < j → (ps[j - 1]!).id < pi) ∧ pg.length ≤ 16 ∧ (pd = true → pg = []) ∧ td.length ≤ 200) from fun h => i2 h.1.2)
              skip
              have hbB := hb
              refine wp_region_xH (by kernel_rfl) (by kernel_rfl) (by kernel_rfl) (by kernel_rfl) (fun _ => False) (H) ?_
              clear H; intro w17 H hz0 hs0
              try clear C
              try simp only [World.size_alloc, List.nil_append, List.cons_append, List.append_assoc] at H hz0
              clear hz0
              try clear w1
              have C := H.cells
              try simp only [cellsOf, cellsM, apartOf, apartM, and_true] at C
              have Z := H.zs
              try simp only [ltsOf, ltsM, and_true] at Z
              have hz0 := Nat.le_refl w17.heap.size
              have d3 : w17.cell? ⟨b, o + (j - 1) * 5, none⟩ = some (.int .i64 yi) := by
                obtain ⟨bh, oh, e8, hbh, hch⟩ := (H.lies HL.out).at hml
                obtain ⟨rfl, rfl⟩ : bh = b ∧ oh = o := by simpa using e8.symm
                rw [HYI.out]
                exact hch 0 _ rfl
              have hbw : b < w17.heap.size := Nat.lt_of_lt_of_le hbB H.size
              repeat (first | (refine wpX_skip rfl ?_; go_simp) | (refine wpX_free rfl rfl rfl (fun K hK => ?_); go_step; refine hK _ _ ?_; clear hK K) | (refine wpX_load rfl rfl rfl (by simp [Stay, OneD, NoD, *]) hs0 (by simp [*]) (fun K hK => ?_); go_step; refine hK _ _ ?_; clear hK K))
              (refine wpX_nil ?_; try go_step)
              try go_step
              go_meet
              exact ⟨true, rfl, Lib.hid ⟨(fun h => by cases h), fun h => absurd h HC9.out⟩, H⟩
          · have q1 : decide (pi < 1) = true := decide_eq_true (by omega)
            have HC9 := Lib.hid (show ¬ ((1 ≤ pi ∧ pi ≤ 999) ∧ (0 < j → (ps[j - 1]!).id < pi) ∧ pg.length ≤ 16 ∧ (pd = true → pg = []) ∧ td.length ≤ 200) from fun h => i1 h.1.1)
            skip
            have hbB := hb
            refine wp_region_xH (by kernel_rfl) (by kernel_rfl) (by kernel_rfl) (by kernel_rfl) (fun _ => False) (H) ?_
            clear H; intro w18 H hz0 hs0
            try clear C
            try simp only [World.size_alloc, List.nil_append, List.cons_append, List.append_assoc] at H hz0
            clear hz0
            try clear w1
            have C := H.cells
            try simp only [cellsOf, cellsM, apartOf, apartM, and_true] at C
            have Z := H.zs
            try simp only [ltsOf, ltsM, and_true] at Z
            have hz0 := Nat.le_refl w18.heap.size
            have d3 : w18.cell? ⟨b, o + (j - 1) * 5, none⟩ = some (.int .i64 yi) := by
              obtain ⟨bh, oh, e8, hbh, hch⟩ := (H.lies HL.out).at hml
              obtain ⟨rfl, rfl⟩ : bh = b ∧ oh = o := by simpa using e8.symm
              rw [HYI.out]
              exact hch 0 _ rfl
            have hbw : b < w18.heap.size := Nat.lt_of_lt_of_le hbB H.size
            repeat (first | (refine wpX_skip rfl ?_; go_simp) | (refine wpX_free rfl rfl rfl (fun K hK => ?_); go_step; refine hK _ _ ?_; clear hK K) | (refine wpX_load rfl rfl rfl (by simp [Stay, OneD, NoD, *]) hs0 (by simp [*]) (fun K hK => ?_); go_step; refine hK _ _ ?_; clear hK K))
            (refine wpX_nil ?_; try go_step)
            try go_step
            go_meet
            exact ⟨true, rfl, Lib.hid ⟨(fun h => by cases h), fun h => absurd h HC9.out⟩, H⟩
      case rest =>
        clear H C
        obtain ⟨tt, rfl, HTT, H⟩ := hcut
        skip
        try clear C
        try simp only [World.size_alloc, List.nil_append, List.cons_append, List.append_assoc] at H
        have C := H.cells
        try simp only [cellsOf, cellsM, apartOf, apartM, and_true] at C
        cases tt with
        | true =>
          have HF9 := Lib.hid (HRF.out (fun g => by
            have h1 := g.one _ (at_mem hjp)
            rw [HPE.out] at h1
            have h2 := HTT.out.2 ⟨h1.ids, fun h0 => by
              have h3 := (HOK.out.1 (g.okPr.take _)).2 h0
              exact h3, h1.plen, h1.dead, h1.told⟩
            cases h2))
          go_wp2_with fail
          go_ret
          exact ⟨by rw [HF9.out]; rfl, H.done⟩
        | false =>
        have HCD := Lib.hid (HTT.out.1 rfl)
        clear HTT
        skip
        go_upto_region 8 with fail
        generalize hwb : (wc.alloc _) = wm2
        replace H := HS.eqW hwb H.allocObj
        try simp only [World.size_alloc, List.nil_append, List.cons_append, List.append_assoc] at H
        clear hwb
        generalize wc.heap.size = bm at H ⊢
        skip
        try clear C
        try simp only [World.size_alloc, List.nil_append, List.cons_append, List.append_assoc] at H
        have C := H.cells
        try simp only [cellsOf, cellsM, apartOf, apartM, and_true] at C
        go_wp2_with fail
        go_loopw [72] (fun kk wr => ∃ (k : Nat) (es : Array MapEntry) (clock : Nat), kk = .int .i64 k ∧ k ≤ pg.length ∧ Hid (MapV es clock (boolM (pg.take k))) ∧ Hid (OkPg F (pg.take k)) ∧ Hid (∀ x ∈ pg.take k, okS (allPg (ps.take j)) x) ∧ HS NoD w [.obj bo (.map eo co), .blk b7 #[.int .i64 pi, .bool pt, .bool pd, .slice pb pg.length pc, .slice tb td.length tc] 52, .obj bm (.map es clock)] wr) (fun kk _ => pg.length - (intOf kk).toNat)
        case atStart => exact ⟨0, #[], 0, rfl, Nat.zero_le _, MapV.nil, OkPg.nil F, (fun x hx => absurd hx (by simp)), H⟩
        case round =>
          clear H C
          obtain ⟨k, es, clock, rfl, hk, HM, HO, HKS, H⟩ := hrel
          skip
          try clear C
          try simp only [World.size_alloc, List.nil_append, List.cons_append, List.append_assoc] at H
          have C := H.cells
          try simp only [cellsOf, cellsM, apartOf, apartM, and_true] at C
          by_cases hlk : k < pg.length
          · obtain ⟨bg, og, e9, hbg, hcg⟩ := (H.lies HPG.out).at hlk
            obtain rfl : pb = some ⟨bg, og, none⟩ := e9
            have hs := okPg_succ hlk HO.out
            obtain ⟨hb2, hhb⟩ : ∃ b, b = (pg.take k).any (fun y => decide (y.f = (pg[k]!).f)) := ⟨_, rfl⟩
            have hn := boolM_get (pg[k]!).f (pg.take k)
            have HP := Lib.hid (fun h => boolM_put hlk (okPg_succ hlk HO.out |>.1 h).2.2)
            rw [← hhb] at hs hn
            clear hhb
            obtain ⟨xo, hxo⟩ : ∃ x, x = pg[k]! := ⟨_, rfl⟩
            have HXO := Lib.hid hxo
            rw [← hxo] at hcg hs hn HP
            clear hxo
            obtain ⟨xn, xf, xs⟩ := xo
            dsimp only at hs hn HP
            have HN : Hid (getV xf (boolM (pg.take k)) = if hb2 = true then some (.bool true) else none) := hn
            have HSU := Lib.hid hs
            clear hn hs
            have d0 : wr.cell? ⟨bg, og + k * 3, none⟩ = some (.int .i64 xn) := hcg 0 _ rfl
            have d1 : wr.cell? ⟨bg, og + k * 3 + 1, none⟩ = some (.int .i64 xf) := hcg 1 _ rfl
            have d2 : wr.cell? ⟨bg, og + k * 3 + 2, none⟩ = some (.bool xs) := hcg 2 _ rfl
            clear hcg
            go_upto_region 11 with fail
            clear d0 d1 d2
            generalize hwb : wr.alloc _ = w19
            replace H := HS.eqW hwb H.alloc
            try simp only [World.size_alloc, List.nil_append, List.cons_append, List.append_assoc] at H
            clear hwb
            generalize wr.heap.size = bx at H ⊢
            try clear C
            try clear wr
            have C := H.cells
            try simp only [cellsOf, cellsM, apartOf, apartM, and_true] at C
            skip
            go_cut [117] from 77 to 116 (fun y wx => ∃ tt : Bool, y = .bool tt ∧ Hid (tt = false ↔ OkPg F (pg.take (k + 1))) ∧ HS NoD w [.obj bo (.map eo co), .blk b7 #[.int .i64 pi, .bool pt, .bool pd, .slice (some ⟨bg, og, none⟩) pg.length pc, .slice tb td.length tc] 52, .obj bm (.map es clock), .blk bx #[.int .i64 xn, .int .i64 xf, .bool xs] 49] wx)
            case first =>
              cases k with
              | zero =>
                have hs := HSU.out
                replace HSU : Hid (OkPg F (pg.take (0 + 1)) ↔ (0 ≤ xn ∧ xn ≤ 999 ∧ 0 ≤ xf ∧ xf < F) ∧ hb2 = false) := Lib.hid (hs.trans ⟨fun h => h.2, fun h => ⟨fun h0 => absurd h0 (Nat.lt_irrefl 0), h⟩⟩)
                clear hs
                by_cases c2 : xn < 0
                · have q2 : decide (xn < 0) = true := decide_eq_true c2
                  have HC9 := Lib.hid (show ¬ OkPg F (pg.take (0 + 1)) from fun g => by have h := HSU.out.1 g; have h2 := h.1; omega)
                  skip
                  refine wp_region_xH (by kernel_rfl) (by kernel_rfl) (by kernel_rfl) (by kernel_rfl) (fun _ => False) (H) ?_
                  clear H; intro w20 H hz0 hs0
                  try clear C
                  try simp only [World.size_alloc, List.nil_append, List.cons_append, List.append_assoc] at H hz0
                  clear hz0
                  try clear w19
                  have C := H.cells
                  try simp only [cellsOf, cellsM, apartOf, apartM, and_true] at C
                  have Z := H.zs
                  try simp only [ltsOf, ltsM, and_true] at Z
                  have hz0 := Nat.le_refl w20.heap.size
                  have hbm : bm < w20.heap.size := Item.lt (H.at 2 rfl) (k := bm) rfl
                  repeat (first | (refine wpX_skip rfl ?_; go_simp) | (refine wpX_free rfl rfl rfl (fun K hK => ?_); go_step; refine hK _ _ ?_; clear hK K) | (refine wpX_load rfl rfl rfl (by simp [Stay, OneD, NoD, *]) hs0 (by simp [*]) (fun K hK => ?_); go_step; refine hK _ _ ?_; clear hK K))
                  (refine wpX_nil ?_; try go_step)
                  try go_step
                  go_meet
                  exact ⟨true, rfl, Lib.hid ⟨(fun h => by cases h), fun h => absurd h HC9.out⟩, H⟩
                · have q2 : decide (xn < 0) = false := decide_eq_false c2
                  by_cases c3 : 999 < xn
                  · have q3 : decide (999 < xn) = true := decide_eq_true c3
                    have HC9 := Lib.hid (show ¬ OkPg F (pg.take (0 + 1)) from fun g => by have h := HSU.out.1 g; have h2 := h.1; omega)
                    skip
                    refine wp_region_xH (by kernel_rfl) (by kernel_rfl) (by kernel_rfl) (by kernel_rfl) (fun _ => False) (H) ?_
                    clear H; intro w21 H hz0 hs0
                    try clear C
                    try simp only [World.size_alloc, List.nil_append, List.cons_append, List.append_assoc] at H hz0
                    clear hz0
                    try clear w19
                    have C := H.cells
                    try simp only [cellsOf, cellsM, apartOf, apartM, and_true] at C
                    have Z := H.zs
                    try simp only [ltsOf, ltsM, and_true] at Z
                    have hz0 := Nat.le_refl w21.heap.size
                    have hbm : bm < w21.heap.size := Item.lt (H.at 2 rfl) (k := bm) rfl
                    repeat (first | (refine wpX_skip rfl ?_; go_simp) | (refine wpX_free rfl rfl rfl (fun K hK => ?_); go_step; refine hK _ _ ?_; clear hK K) | (refine wpX_load rfl rfl rfl (by simp [Stay, OneD, NoD, *]) hs0 (by simp [*]) (fun K hK => ?_); go_step; refine hK _ _ ?_; clear hK K))
                    (refine wpX_nil ?_; try go_step)
                    try go_step
                    go_meet
                    exact ⟨true, rfl, Lib.hid ⟨(fun h => by cases h), fun h => absurd h HC9.out⟩, H⟩
                  · have q3 : decide (999 < xn) = false := decide_eq_false c3
                    by_cases c4 : xf < 0
                    · have q4 : decide (xf < 0) = true := decide_eq_true c4
                      have HC9 := Lib.hid (show ¬ OkPg F (pg.take (0 + 1)) from fun g => by have h := HSU.out.1 g; have h2 := h.1; omega)
                      skip
                      refine wp_region_xH (by kernel_rfl) (by kernel_rfl) (by kernel_rfl) (by kernel_rfl) (fun _ => False) (H) ?_
                      clear H; intro w22 H hz0 hs0
                      try clear C
                      try simp only [World.size_alloc, List.nil_append, List.cons_append, List.append_assoc] at H hz0
                      clear hz0
                      try clear w19
                      have C := H.cells
                      try simp only [cellsOf, cellsM, apartOf, apartM, and_true] at C
                      have Z := H.zs
                      try simp only [ltsOf, ltsM, and_true] at Z
                      have hz0 := Nat.le_refl w22.heap.size
                      have hbm : bm < w22.heap.size := Item.lt (H.at 2 rfl) (k := bm) rfl
                      repeat (first | (refine wpX_skip rfl ?_; go_simp) | (refine wpX_free rfl rfl rfl (fun K hK => ?_); go_step; refine hK _ _ ?_; clear hK K) | (refine wpX_load rfl rfl rfl (by simp [Stay, OneD, NoD, *]) hs0 (by simp [*]) (fun K hK => ?_); go_step; refine hK _ _ ?_; clear hK K))
                      (refine wpX_nil ?_; try go_step)
                      try go_step
                      go_meet
                      exact ⟨true, rfl, Lib.hid ⟨(fun h => by cases h), fun h => absurd h HC9.out⟩, H⟩
                    · have q4 : decide (xf < 0) = false := decide_eq_false c4
                      by_cases c5 : F ≤ xf
                      · have q5 : decide (F ≤ xf) = true := decide_eq_true c5
                        have HC9 := Lib.hid (show ¬ OkPg F (pg.take (0 + 1)) from fun g => by have h := HSU.out.1 g; have h2 := h.1; omega)
                        skip
                        refine wp_region_xH (by kernel_rfl) (by kernel_rfl) (by kernel_rfl) (by kernel_rfl) (fun _ => False) (H) ?_
                        clear H; intro w23 H hz0 hs0
                        try clear C
                        try simp only [World.size_alloc, List.nil_append, List.cons_append, List.append_assoc] at H hz0
                        clear hz0
                        try clear w19
                        have C := H.cells
                        try simp only [cellsOf, cellsM, apartOf, apartM, and_true] at C
                        have Z := H.zs
                        try simp only [ltsOf, ltsM, and_true] at Z
                        have hz0 := Nat.le_refl w23.heap.size
                        have hbm : bm < w23.heap.size := Item.lt (H.at 2 rfl) (k := bm) rfl
                        repeat (first | (refine wpX_skip rfl ?_; go_simp) | (refine wpX_free rfl rfl rfl (fun K hK => ?_); go_step; refine hK _ _ ?_; clear hK K) | (refine wpX_load rfl rfl rfl (by simp [Stay, OneD, NoD, *]) hs0 (by simp [*]) (fun K hK => ?_); go_step; refine hK _ _ ?_; clear hK K))
                        (refine wpX_nil ?_; try go_step)
                        try go_step
                        go_meet
                        exact ⟨true, rfl, Lib.hid ⟨(fun h => by cases h), fun h => absurd h HC9.out⟩, H⟩
                      · have q5 : decide (F ≤ xf) = false := decide_eq_false c5
                        cases hb2 with
                        | true =>
                          have HC9 := Lib.hid (show ¬ OkPg F (pg.take (0 + 1)) from fun g => by have h := HSU.out.1 g; cases h.2)
                          skip
                          refine wp_region_xH (by kernel_rfl) (by kernel_rfl) (by kernel_rfl) (by kernel_rfl) (fun _ => False) (H) ?_
                          clear H; intro w24 H hz0 hs0
                          try clear C
                          try simp only [World.size_alloc, List.nil_append, List.cons_append, List.append_assoc] at H hz0
                          clear hz0
                          try clear w19
                          have C := H.cells
                          try simp only [cellsOf, cellsM, apartOf, apartM, and_true] at C
                          have Z := H.zs
                          try simp only [ltsOf, ltsM, and_true] at Z
                          have hz0 := Nat.le_refl w24.heap.size
                          have hbm : bm < w24.heap.size := Item.lt (H.at 2 rfl) (k := bm) rfl
                          repeat (first | (refine wpX_skip rfl ?_; go_simp) | (refine wpX_free rfl rfl rfl (fun K hK => ?_); go_step; refine hK _ _ ?_; clear hK K) | (refine wpX_load rfl rfl rfl (by simp [Stay, OneD, NoD, *]) hs0 (by simp [*]) (fun K hK => ?_); go_step; refine hK _ _ ?_; clear hK K))
                          refine wpX_lookup_V (by rfl) (.tmp 113) (.tmp 115) rfl HT HK HE (fun w hS => (hS bm ⟨hbm, fun h => h⟩).trans (H.at 2 rfl)) HM.out rfl rfl (v := .bool true) (by rw [HN.out]; rfl) ?_
                          go_simp
                          repeat (first | (refine wpX_skip rfl ?_; go_simp) | (refine wpX_free rfl rfl rfl (fun K hK => ?_); go_step; refine hK _ _ ?_; clear hK K) | (refine wpX_load rfl rfl rfl (by simp [Stay, OneD, NoD, *]) hs0 (by simp [*]) (fun K hK => ?_); go_step; refine hK _ _ ?_; clear hK K))
                          (refine wpX_nil ?_; try go_step)
                          try go_step
                          go_meet
                          exact ⟨true, rfl, Lib.hid ⟨(fun h => by cases h), fun h => absurd h HC9.out⟩, H⟩
                        | false =>
                          have HC9 : Hid (OkPg F (pg.take (0 + 1))) := HSU.out.2 ⟨by omega, rfl⟩
                          skip
                          refine wp_region_xH (by kernel_rfl) (by kernel_rfl) (by kernel_rfl) (by kernel_rfl) (fun _ => False) (H) ?_
                          clear H; intro w25 H hz0 hs0
                          try clear C
                          try simp only [World.size_alloc, List.nil_append, List.cons_append, List.append_assoc] at H hz0
                          clear hz0
                          try clear w19
                          have C := H.cells
                          try simp only [cellsOf, cellsM, apartOf, apartM, and_true] at C
                          have Z := H.zs
                          try simp only [ltsOf, ltsM, and_true] at Z
                          have hz0 := Nat.le_refl w25.heap.size
                          have hbm : bm < w25.heap.size := Item.lt (H.at 2 rfl) (k := bm) rfl
                          repeat (first | (refine wpX_skip rfl ?_; go_simp) | (refine wpX_free rfl rfl rfl (fun K hK => ?_); go_step; refine hK _ _ ?_; clear hK K) | (refine wpX_load rfl rfl rfl (by simp [Stay, OneD, NoD, *]) hs0 (by simp [*]) (fun K hK => ?_); go_step; refine hK _ _ ?_; clear hK K))
                          refine wpX_lookup_V (by rfl) (.tmp 113) (.tmp 115) rfl HT HK HE (fun w hS => (hS bm ⟨hbm, fun h => h⟩).trans (H.at 2 rfl)) HM.out rfl rfl (v := .bool false) (by rw [HN.out]; rfl) ?_
                          go_simp
                          repeat (first | (refine wpX_skip rfl ?_; go_simp) | (refine wpX_free rfl rfl rfl (fun K hK => ?_); go_step; refine hK _ _ ?_; clear hK K) | (refine wpX_load rfl rfl rfl (by simp [Stay, OneD, NoD, *]) hs0 (by simp [*]) (fun K hK => ?_); go_step; refine hK _ _ ?_; clear hK K))
                          (refine wpX_nil ?_; try go_step)
                          try go_step
                          go_meet
                          exact ⟨false, rfl, Lib.hid ⟨fun _ => HC9.out, fun _ => rfl⟩, H⟩
              | succ m =>
                obtain ⟨yo, hyo⟩ : ∃ y, y = pg[m]! := ⟨_, rfl⟩
                have HYO := Lib.hid hyo
                have hs := HSU.out
                rw [Nat.add_sub_cancel, ← hyo] at hs
                clear hyo
                obtain ⟨yn, yf, ys⟩ := yo
                dsimp only at hs
                replace HSU : Hid (OkPg F (pg.take (m + 1 + 1)) ↔ yn < xn ∧ (0 ≤ xn ∧ xn ≤ 999 ∧ 0 ≤ xf ∧ xf < F) ∧ hb2 = false) := Lib.hid (hs.trans ⟨fun h => ⟨h.1 (Nat.succ_pos m), h.2⟩, fun h => ⟨fun _ => h.1, h.2⟩⟩)
                clear hs
                by_cases c2 : xn < 0
                · have q2 : decide (xn < 0) = true := decide_eq_true c2
                  have HC9 := Lib.hid (show ¬ OkPg F (pg.take (m + 1 + 1)) from fun g => by have h := HSU.out.1 g; have h2 := h.2.1; omega)
                  skip
                  refine wp_region_xH (by kernel_rfl) (by kernel_rfl) (by kernel_rfl) (by kernel_rfl) (fun _ => False) (H) ?_
                  clear H; intro w26 H hz0 hs0
                  try clear C
                  try simp only [World.size_alloc, List.nil_append, List.cons_append, List.append_assoc] at H hz0
                  clear hz0
                  try clear w19
                  have C := H.cells
                  try simp only [cellsOf, cellsM, apartOf, apartM, and_true] at C
                  have Z := H.zs
                  try simp only [ltsOf, ltsM, and_true] at Z
                  have hz0 := Nat.le_refl w26.heap.size
                  have hch := (H.lies HPG.out).at (show m < pg.length by omega)
                  obtain ⟨bh, oh, e8, hbh, hch⟩ := hch
                  obtain ⟨rfl, rfl⟩ : bh = bg ∧ oh = og := by simpa using e8.symm
                  rw [← HYO.out] at hch
                  have d3 : w26.cell? ⟨bh, oh + m * 3, none⟩ = some (.int .i64 yn) := hch 0 _ rfl
                  have hbw : bh < w26.heap.size := Nat.lt_of_lt_of_le hbh H.size
                  clear hch e8
                  have hbm : bm < w26.heap.size := Item.lt (H.at 2 rfl) (k := bm) rfl
                  repeat (first | (refine wpX_skip rfl ?_; go_simp) | (refine wpX_free rfl rfl rfl (fun K hK => ?_); go_step; refine hK _ _ ?_; clear hK K) | (refine wpX_load rfl rfl rfl (by simp [Stay, OneD, NoD, *]) hs0 (by simp [*]) (fun K hK => ?_); go_step; refine hK _ _ ?_; clear hK K))
                  (refine wpX_nil ?_; try go_step)
                  try go_step
                  go_meet
                  exact ⟨true, rfl, Lib.hid ⟨(fun h => by cases h), fun h => absurd h HC9.out⟩, H⟩
                · have q2 : decide (xn < 0) = false := decide_eq_false c2
                  by_cases c3 : 999 < xn
                  · have q3 : decide (999 < xn) = true := decide_eq_true c3
                    have HC9 := Lib.hid (show ¬ OkPg F (pg.take (m + 1 + 1)) from fun g => by have h := HSU.out.1 g; have h2 := h.2.1; omega)
                    skip
                    refine wp_region_xH (by kernel_rfl) (by kernel_rfl) (by kernel_rfl) (by kernel_rfl) (fun _ => False) (H) ?_
                    clear H; intro w27 H hz0 hs0
                    try clear C
                    try simp only [World.size_alloc, List.nil_append, List.cons_append, List.append_assoc] at H hz0
                    clear hz0
                    try clear w19
                    have C := H.cells
                    try simp only [cellsOf, cellsM, apartOf, apartM, and_true] at C
                    have Z := H.zs
                    try simp only [ltsOf, ltsM, and_true] at Z
                    have hz0 := Nat.le_refl w27.heap.size
                    have hch := (H.lies HPG.out).at (show m < pg.length by omega)
                    obtain ⟨bh, oh, e8, hbh, hch⟩ := hch
                    obtain ⟨rfl, rfl⟩ : bh = bg ∧ oh = og := by simpa using e8.symm
                    rw [← HYO.out] at hch
                    have d3 : w27.cell? ⟨bh, oh + m * 3, none⟩ = some (.int .i64 yn) := hch 0 _ rfl
                    have hbw : bh < w27.heap.size := Nat.lt_of_lt_of_le hbh H.size
                    clear hch e8
                    have hbm : bm < w27.heap.size := Item.lt (H.at 2 rfl) (k := bm) rfl
                    repeat (first | (refine wpX_skip rfl ?_; go_simp) | (refine wpX_free rfl rfl rfl (fun K hK => ?_); go_step; refine hK _ _ ?_; clear hK K) | (refine wpX_load rfl rfl rfl (by simp [Stay, OneD, NoD, *]) hs0 (by simp [*]) (fun K hK => ?_); go_step; refine hK _ _ ?_; clear hK K))
                    (refine wpX_nil ?_; try go_step)
                    try go_step
                    go_meet
                    exact ⟨true, rfl, Lib.hid ⟨(fun h => by cases h), fun h => absurd h HC9.out⟩, H⟩
                  · have q3 : decide (999 < xn) = false := decide_eq_false c3
                    by_cases c1 : xn ≤ yn
                    · have q1 : decide (xn ≤ yn) = true := decide_eq_true c1
                      have HC9 := Lib.hid (show ¬ OkPg F (pg.take (m + 1 + 1)) from fun g => by have h := HSU.out.1 g; exact absurd h.1 (by omega))
                      skip
                      refine wp_region_xH (by kernel_rfl) (by kernel_rfl) (by kernel_rfl) (by kernel_rfl) (fun _ => False) (H) ?_
                      clear H; intro w28 H hz0 hs0
                      try clear C
                      try simp only [World.size_alloc, List.nil_append, List.cons_append, List.append_assoc] at H hz0
                      clear hz0
                      try clear w19
                      have C := H.cells
                      try simp only [cellsOf, cellsM, apartOf, apartM, and_true] at C
                      have Z := H.zs
                      try simp only [ltsOf, ltsM, and_true] at Z
                      have hz0 := Nat.le_refl w28.heap.size
                      have hch := (H.lies HPG.out).at (show m < pg.length by omega)
                      obtain ⟨bh, oh, e8, hbh, hch⟩ := hch
                      obtain ⟨rfl, rfl⟩ : bh = bg ∧ oh = og := by simpa using e8.symm
                      rw [← HYO.out] at hch
                      have d3 : w28.cell? ⟨bh, oh + m * 3, none⟩ = some (.int .i64 yn) := hch 0 _ rfl
                      have hbw : bh < w28.heap.size := Nat.lt_of_lt_of_le hbh H.size
                      clear hch e8
                      have hbm : bm < w28.heap.size := Item.lt (H.at 2 rfl) (k := bm) rfl
                      repeat (first | (refine wpX_skip rfl ?_; go_simp) | (refine wpX_free rfl rfl rfl (fun K hK => ?_); go_step; refine hK _ _ ?_; clear hK K) | (refine wpX_load rfl rfl rfl (by simp [Stay, OneD, NoD, *]) hs0 (by simp [*]) (fun K hK => ?_); go_step; refine hK _ _ ?_; clear hK K))
                      (refine wpX_nil ?_; try go_step)
                      try go_step
                      go_meet
                      exact ⟨true, rfl, Lib.hid ⟨(fun h => by cases h), fun h => absurd h HC9.out⟩, H⟩
                    · have q1 : decide (xn ≤ yn) = false := decide_eq_false c1
                      by_cases c4 : xf < 0
                      · have q4 : decide (xf < 0) = true := decide_eq_true c4
                        have HC9 := Lib.hid (show ¬ OkPg F (pg.take (m + 1 + 1)) from fun g => by have h := HSU.out.1 g; have h2 := h.2.1; omega)
                        skip
                        refine wp_region_xH (by kernel_rfl) (by kernel_rfl) (by kernel_rfl) (by kernel_rfl) (fun _ => False) (H) ?_
                        clear H; intro w29 H hz0 hs0
                        try clear C
                        try simp only [World.size_alloc, List.nil_append, List.cons_append, List.append_assoc] at H hz0
                        clear hz0
                        try clear w19
                        have C := H.cells
                        try simp only [cellsOf, cellsM, apartOf, apartM, and_true] at C
                        have Z := H.zs
                        try simp only [ltsOf, ltsM, and_true] at Z
                        have hz0 := Nat.le_refl w29.heap.size
                        have hch := (H.lies HPG.out).at (show m < pg.length by omega)
                        obtain ⟨bh, oh, e8, hbh, hch⟩ := hch
                        obtain ⟨rfl, rfl⟩ : bh = bg ∧ oh = og := by simpa using e8.symm
                        rw [← HYO.out] at hch
                        have d3 : w29.cell? ⟨bh, oh + m * 3, none⟩ = some (.int .i64 yn) := hch 0 _ rfl
                        have hbw : bh < w29.heap.size := Nat.lt_of_lt_of_le hbh H.size
                        clear hch e8
                        have hbm : bm < w29.heap.size := Item.lt (H.at 2 rfl) (k := bm) rfl
                        repeat (first | (refine wpX_skip rfl ?_; go_simp) | (refine wpX_free rfl rfl rfl (fun K hK => ?_); go_step; refine hK _ _ ?_; clear hK K) | (refine wpX_load rfl rfl rfl (by simp [Stay, OneD, NoD, *]) hs0 (by simp [*]) (fun K hK => ?_); go_step; refine hK _ _ ?_; clear hK K))
                        (refine wpX_nil ?_; try go_step)
                        try go_step
                        go_meet
                        exact ⟨true, rfl, Lib.hid ⟨(fun h => by cases h), fun h => absurd h HC9.out⟩, H⟩
                      · have q4 : decide (xf < 0) = false := decide_eq_false c4
                        by_cases c5 : F ≤ xf
                        · have q5 : decide (F ≤ xf) = true := decide_eq_true c5
                          have HC9 := Lib.hid (show ¬ OkPg F (pg.take (m + 1 + 1)) from fun g => by have h := HSU.out.1 g; have h2 := h.2.1; omega)
                          skip
                          refine wp_region_xH (by kernel_rfl) (by kernel_rfl) (by kernel_rfl) (by kernel_rfl) (fun _ => False) (H) ?_
                          clear H; intro w30 H hz0 hs0
                          try clear C
                          try simp only [World.size_alloc, List.nil_append, List.cons_append, List.append_assoc] at H hz0
                          clear hz0
                          try clear w19
                          have C := H.cells
                          try simp only [cellsOf, cellsM, apartOf, apartM, and_true] at C
                          have Z := H.zs
                          try simp only [ltsOf, ltsM, and_true] at Z
                          have hz0 := Nat.le_refl w30.heap.size
                          have hch := (H.lies HPG.out).at (show m < pg.length by omega)
                          obtain ⟨bh, oh, e8, hbh, hch⟩ := hch
                          obtain ⟨rfl, rfl⟩ : bh = bg ∧ oh = og := by simpa using e8.symm
                          rw [← HYO.out] at hch
                          have d3 : w30.cell? ⟨bh, oh + m * 3, none⟩ = some (.int .i64 yn) := hch 0 _ rfl
                          have hbw : bh < w30.heap.size := Nat.lt_of_lt_of_le hbh H.size
                          clear hch e8
                          have hbm : bm < w30.heap.size := Item.lt (H.at 2 rfl) (k := bm) rfl
                          repeat (first | (refine wpX_skip rfl ?_; go_simp) | (refine wpX_free rfl rfl rfl (fun K hK => ?_); go_step; refine hK _ _ ?_; clear hK K) | (refine wpX_load rfl rfl rfl (by simp [Stay, OneD, NoD, *]) hs0 (by simp [*]) (fun K hK => ?_); go_step; refine hK _ _ ?_; clear hK K))
                          (refine wpX_nil ?_; try go_step)
                          try go_step
                          go_meet
                          exact ⟨true, rfl, Lib.hid ⟨(fun h => by cases h), fun h => absurd h HC9.out⟩, H⟩
                        · have q5 : decide (F ≤ xf) = false := decide_eq_false c5
                          cases hb2 with
                          | true =>
                            have HC9 := Lib.hid (show ¬ OkPg F (pg.take (m + 1 + 1)) from fun g => by have h := HSU.out.1 g; cases h.2.2)
                            skip
                            refine wp_region_xH (by kernel_rfl) (by kernel_rfl) (by kernel_rfl) (by kernel_rfl) (fun _ => False) (H) ?_
                            clear H; intro w31 H hz0 hs0
                            try clear C
                            try simp only [World.size_alloc, List.nil_append, List.cons_append, List.append_assoc] at H hz0
                            clear hz0
                            try clear w19
                            have C := H.cells
                            try simp only [cellsOf, cellsM, apartOf, apartM, and_true] at C
                            have Z := H.zs
                            try simp only [ltsOf, ltsM, and_true] at Z
                            have hz0 := Nat.le_refl w31.heap.size
                            have hch := (H.lies HPG.out).at (show m < pg.length by omega)
                            obtain ⟨bh, oh, e8, hbh, hch⟩ := hch
                            obtain ⟨rfl, rfl⟩ : bh = bg ∧ oh = og := by simpa using e8.symm
                            rw [← HYO.out] at hch
                            have d3 : w31.cell? ⟨bh, oh + m * 3, none⟩ = some (.int .i64 yn) := hch 0 _ rfl
                            have hbw : bh < w31.heap.size := Nat.lt_of_lt_of_le hbh H.size
                            clear hch e8
                            have hbm : bm < w31.heap.size := Item.lt (H.at 2 rfl) (k := bm) rfl
                            repeat (first | (refine wpX_skip rfl ?_; go_simp) | (refine wpX_free rfl rfl rfl (fun K hK => ?_); go_step; refine hK _ _ ?_; clear hK K) | (refine wpX_load rfl rfl rfl (by simp [Stay, OneD, NoD, *]) hs0 (by simp [*]) (fun K hK => ?_); go_step; refine hK _ _ ?_; clear hK K))
                            refine wpX_lookup_V (by rfl) (.tmp 113) (.tmp 115) rfl HT HK HE (fun w hS => (hS bm ⟨hbm, fun h => h⟩).trans (H.at 2 rfl)) HM.out rfl rfl (v := .bool true) (by rw [HN.out]; rfl) ?_
                            go_simp
                            repeat (first | (refine wpX_skip rfl ?_; go_simp) | (refine wpX_free rfl rfl rfl (fun K hK => ?_); go_step; refine hK _ _ ?_; clear hK K) | (refine wpX_load rfl rfl rfl (by simp [Stay, OneD, NoD, *]) hs0 (by simp [*]) (fun K hK => ?_); go_step; refine hK _ _ ?_; clear hK K))
                            (refine wpX_nil ?_; try go_step)
                            try go_step
                            go_meet
                            exact ⟨true, rfl, Lib.hid ⟨(fun h => by cases h), fun h => absurd h HC9.out⟩, H⟩
                          | false =>
                            have HC9 : Hid (OkPg F (pg.take (m + 1 + 1))) := HSU.out.2 ⟨by omega, by omega, rfl⟩
                            skip
                            refine wp_region_xH (by kernel_rfl) (by kernel_rfl) (by kernel_rfl) (by kernel_rfl) (fun _ => False) (H) ?_
                            clear H; intro w32 H hz0 hs0
                            try clear C
                            try simp only [World.size_alloc, List.nil_append, List.cons_append, List.append_assoc] at H hz0
                            clear hz0
                            try clear w19
                            have C := H.cells
                            try simp only [cellsOf, cellsM, apartOf, apartM, and_true] at C
                            have Z := H.zs
                            try simp only [ltsOf, ltsM, and_true] at Z
                            have hz0 := Nat.le_refl w32.heap.size
                            have hch := (H.lies HPG.out).at (show m < pg.length by omega)
                            obtain ⟨bh, oh, e8, hbh, hch⟩ := hch
                            obtain ⟨rfl, rfl⟩ : bh = bg ∧ oh = og := by simpa using e8.symm
                            rw [← HYO.out] at hch
                            have d3 : w32.cell? ⟨bh, oh + m * 3, none⟩ = some (.int .i64 yn) := hch 0 _ rfl
                            have hbw : bh < w32.heap.size := Nat.lt_of_lt_of_le hbh H.size
                            clear hch e8
                            have hbm : bm < w32.heap.size := Item.lt (H.at 2 rfl) (k := bm) rfl
                            repeat (first | (refine wpX_skip rfl ?_; go_simp) | (refine wpX_free rfl rfl rfl (fun K hK => ?_); go_step; refine hK _ _ ?_; clear hK K) | (refine wpX_load rfl rfl rfl (by simp [Stay, OneD, NoD, *]) hs0 (by simp [*]) (fun K hK => ?_); go_step; refine hK _ _ ?_; clear hK K))
                            refine wpX_lookup_V (by rfl) (.tmp 113) (.tmp 115) rfl HT HK HE (fun w hS => (hS bm ⟨hbm, fun h => h⟩).trans (H.at 2 rfl)) HM.out rfl rfl (v := .bool false) (by rw [HN.out]; rfl) ?_
                            go_simp
                            repeat (first | (refine wpX_skip rfl ?_; go_simp) | (refine wpX_free rfl rfl rfl (fun K hK => ?_); go_step; refine hK _ _ ?_; clear hK K) | (refine wpX_load rfl rfl rfl (by simp [Stay, OneD, NoD, *]) hs0 (by simp [*]) (fun K hK => ?_); go_step; refine hK _ _ ?_; clear hK K))
                            (refine wpX_nil ?_; try go_step)
                            try go_step
                            go_meet
                            exact ⟨false, rfl, Lib.hid ⟨fun _ => HC9.out, fun _ => rfl⟩, H⟩
            case rest =>
              clear H C
              obtain ⟨tt, rfl, HTT, H⟩ := hcut
              skip
              try clear C
              try simp only [World.size_alloc, List.nil_append, List.cons_append, List.append_assoc] at H
              have C := H.cells
              try simp only [cellsOf, cellsM, apartOf, apartM, and_true] at C
              cases tt with
              | true =>
                have HF9 := Lib.hid (HRF.out (fun g => by
                  have h1 := (g.one _ (at_mem hjp)).okPg.take (k + 1)
                  rw [HPE.out] at h1
                  have h2 := HTT.out.2 h1
                  cases h2))
                go_wp2_with fail
                go_ret
                exact ⟨by rw [HF9.out]; rfl, H.done⟩
              | false =>
              have HO2 := Lib.hid (HTT.out.1 rfl)
              have HP2 := Lib.hid (HP.out HO2.out)
              have how := HOW.out xf
              have HBX := Lib.hid (fun (g : GoodP F ps) => g.okS hjp (x := ⟨xn, xf, xs⟩) (by rw [HPE.out, HXO.out]; exact at_mem hlk))
              have HTK := Lib.hid (show pg.take (k + 1) = pg.take k ++ [⟨xn, xf, xs⟩] by rw [take_snoc hlk, HXO.out])
              skip
              cases hls : lastS (allPg (ps.take j)) xf with
              | none =>
                rw [hls] at how
                have HLO := Lib.hid (show getV xf M = none from how)
                have HKS2 : Hid (∀ x ∈ pg.take (k + 1), okS (allPg (ps.take j)) x) := by
                  show ∀ x ∈ pg.take (k + 1), okS (allPg (ps.take j)) x
                  rw [HTK.out]
                  intro x hx
                  rcases List.mem_append.1 hx with hx | hx
                  · exact HKS.out x hx
                  · rw [List.mem_singleton.1 hx]
                    intro s hs
                    dsimp only at hs
                    rw [hls] at hs; cases hs
                clear how hls
                go_upto_region 14 with (at_lookup; refine wpList_lookupOk_no rfl (.tmp 119) (.tmp 121) rfl HT HK HE (H.at 0 rfl) HMO.out rfl rfl HLO.out ?_)
                go_upto_region 16 with fail
                go_upto_region 17 with (at_mapUpdate; refine wpList_update_V rfl (.tmp 135) (.tmp 137) _ rfl HT HK H 2 rfl HM.out rfl rfl rfl (fun wz es' clock' hM' HZ => ?_); clear H C)
                simp only [List.set_cons_succ, List.set_cons_zero] at HZ
                replace hM' : MapV es' clock' (putV xf (.bool true) (boolM (pg.take k))) := hM'
                rw [HP2.out] at hM'
                go_wp2_with fail
                go_roundw
                case rel => exact ⟨k + 1, es', clock', by go_num, by omega, hM', HO2.out, HKS2, HZ.less (by repeat (first | exact .slnil | refine .cons_cons _ ?_ | refine .cons _ ?_))⟩
                case measure => simp [intOf]; omega
              | some s =>
                rw [hls] at how
                have HLO := Lib.hid (show getV xf M = some (.bool s) from how)
                by_cases hss : s = true ∧ xs = true
                · have HKS2 : Hid (∀ x ∈ pg.take (k + 1), okS (allPg (ps.take j)) x) := by
                    show ∀ x ∈ pg.take (k + 1), okS (allPg (ps.take j)) x
                    rw [HTK.out]
                    intro x hx
                    rcases List.mem_append.1 hx with hx | hx
                    · exact HKS.out x hx
                    · rw [List.mem_singleton.1 hx]
                      intro s' hs
                      dsimp only at hs
                      rw [hls] at hs
                      injection hs with hs
                      rw [← hs]; exact hss
                  clear how hls
                  obtain ⟨rfl, rfl⟩ := hss
                  skip
                  go_upto_region 14 with (at_lookup; refine wpList_lookupOk_yes rfl (.tmp 119) (.tmp 121) rfl HT HK HE (H.at 0 rfl) HMO.out rfl rfl HLO.out ?_)
                  go_upto_region 16 with fail
                  go_upto_region 17 with (at_mapUpdate; refine wpList_update_V rfl (.tmp 135) (.tmp 137) _ rfl HT HK H 2 rfl HM.out rfl rfl rfl (fun wz es' clock' hM' HZ => ?_); clear H C)
                  simp only [List.set_cons_succ, List.set_cons_zero] at HZ
                  replace hM' : MapV es' clock' (putV xf (.bool true) (boolM (pg.take k))) := hM'
                  rw [HP2.out] at hM'
                  go_wp2_with fail
                  go_roundw
                  case rel => exact ⟨k + 1, es', clock', by go_num, by omega, hM', HO2.out, HKS2, HZ.less (by repeat (first | exact .slnil | refine .cons_cons _ ?_ | refine .cons _ ?_))⟩
                  case measure => simp [intOf]; omega
                · have HF9 := Lib.hid (HRF.out (fun g => hss (HBX.out g s hls)))
                  clear how hls
                  have hor : s = false ∨ (s = true ∧ xs = false) := by cases s <;> cases xs <;> simp at hss ⊢
                  rcases hor with rfl | ⟨rfl, rfl⟩
                  · skip
                    go_upto_region 14 with (at_lookup; refine wpList_lookupOk_yes rfl (.tmp 119) (.tmp 121) rfl HT HK HE (H.at 0 rfl) HMO.out rfl rfl HLO.out ?_)
                    go_wp2_with fail
                    go_ret
                    exact ⟨by rw [HF9.out]; rfl, H.done⟩
                  · skip
                    go_upto_region 14 with (at_lookup; refine wpList_lookupOk_yes rfl (.tmp 119) (.tmp 121) rfl HT HK HE (H.at 0 rfl) HMO.out rfl rfl HLO.out ?_)
                    go_wp2_with fail
                    go_ret
                    exact ⟨by rw [HF9.out]; rfl, H.done⟩
          · have hke : k = pg.length := by omega
            subst hke
            have HG1 := Lib.hid ((good1_iff (p := ⟨pi, pt, pd, pg, td⟩) (by have := HO.out; rw [List.take_length] at this; exact this)).2 ⟨HCD.out.1, HCD.out.2.2⟩)
            have HOP2 := Lib.hid (HOK.out.2 ⟨HG1.out, fun h0 => HCD.out.2.1 h0⟩)
            have HSH2 : Hid (shrO ps (j + 1)) := (shr_succ hjp (by rw [HPE.out]; exact HG1.out.pfr) HSH.out).2 (by rw [HPE.out]; have := HKS.out; rw [List.take_length] at this; exact this)
            have HSUC := Lib.hid (show allPg (ps.take (j + 1)) = allPg (ps.take j) ++ pg by rw [allPg_succ hjp, HPE.out])
            skip
            go_wp2_with fail
            replace H := HS.less (L' := [.obj bo (.map eo co), .blk b7 #[.int .i64 pi, .bool pt, .bool pd, .slice pb pg.length pc, .slice tb td.length tc] 52]) H (by repeat (first | exact .slnil | refine .cons_cons _ ?_ | refine .cons _ ?_))
            clear C
            go_loopw [142] (fun kk wr => ∃ (k : Nat) (eo : Array MapEntry) (co : Nat) (M : List (Int × Value)), kk = .int .i64 k ∧ k ≤ pg.length ∧ Hid (MapV eo co M) ∧ Hid (OwM M (allPg (ps.take j) ++ pg.take k)) ∧ HS NoD w [.obj bo (.map eo co), .blk b7 #[.int .i64 pi, .bool pt, .bool pd, .slice pb pg.length pc, .slice tb td.length tc] 52] wr) (fun kk _ => pg.length - (intOf kk).toNat)
            case atStart => exact ⟨0, eo, co, M, rfl, Nat.zero_le _, HMO.out, (by rw [List.take_zero, List.append_nil]; exact HOW.out), H⟩
            case round =>
              clear H HMO HOW
              obtain ⟨k, eo, co, M, rfl, hk, HMO, HOW, H⟩ := hrel
              skip
              try clear C
              try simp only [World.size_alloc, List.nil_append, List.cons_append, List.append_assoc] at H
              have C := H.cells
              try simp only [cellsOf, cellsM, apartOf, apartM, and_true] at C
              by_cases hlk : k < pg.length
              · obtain ⟨bg, og, e9, hbg, hcg⟩ := (H.lies HPG.out).at hlk
                obtain rfl : pb = some ⟨bg, og, none⟩ := e9
                obtain ⟨xo, hxo⟩ : ∃ x, x = pg[k]! := ⟨_, rfl⟩
                have HTK := Lib.hid (show allPg (ps.take j) ++ pg.take (k + 1) = (allPg (ps.take j) ++ pg.take k) ++ [xo] by rw [take_snoc hlk, hxo, List.append_assoc])
                rw [← hxo] at hcg
                clear hxo
                obtain ⟨xn, xf, xs⟩ := xo
                have d0 : wr.cell? ⟨bg, og + k * 3, none⟩ = some (.int .i64 xn) := hcg 0 _ rfl
                have d1 : wr.cell? ⟨bg, og + k * 3 + 1, none⟩ = some (.int .i64 xf) := hcg 1 _ rfl
                have d2 : wr.cell? ⟨bg, og + k * 3 + 2, none⟩ = some (.bool xs) := hcg 2 _ rfl
                clear hcg
                go_upto_region 21 with fail
                clear d0 d1 d2
                generalize hwb : wr.alloc _ = w33
                replace H := HS.eqW hwb H.alloc
                try simp only [World.size_alloc, List.nil_append, List.cons_append, List.append_assoc] at H
                clear hwb
                generalize wr.heap.size = bx at H ⊢
                try clear C
                try clear wr
                have C := H.cells
                try simp only [cellsOf, cellsM, apartOf, apartM, and_true] at C
                go_upto_region 22 with (at_mapUpdate; refine wpList_update_V rfl (.tmp 146) (.tmp 148) (.tmp 150) rfl HT HK H 0 rfl HMO.out rfl rfl rfl (fun wz es' clock' hM' HZ => ?_); clear H C)
                simp only [List.set_cons_succ, List.set_cons_zero] at HZ
                replace hM' : MapV es' clock' (putV xf (.bool xs) M) := hM'
                have HOW2 : Hid (OwM (putV xf (.bool xs) M) (allPg (ps.take j) ++ pg.take (k + 1))) := by
                  show OwM _ _
                  rw [HTK.out]
                  exact HOW.out.snoc ⟨xn, xf, xs⟩
                go_wp2_with fail
                go_roundw
                case rel => exact ⟨k + 1, es', clock', _, by go_num, by omega, hM', HOW2, HZ.less (by repeat (first | exact .slnil | refine .cons_cons _ ?_ | refine .cons _ ?_))⟩
                case measure => simp [intOf]; omega
              · have hke : k = pg.length := by omega
                subst hke
                go_wp2_with fail
                go_roundw
                case rel => exact ⟨j + 1, eo, co, M, by go_num, by omega, HMO.out, (show Hid _ from by show OwM _ _; rw [HSUC.out]; have := HOW.out; rw [List.take_length] at this; exact this), HOP2.out, HSH2.out, H.less (by repeat (first | exact .slnil | refine .cons_cons _ ?_ | refine .cons _ ?_))⟩
                case measure => simp [intOf]; omega
    · have hje : j = ps.length := by rw [HPL.out]; omega
      have ho9 := HOP.out
      have hs9 := HSH.out
      rw [hje] at ho9 hs9
      rw [List.take_length] at ho9
      have HGI := Lib.hid (goodP_all ho9 hs9)
      clear hje ho9 hs9
      by_cases h8 : qs.length ≤ 8
      · have HF9 := Lib.hid (HRT.out (HGI.out.2 (by rw [HPL.out]; exact h8)))
        skip
        go_wp2_with fail
        go_ret
        exact ⟨by rw [HF9.out]; simp; omega, H.done⟩
      · have HF9 := Lib.hid (HRF.out (fun g => h8 (by have := HGI.out.1 g; rw [HPL.out] at this; exact this)))
        skip
        go_wp2_with fail
        go_ret
        exact ⟨by rw [HF9.out]; simp; omega, H.done⟩
end Go.Proofs.YtedbpmckgiifpaaGreat
