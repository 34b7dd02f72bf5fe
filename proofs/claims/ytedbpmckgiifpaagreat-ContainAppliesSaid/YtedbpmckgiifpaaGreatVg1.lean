/- Package owner: valid, whatever the program. -/
import Derived.Test.YtedbpmckgiifpaaGreatVld1
namespace Go.Proofs.YtedbpmckgiifpaaGreat
set_option linter.unusedSimpArgs false
set_option linter.unusedVariables false
open Go.RowKit
set_option maxRecDepth 100000
attribute [local go_sem] lt_more ne_more ne_more'
attribute [local go_sem] run_mkMapV
attribute [local irreducible] wpX wpF Calls

noncomputable def g1B (F : Int) (p : Pr) : Bool := @decide (Good1 F p) (Classical.propDecidable _)
theorem g1B_t {F : Int} {p : Pr} (h : Good1 F p) : g1B F p = true := @decide_eq_true _ (Classical.propDecidable _) h
theorem g1B_f {F : Int} {p : Pr} (h : ¬ Good1 F p) : g1B F p = false := @decide_eq_false _ (Classical.propDecidable _) h
theorem g1B_iff {F : Int} {p : Pr} : g1B F p = true ↔ Good1 F p := @decide_eq_true_iff _ (Classical.propDecidable _)
theorem boolM_get (f : Int) : ∀ l : List Pg, getV f (boolM l) = if l.any (fun y => decide (y.f = f)) = true then some (.bool true) else none
  | [] => rfl
  | x :: l => by
    unfold boolM
    rw [List.map_cons, getV]
    by_cases e : f = x.f
    · rw [if_pos e, List.any_cons, if_pos (by rw [decide_eq_true e.symm]; rfl)]
    · rw [if_neg e, List.any_cons]
      have := boolM_get f l
      unfold boolM at this
      rw [this]
      have e2 : decide (x.f = f) = false := decide_eq_false (fun h => e h.symm)
      rw [e2, Bool.false_or]
theorem boolM_put {pg : List Pg} {k : Nat} (hk : k < pg.length) (h : (pg.take k).any (fun y => decide (y.f = (pg[k]!).f)) = false) : putV (pg[k]!).f (.bool true) (boolM (pg.take k)) = boolM (pg.take (k + 1)) := by
  obtain ⟨a, b⟩ := getV_none (x := (pg[k]!).f) (M := boolM (pg.take k)) (fun p hp => by
    obtain ⟨x, hx, rfl⟩ := List.mem_map.1 hp
    intro e
    exact List.any_eq_false.1 h x hx (decide_eq_true e))
  rw [b, take_snoc hk]
  unfold boolM
  rw [List.map_append]
  rfl
set_option maxHeartbeats 16000000 in
theorem ovalid1_gen {F : Int} {q : Pv} (hx : q.p.pages.length ≤ 1000 ∧ q.p.told.length ≤ 1000) (w : World) (hl : PvAt w w.heap.size q) :
    Calls Tryz.prog 64 #[vPr q, .int .i64 F] w (Gives (.bool (g1B F q.p)) w) := by
  have HT : Tryz.prog.underlying 102 = some (.map 3 4) := by kernel_rfl
  have HK : Tryz.prog.underlying 3 = some (.int .i64) := by kernel_rfl
  have HE : ∀ w, (zeroValue 4).run Tryz.prog w = .ok (.bool false) w := fun w => by rfl
  obtain ⟨⟨pi, pt, pd, pg, td⟩, pa, ta⟩ := q
  obtain ⟨⟨pb, pc, e1, hpc, hpl⟩, ⟨tb, tc, e2, htc, -⟩⟩ := hl
  have f1 : pa = .slice pb pg.length pc := e1
  have f2 : ta = .slice tb td.length tc := e2
  clear e1 e2
  subst f1 f2
  have hp1000 : pg.length ≤ 1000 := hx.1
  have ht1000 : td.length ≤ 1000 := hx.2
  have HL : Hid (Lies w w.heap.size pb 3 pg.length (fun j => pgC pg[j]!)) := hpl
  dsimp only
  obtain ⟨R, hR⟩ : ∃ R, R = g1B F ⟨pi, pt, pd, pg, td⟩ := ⟨_, rfl⟩
  have HRT := Lib.hid (fun h => hR.trans (g1B_t (F := F) (p := ⟨pi, pt, pd, pg, td⟩) h))
  have HRF := Lib.hid (fun h => hR.trans (g1B_f (F := F) (p := ⟨pi, pt, pd, pg, td⟩) h))
  rw [← hR]
  clear hR
  show Calls Tryz.prog 64 #[.agg #[.int .i64 pi, .bool pt, .bool pd, .slice pb pg.length pc, .slice tb td.length tc], .int .i64 F] w _
  clear hpl hx hpc htc
  go_enter Tryz.func64, Tryz.ntmps64
  have H := HS.start NoD w
  go_upto_region 2 with fail
  generalize hwb : (w.alloc _).alloc _ = wm
  replace H := HS.eqW hwb H.alloc.allocObj
  try simp only [World.size_alloc, List.nil_append, List.cons_append, List.append_assoc] at H
  clear hwb
  generalize w.heap.size + 1 = bm at H ⊢
  generalize w.heap.size = bX at H ⊢
  skip
  try clear C
  try simp only [World.size_alloc, List.nil_append, List.cons_append, List.append_assoc] at H
  have C := H.cells
  try simp only [cellsOf, cellsM, apartOf, apartM, and_true] at C
  go_wp2_with fail
  go_loopw [12] (fun kk wr => ∃ (k : Nat) (es : Array MapEntry) (clock : Nat), kk = .int .i64 k ∧ k ≤ pg.length ∧ Hid (MapV es clock (boolM (pg.take k))) ∧ Hid (OkPg F (pg.take k)) ∧ HS NoD w [.blk bX #[.int .i64 pi, .bool pt, .bool pd, .slice pb pg.length pc, .slice tb td.length tc] 52, .obj bm (.map es clock)] wr) (fun kk _ => pg.length - (intOf kk).toNat)
  case atStart => exact ⟨0, #[], 0, rfl, Nat.zero_le _, MapV.nil, OkPg.nil F, H⟩
  case round =>
    clear H C
    obtain ⟨k, es, clock, rfl, hk, HM, HO, H⟩ := hrel
    skip
    try clear C
    try simp only [World.size_alloc, List.nil_append, List.cons_append, List.append_assoc] at H
    have C := H.cells
    try simp only [cellsOf, cellsM, apartOf, apartM, and_true] at C
    by_cases hlk : k < pg.length
    · obtain ⟨bg, og, e9, hbg, hcg⟩ := (H.lies HL.out).at hlk
      obtain rfl : pb = some ⟨bg, og, none⟩ := e9
      have hs := okPg_succ hlk HO.out
      obtain ⟨hb, hhb⟩ : ∃ b, b = (pg.take k).any (fun y => decide (y.f = (pg[k]!).f)) := ⟨_, rfl⟩
      have hn := boolM_get (pg[k]!).f (pg.take k)
      have hp := fun h => boolM_put hlk h
      rw [← hhb] at hs hn hp
      clear hhb
      obtain ⟨xo, hxo⟩ : ∃ x, x = pg[k]! := ⟨_, rfl⟩
      rw [← hxo] at hcg hs hn hp
      clear hxo
      obtain ⟨xn, xf, xs⟩ := xo
      dsimp only at hs hn hp
      have HN : Hid (getV xf (boolM (pg.take k)) = if hb = true then some (.bool true) else none) := hn
      have HP := Lib.hid hp
      clear hn hp
      have d0 : wr.cell? ⟨bg, og + k * 3, none⟩ = some (.int .i64 xn) := hcg 0 _ rfl
      have d1 : wr.cell? ⟨bg, og + k * 3 + 1, none⟩ = some (.int .i64 xf) := hcg 1 _ rfl
      have d2 : wr.cell? ⟨bg, og + k * 3 + 2, none⟩ = some (.bool xs) := hcg 2 _ rfl
      clear hcg
      cases k with
      | zero =>
        have HSU : Hid (OkPg F (pg.take 1) ↔ (0 ≤ xn ∧ xn ≤ 999 ∧ 0 ≤ xf ∧ xf < F) ∧ hb = false) := Lib.hid (hs.trans ⟨fun h => h.2, fun h => ⟨fun h0 => absurd h0 (Nat.lt_irrefl 0), h⟩⟩)
        clear hs
        replace d0 : wr.cell? ⟨bg, og, none⟩ = some (.int .i64 xn) := by simpa using d0
        replace d1 : wr.cell? ⟨bg, og + 1, none⟩ = some (.int .i64 xf) := by simpa using d1
        replace d2 : wr.cell? ⟨bg, og + 2, none⟩ = some (.bool xs) := by simpa using d2
        by_cases c2 : xn < 0
        · have q2 : decide (xn < 0) = true := decide_eq_true c2
          have HF9 := Lib.hid (HRF.out (fun g => by have h := HSU.out.1 (g.okPg.take _); have h2 := h.1; omega))
          skip
          go_upto_region 5 with fail
          clear d0 d1 d2
          generalize hwb : wr.alloc _ = w1
          replace H := HS.eqW hwb H.alloc
          try simp only [World.size_alloc, List.nil_append, List.cons_append, List.append_assoc] at H
          clear hwb
          generalize wr.heap.size = b7 at H ⊢
          try clear C
          try clear wr
          have C := H.cells
          try simp only [cellsOf, cellsM, apartOf, apartM, and_true] at C
          refine wp_region_xH (by kernel_rfl) (by kernel_rfl) (by kernel_rfl) (by kernel_rfl) (fun _ => False) (H) ?_
          clear H; intro w2 H hz0 hs0
          try clear C
          try simp only [World.size_alloc, List.nil_append, List.cons_append, List.append_assoc] at H hz0
          clear hz0
          try clear w1
          have C := H.cells
          try simp only [cellsOf, cellsM, apartOf, apartM, and_true] at C
          have Z := H.zs
          try simp only [ltsOf, ltsM, and_true] at Z
          have hz0 := Nat.le_refl w2.heap.size
          have hbm : bm < w2.heap.size := Item.lt (H.at 1 rfl) (k := bm) rfl
          repeat (first | (refine wpX_skip rfl ?_; go_simp) | (refine wpX_free rfl rfl rfl (fun K hK => ?_); go_step; refine hK _ _ ?_; clear hK K) | (refine wpX_load rfl rfl rfl (by simp [Stay, OneD, NoD, *]) hs0 (by simp [*]) (fun K hK => ?_); go_step; refine hK _ _ ?_; clear hK K))
          (refine wpX_nil ?_; go_step)
          go_wp2_with fail
          go_ret
          exact ⟨by rw [HF9.out]; rfl, H.done⟩
        · have q2 : decide (xn < 0) = false := decide_eq_false c2
          by_cases c3 : 999 < xn
          · have q3 : decide (999 < xn) = true := decide_eq_true c3
            have HF9 := Lib.hid (HRF.out (fun g => by have h := HSU.out.1 (g.okPg.take _); have h2 := h.1; omega))
            skip
            go_upto_region 5 with fail
            clear d0 d1 d2
            generalize hwb : wr.alloc _ = w3
            replace H := HS.eqW hwb H.alloc
            try simp only [World.size_alloc, List.nil_append, List.cons_append, List.append_assoc] at H
            clear hwb
            generalize wr.heap.size = b7 at H ⊢
            try clear C
            try clear wr
            have C := H.cells
            try simp only [cellsOf, cellsM, apartOf, apartM, and_true] at C
            refine wp_region_xH (by kernel_rfl) (by kernel_rfl) (by kernel_rfl) (by kernel_rfl) (fun _ => False) (H) ?_
            clear H; intro w4 H hz0 hs0
            try clear C
            try simp only [World.size_alloc, List.nil_append, List.cons_append, List.append_assoc] at H hz0
            clear hz0
            try clear w3
            have C := H.cells
            try simp only [cellsOf, cellsM, apartOf, apartM, and_true] at C
            have Z := H.zs
            try simp only [ltsOf, ltsM, and_true] at Z
            have hz0 := Nat.le_refl w4.heap.size
            have hbm : bm < w4.heap.size := Item.lt (H.at 1 rfl) (k := bm) rfl
            repeat (first | (refine wpX_skip rfl ?_; go_simp) | (refine wpX_free rfl rfl rfl (fun K hK => ?_); go_step; refine hK _ _ ?_; clear hK K) | (refine wpX_load rfl rfl rfl (by simp [Stay, OneD, NoD, *]) hs0 (by simp [*]) (fun K hK => ?_); go_step; refine hK _ _ ?_; clear hK K))
            (refine wpX_nil ?_; go_step)
            go_wp2_with fail
            go_ret
            exact ⟨by rw [HF9.out]; rfl, H.done⟩
          · have q3 : decide (999 < xn) = false := decide_eq_false c3
            by_cases c4 : xf < 0
            · have q4 : decide (xf < 0) = true := decide_eq_true c4
              have HF9 := Lib.hid (HRF.out (fun g => by have h := HSU.out.1 (g.okPg.take _); have h2 := h.1; omega))
              skip
              go_upto_region 5 with fail
              clear d0 d1 d2
              generalize hwb : wr.alloc _ = w5
              replace H := HS.eqW hwb H.alloc
              try simp only [World.size_alloc, List.nil_append, List.cons_append, List.append_assoc] at H
              clear hwb
              generalize wr.heap.size = b7 at H ⊢
              try clear C
              try clear wr
              have C := H.cells
              try simp only [cellsOf, cellsM, apartOf, apartM, and_true] at C
              refine wp_region_xH (by kernel_rfl) (by kernel_rfl) (by kernel_rfl) (by kernel_rfl) (fun _ => False) (H) ?_
              clear H; intro w6 H hz0 hs0
              try clear C
              try simp only [World.size_alloc, List.nil_append, List.cons_append, List.append_assoc] at H hz0
              clear hz0
              try clear w5
              have C := H.cells
              try simp only [cellsOf, cellsM, apartOf, apartM, and_true] at C
              have Z := H.zs
              try simp only [ltsOf, ltsM, and_true] at Z
              have hz0 := Nat.le_refl w6.heap.size
              have hbm : bm < w6.heap.size := Item.lt (H.at 1 rfl) (k := bm) rfl
              repeat (first | (refine wpX_skip rfl ?_; go_simp) | (refine wpX_free rfl rfl rfl (fun K hK => ?_); go_step; refine hK _ _ ?_; clear hK K) | (refine wpX_load rfl rfl rfl (by simp [Stay, OneD, NoD, *]) hs0 (by simp [*]) (fun K hK => ?_); go_step; refine hK _ _ ?_; clear hK K))
              (refine wpX_nil ?_; go_step)
              go_wp2_with fail
              go_ret
              exact ⟨by rw [HF9.out]; rfl, H.done⟩
            · have q4 : decide (xf < 0) = false := decide_eq_false c4
              by_cases c5 : F ≤ xf
              · have q5 : decide (F ≤ xf) = true := decide_eq_true c5
                have HF9 := Lib.hid (HRF.out (fun g => by have h := HSU.out.1 (g.okPg.take _); have h2 := h.1; omega))
                skip
                go_upto_region 5 with fail
                clear d0 d1 d2
                generalize hwb : wr.alloc _ = w7
                replace H := HS.eqW hwb H.alloc
                try simp only [World.size_alloc, List.nil_append, List.cons_append, List.append_assoc] at H
                clear hwb
                generalize wr.heap.size = b7 at H ⊢
                try clear C
                try clear wr
                have C := H.cells
                try simp only [cellsOf, cellsM, apartOf, apartM, and_true] at C
                refine wp_region_xH (by kernel_rfl) (by kernel_rfl) (by kernel_rfl) (by kernel_rfl) (fun _ => False) (H) ?_
                clear H; intro w8 H hz0 hs0
                try clear C
                try simp only [World.size_alloc, List.nil_append, List.cons_append, List.append_assoc] at H hz0
                clear hz0
                try clear w7
                have C := H.cells
                try simp only [cellsOf, cellsM, apartOf, apartM, and_true] at C
                have Z := H.zs
                try simp only [ltsOf, ltsM, and_true] at Z
                have hz0 := Nat.le_refl w8.heap.size
                have hbm : bm < w8.heap.size := Item.lt (H.at 1 rfl) (k := bm) rfl
                repeat (first | (refine wpX_skip rfl ?_; go_simp) | (refine wpX_free rfl rfl rfl (fun K hK => ?_); go_step; refine hK _ _ ?_; clear hK K) | (refine wpX_load rfl rfl rfl (by simp [Stay, OneD, NoD, *]) hs0 (by simp [*]) (fun K hK => ?_); go_step; refine hK _ _ ?_; clear hK K))
                (refine wpX_nil ?_; go_step)
                go_wp2_with fail
                go_ret
                exact ⟨by rw [HF9.out]; rfl, H.done⟩
              · have q5 : decide (F ≤ xf) = false := decide_eq_false c5
                cases hb with
                | true =>
                  have HF9 := Lib.hid (HRF.out (fun g => by have h := HSU.out.1 (g.okPg.take _); cases h.2))
                  skip
                  go_upto_region 5 with fail
                  clear d0 d1 d2
                  generalize hwb : wr.alloc _ = w9
                  replace H := HS.eqW hwb H.alloc
                  try simp only [World.size_alloc, List.nil_append, List.cons_append, List.append_assoc] at H
                  clear hwb
                  generalize wr.heap.size = b7 at H ⊢
                  try clear C
                  try clear wr
                  have C := H.cells
                  try simp only [cellsOf, cellsM, apartOf, apartM, and_true] at C
                  refine wp_region_xH (by kernel_rfl) (by kernel_rfl) (by kernel_rfl) (by kernel_rfl) (fun _ => False) (H) ?_
                  clear H; intro w10 H hz0 hs0
                  try clear C
                  try simp only [World.size_alloc, List.nil_append, List.cons_append, List.append_assoc] at H hz0
                  clear hz0
                  try clear w9
                  have C := H.cells
                  try simp only [cellsOf, cellsM, apartOf, apartM, and_true] at C
                  have Z := H.zs
                  try simp only [ltsOf, ltsM, and_true] at Z
                  have hz0 := Nat.le_refl w10.heap.size
                  have hbm : bm < w10.heap.size := Item.lt (H.at 1 rfl) (k := bm) rfl
                  repeat (first | (refine wpX_skip rfl ?_; go_simp) | (refine wpX_free rfl rfl rfl (fun K hK => ?_); go_step; refine hK _ _ ?_; clear hK K) | (refine wpX_load rfl rfl rfl (by simp [Stay, OneD, NoD, *]) hs0 (by simp [*]) (fun K hK => ?_); go_step; refine hK _ _ ?_; clear hK K))
                  refine wpX_lookup_V (by rfl) (.tmp 53) (.tmp 55) rfl HT HK HE (fun w hS => (hS bm ⟨hbm, fun h => h⟩).trans (H.at 1 rfl)) HM.out rfl rfl (v := .bool true) (by rw [HN.out]; rfl) ?_
                  go_simp
                  repeat (first | (refine wpX_skip rfl ?_; go_simp) | (refine wpX_free rfl rfl rfl (fun K hK => ?_); go_step; refine hK _ _ ?_; clear hK K) | (refine wpX_load rfl rfl rfl (by simp [Stay, OneD, NoD, *]) hs0 (by simp [*]) (fun K hK => ?_); go_step; refine hK _ _ ?_; clear hK K))
                  (refine wpX_nil ?_; go_step)
                  go_wp2_with fail
                  go_ret
                  exact ⟨by rw [HF9.out]; rfl, H.done⟩
                | false =>
                  have HO9 : Hid (OkPg F (pg.take 1)) := HSU.out.2 ⟨by omega, rfl⟩
                  have HP9 := Lib.hid (HP.out rfl)
                  skip
                  go_upto_region 5 with fail
                  clear d0 d1 d2
                  generalize hwb : wr.alloc _ = w11
                  replace H := HS.eqW hwb H.alloc
                  try simp only [World.size_alloc, List.nil_append, List.cons_append, List.append_assoc] at H
                  clear hwb
                  generalize wr.heap.size = b7 at H ⊢
                  try clear C
                  try clear wr
                  have C := H.cells
                  try simp only [cellsOf, cellsM, apartOf, apartM, and_true] at C
                  refine wp_region_xH (by kernel_rfl) (by kernel_rfl) (by kernel_rfl) (by kernel_rfl) (fun _ => False) (H) ?_
                  clear H; intro w12 H hz0 hs0
                  try clear C
                  try simp only [World.size_alloc, List.nil_append, List.cons_append, List.append_assoc] at H hz0
                  clear hz0
                  try clear w11
                  have C := H.cells
                  try simp only [cellsOf, cellsM, apartOf, apartM, and_true] at C
                  have Z := H.zs
                  try simp only [ltsOf, ltsM, and_true] at Z
                  have hz0 := Nat.le_refl w12.heap.size
                  have hbm : bm < w12.heap.size := Item.lt (H.at 1 rfl) (k := bm) rfl
                  repeat (first | (refine wpX_skip rfl ?_; go_simp) | (refine wpX_free rfl rfl rfl (fun K hK => ?_); go_step; refine hK _ _ ?_; clear hK K) | (refine wpX_load rfl rfl rfl (by simp [Stay, OneD, NoD, *]) hs0 (by simp [*]) (fun K hK => ?_); go_step; refine hK _ _ ?_; clear hK K))
                  refine wpX_lookup_V (by rfl) (.tmp 53) (.tmp 55) rfl HT HK HE (fun w hS => (hS bm ⟨hbm, fun h => h⟩).trans (H.at 1 rfl)) HM.out rfl rfl (v := .bool false) (by rw [HN.out]; rfl) ?_
                  go_simp
                  repeat (first | (refine wpX_skip rfl ?_; go_simp) | (refine wpX_free rfl rfl rfl (fun K hK => ?_); go_step; refine hK _ _ ?_; clear hK K) | (refine wpX_load rfl rfl rfl (by simp [Stay, OneD, NoD, *]) hs0 (by simp [*]) (fun K hK => ?_); go_step; refine hK _ _ ?_; clear hK K))
                  (refine wpX_nil ?_; go_step)
                  go_upto_region 8 with (at_mapUpdate; refine wpList_update_V rfl (.tmp 58) (.tmp 60) _ rfl HT HK H 1 rfl HM.out rfl rfl rfl (fun wz es' clock' hM' HZ => ?_); clear H C)
                  simp only [List.set_cons_succ, List.set_cons_zero] at HZ
                  replace hM' : MapV es' clock' (putV xf (.bool true) (boolM (pg.take 0))) := hM'
                  rw [HP9.out] at hM'
                  go_wp2_with fail
                  go_roundw
                  case rel => exact ⟨1, es', clock', by go_num, by omega, hM', HO9, HZ.less (by repeat (first | exact .slnil | refine .cons_cons _ ?_ | refine .cons _ ?_))⟩
                  case measure => simp [intOf]; omega
      | succ m =>
        obtain ⟨yo, hyo⟩ : ∃ y, y = pg[m]! := ⟨_, rfl⟩
        have HYO := Lib.hid hyo
        rw [Nat.add_sub_cancel, ← hyo] at hs
        clear hyo
        obtain ⟨yn, yf, ys⟩ := yo
        dsimp only at hs
        have HSU : Hid (OkPg F (pg.take (m + 2)) ↔ yn < xn ∧ (0 ≤ xn ∧ xn ≤ 999 ∧ 0 ≤ xf ∧ xf < F) ∧ hb = false) := Lib.hid (hs.trans ⟨fun h => ⟨h.1 (Nat.succ_pos m), h.2⟩, fun h => ⟨fun _ => h.1, h.2⟩⟩)
        clear hs
        by_cases c1 : xn ≤ yn
        · have q1 : decide (xn ≤ yn) = true := decide_eq_true c1
          have HF9 := Lib.hid (HRF.out (fun g => by have h := HSU.out.1 (g.okPg.take _); exact absurd h.1 (by omega)))
          skip
          go_upto_region 5 with fail
          clear d0 d1 d2
          generalize hwb : wr.alloc _ = w13
          replace H := HS.eqW hwb H.alloc
          try simp only [World.size_alloc, List.nil_append, List.cons_append, List.append_assoc] at H
          clear hwb
          generalize wr.heap.size = b7 at H ⊢
          try clear C
          try clear wr
          have C := H.cells
          try simp only [cellsOf, cellsM, apartOf, apartM, and_true] at C
          refine wp_region_xH (by kernel_rfl) (by kernel_rfl) (by kernel_rfl) (by kernel_rfl) (fun _ => False) (H) ?_
          clear H; intro w14 H hz0 hs0
          try clear C
          try simp only [World.size_alloc, List.nil_append, List.cons_append, List.append_assoc] at H hz0
          clear hz0
          try clear w13
          have C := H.cells
          try simp only [cellsOf, cellsM, apartOf, apartM, and_true] at C
          have Z := H.zs
          try simp only [ltsOf, ltsM, and_true] at Z
          have hz0 := Nat.le_refl w14.heap.size
          have hch := (H.lies HL.out).at (show m < pg.length by omega)
          obtain ⟨bh, oh, e8, hbh, hch⟩ := hch
          obtain ⟨rfl, rfl⟩ : bh = bg ∧ oh = og := by simpa using e8.symm
          rw [← HYO.out] at hch
          have d3 : w14.cell? ⟨bh, oh + m * 3, none⟩ = some (.int .i64 yn) := hch 0 _ rfl
          have hbw : bh < w14.heap.size := Nat.lt_of_lt_of_le hbh H.size
          clear hch e8
          have hbm : bm < w14.heap.size := Item.lt (H.at 1 rfl) (k := bm) rfl
          repeat (first | (refine wpX_skip rfl ?_; go_simp) | (refine wpX_free rfl rfl rfl (fun K hK => ?_); go_step; refine hK _ _ ?_; clear hK K) | (refine wpX_load rfl rfl rfl (by simp [Stay, OneD, NoD, *]) hs0 (by simp [*]) (fun K hK => ?_); go_step; refine hK _ _ ?_; clear hK K))
          (refine wpX_nil ?_; go_step)
          go_wp2_with fail
          go_ret
          exact ⟨by rw [HF9.out]; rfl, H.done⟩
        · have q1 : decide (xn ≤ yn) = false := decide_eq_false c1
          by_cases c2 : xn < 0
          · have q2 : decide (xn < 0) = true := decide_eq_true c2
            have HF9 := Lib.hid (HRF.out (fun g => by have h := HSU.out.1 (g.okPg.take _); have h2 := h.2.1; omega))
            skip
            go_upto_region 5 with fail
            clear d0 d1 d2
            generalize hwb : wr.alloc _ = w15
            replace H := HS.eqW hwb H.alloc
            try simp only [World.size_alloc, List.nil_append, List.cons_append, List.append_assoc] at H
            clear hwb
            generalize wr.heap.size = b7 at H ⊢
            try clear C
            try clear wr
            have C := H.cells
            try simp only [cellsOf, cellsM, apartOf, apartM, and_true] at C
            refine wp_region_xH (by kernel_rfl) (by kernel_rfl) (by kernel_rfl) (by kernel_rfl) (fun _ => False) (H) ?_
            clear H; intro w16 H hz0 hs0
            try clear C
            try simp only [World.size_alloc, List.nil_append, List.cons_append, List.append_assoc] at H hz0
            clear hz0
            try clear w15
            have C := H.cells
            try simp only [cellsOf, cellsM, apartOf, apartM, and_true] at C
            have Z := H.zs
            try simp only [ltsOf, ltsM, and_true] at Z
            have hz0 := Nat.le_refl w16.heap.size
            have hch := (H.lies HL.out).at (show m < pg.length by omega)
            obtain ⟨bh, oh, e8, hbh, hch⟩ := hch
            obtain ⟨rfl, rfl⟩ : bh = bg ∧ oh = og := by simpa using e8.symm
            rw [← HYO.out] at hch
            have d3 : w16.cell? ⟨bh, oh + m * 3, none⟩ = some (.int .i64 yn) := hch 0 _ rfl
            have hbw : bh < w16.heap.size := Nat.lt_of_lt_of_le hbh H.size
            clear hch e8
            have hbm : bm < w16.heap.size := Item.lt (H.at 1 rfl) (k := bm) rfl
            repeat (first | (refine wpX_skip rfl ?_; go_simp) | (refine wpX_free rfl rfl rfl (fun K hK => ?_); go_step; refine hK _ _ ?_; clear hK K) | (refine wpX_load rfl rfl rfl (by simp [Stay, OneD, NoD, *]) hs0 (by simp [*]) (fun K hK => ?_); go_step; refine hK _ _ ?_; clear hK K))
            (refine wpX_nil ?_; go_step)
            go_wp2_with fail
            go_ret
            exact ⟨by rw [HF9.out]; rfl, H.done⟩
          · have q2 : decide (xn < 0) = false := decide_eq_false c2
            by_cases c3 : 999 < xn
            · have q3 : decide (999 < xn) = true := decide_eq_true c3
              have HF9 := Lib.hid (HRF.out (fun g => by have h := HSU.out.1 (g.okPg.take _); have h2 := h.2.1; omega))
              skip
              go_upto_region 5 with fail
              clear d0 d1 d2
              generalize hwb : wr.alloc _ = w17
              replace H := HS.eqW hwb H.alloc
              try simp only [World.size_alloc, List.nil_append, List.cons_append, List.append_assoc] at H
              clear hwb
              generalize wr.heap.size = b7 at H ⊢
              try clear C
              try clear wr
              have C := H.cells
              try simp only [cellsOf, cellsM, apartOf, apartM, and_true] at C
              refine wp_region_xH (by kernel_rfl) (by kernel_rfl) (by kernel_rfl) (by kernel_rfl) (fun _ => False) (H) ?_
              clear H; intro w18 H hz0 hs0
              try clear C
              try simp only [World.size_alloc, List.nil_append, List.cons_append, List.append_assoc] at H hz0
              clear hz0
              try clear w17
              have C := H.cells
              try simp only [cellsOf, cellsM, apartOf, apartM, and_true] at C
              have Z := H.zs
              try simp only [ltsOf, ltsM, and_true] at Z
              have hz0 := Nat.le_refl w18.heap.size
              have hch := (H.lies HL.out).at (show m < pg.length by omega)
              obtain ⟨bh, oh, e8, hbh, hch⟩ := hch
              obtain ⟨rfl, rfl⟩ : bh = bg ∧ oh = og := by simpa using e8.symm
              rw [← HYO.out] at hch
              have d3 : w18.cell? ⟨bh, oh + m * 3, none⟩ = some (.int .i64 yn) := hch 0 _ rfl
              have hbw : bh < w18.heap.size := Nat.lt_of_lt_of_le hbh H.size
              clear hch e8
              have hbm : bm < w18.heap.size := Item.lt (H.at 1 rfl) (k := bm) rfl
              repeat (first | (refine wpX_skip rfl ?_; go_simp) | (refine wpX_free rfl rfl rfl (fun K hK => ?_); go_step; refine hK _ _ ?_; clear hK K) | (refine wpX_load rfl rfl rfl (by simp [Stay, OneD, NoD, *]) hs0 (by simp [*]) (fun K hK => ?_); go_step; refine hK _ _ ?_; clear hK K))
              (refine wpX_nil ?_; go_step)
              go_wp2_with fail
              go_ret
              exact ⟨by rw [HF9.out]; rfl, H.done⟩
            · have q3 : decide (999 < xn) = false := decide_eq_false c3
              by_cases c4 : xf < 0
              · have q4 : decide (xf < 0) = true := decide_eq_true c4
                have HF9 := Lib.hid (HRF.out (fun g => by have h := HSU.out.1 (g.okPg.take _); have h2 := h.2.1; omega))
                skip
                go_upto_region 5 with fail
                clear d0 d1 d2
                generalize hwb : wr.alloc _ = w19
                replace H := HS.eqW hwb H.alloc
                try simp only [World.size_alloc, List.nil_append, List.cons_append, List.append_assoc] at H
                clear hwb
                generalize wr.heap.size = b7 at H ⊢
                try clear C
                try clear wr
                have C := H.cells
                try simp only [cellsOf, cellsM, apartOf, apartM, and_true] at C
                refine wp_region_xH (by kernel_rfl) (by kernel_rfl) (by kernel_rfl) (by kernel_rfl) (fun _ => False) (H) ?_
                clear H; intro w20 H hz0 hs0
                try clear C
                try simp only [World.size_alloc, List.nil_append, List.cons_append, List.append_assoc] at H hz0
                clear hz0
                try clear w19
                have C := H.cells
                try simp only [cellsOf, cellsM, apartOf, apartM, and_true] at C
                have Z := H.zs
                try simp only [ltsOf, ltsM, and_true] at Z
                have hz0 := Nat.le_refl w20.heap.size
                have hch := (H.lies HL.out).at (show m < pg.length by omega)
                obtain ⟨bh, oh, e8, hbh, hch⟩ := hch
                obtain ⟨rfl, rfl⟩ : bh = bg ∧ oh = og := by simpa using e8.symm
                rw [← HYO.out] at hch
                have d3 : w20.cell? ⟨bh, oh + m * 3, none⟩ = some (.int .i64 yn) := hch 0 _ rfl
                have hbw : bh < w20.heap.size := Nat.lt_of_lt_of_le hbh H.size
                clear hch e8
                have hbm : bm < w20.heap.size := Item.lt (H.at 1 rfl) (k := bm) rfl
                repeat (first | (refine wpX_skip rfl ?_; go_simp) | (refine wpX_free rfl rfl rfl (fun K hK => ?_); go_step; refine hK _ _ ?_; clear hK K) | (refine wpX_load rfl rfl rfl (by simp [Stay, OneD, NoD, *]) hs0 (by simp [*]) (fun K hK => ?_); go_step; refine hK _ _ ?_; clear hK K))
                (refine wpX_nil ?_; go_step)
                go_wp2_with fail
                go_ret
                exact ⟨by rw [HF9.out]; rfl, H.done⟩
              · have q4 : decide (xf < 0) = false := decide_eq_false c4
                by_cases c5 : F ≤ xf
                · have q5 : decide (F ≤ xf) = true := decide_eq_true c5
                  have HF9 := Lib.hid (HRF.out (fun g => by have h := HSU.out.1 (g.okPg.take _); have h2 := h.2.1; omega))
                  skip
                  go_upto_region 5 with fail
                  clear d0 d1 d2
                  generalize hwb : wr.alloc _ = w21
                  replace H := HS.eqW hwb H.alloc
                  try simp only [World.size_alloc, List.nil_append, List.cons_append, List.append_assoc] at H
                  clear hwb
                  generalize wr.heap.size = b7 at H ⊢
                  try clear C
                  try clear wr
                  have C := H.cells
                  try simp only [cellsOf, cellsM, apartOf, apartM, and_true] at C
                  refine wp_region_xH (by kernel_rfl) (by kernel_rfl) (by kernel_rfl) (by kernel_rfl) (fun _ => False) (H) ?_
                  clear H; intro w22 H hz0 hs0
                  try clear C
                  try simp only [World.size_alloc, List.nil_append, List.cons_append, List.append_assoc] at H hz0
                  clear hz0
                  try clear w21
                  have C := H.cells
                  try simp only [cellsOf, cellsM, apartOf, apartM, and_true] at C
                  have Z := H.zs
                  try simp only [ltsOf, ltsM, and_true] at Z
                  have hz0 := Nat.le_refl w22.heap.size
                  have hch := (H.lies HL.out).at (show m < pg.length by omega)
                  obtain ⟨bh, oh, e8, hbh, hch⟩ := hch
                  obtain ⟨rfl, rfl⟩ : bh = bg ∧ oh = og := by simpa using e8.symm
                  rw [← HYO.out] at hch
                  have d3 : w22.cell? ⟨bh, oh + m * 3, none⟩ = some (.int .i64 yn) := hch 0 _ rfl
                  have hbw : bh < w22.heap.size := Nat.lt_of_lt_of_le hbh H.size
                  clear hch e8
                  have hbm : bm < w22.heap.size := Item.lt (H.at 1 rfl) (k := bm) rfl
                  repeat (first | (refine wpX_skip rfl ?_; go_simp) | (refine wpX_free rfl rfl rfl (fun K hK => ?_); go_step; refine hK _ _ ?_; clear hK K) | (refine wpX_load rfl rfl rfl (by simp [Stay, OneD, NoD, *]) hs0 (by simp [*]) (fun K hK => ?_); go_step; refine hK _ _ ?_; clear hK K))
                  (refine wpX_nil ?_; go_step)
                  go_wp2_with fail
                  go_ret
                  exact ⟨by rw [HF9.out]; rfl, H.done⟩
                · have q5 : decide (F ≤ xf) = false := decide_eq_false c5
                  cases hb with
                  | true =>
                    have HF9 := Lib.hid (HRF.out (fun g => by have h := HSU.out.1 (g.okPg.take _); cases h.2.2))
                    skip
                    go_upto_region 5 with fail
                    clear d0 d1 d2
                    generalize hwb : wr.alloc _ = w23
                    replace H := HS.eqW hwb H.alloc
                    try simp only [World.size_alloc, List.nil_append, List.cons_append, List.append_assoc] at H
                    clear hwb
                    generalize wr.heap.size = b7 at H ⊢
                    try clear C
                    try clear wr
                    have C := H.cells
                    try simp only [cellsOf, cellsM, apartOf, apartM, and_true] at C
                    refine wp_region_xH (by kernel_rfl) (by kernel_rfl) (by kernel_rfl) (by kernel_rfl) (fun _ => False) (H) ?_
                    clear H; intro w24 H hz0 hs0
                    try clear C
                    try simp only [World.size_alloc, List.nil_append, List.cons_append, List.append_assoc] at H hz0
                    clear hz0
                    try clear w23
                    have C := H.cells
                    try simp only [cellsOf, cellsM, apartOf, apartM, and_true] at C
                    have Z := H.zs
                    try simp only [ltsOf, ltsM, and_true] at Z
                    have hz0 := Nat.le_refl w24.heap.size
                    have hch := (H.lies HL.out).at (show m < pg.length by omega)
                    obtain ⟨bh, oh, e8, hbh, hch⟩ := hch
                    obtain ⟨rfl, rfl⟩ : bh = bg ∧ oh = og := by simpa using e8.symm
                    rw [← HYO.out] at hch
                    have d3 : w24.cell? ⟨bh, oh + m * 3, none⟩ = some (.int .i64 yn) := hch 0 _ rfl
                    have hbw : bh < w24.heap.size := Nat.lt_of_lt_of_le hbh H.size
                    clear hch e8
                    have hbm : bm < w24.heap.size := Item.lt (H.at 1 rfl) (k := bm) rfl
                    repeat (first | (refine wpX_skip rfl ?_; go_simp) | (refine wpX_free rfl rfl rfl (fun K hK => ?_); go_step; refine hK _ _ ?_; clear hK K) | (refine wpX_load rfl rfl rfl (by simp [Stay, OneD, NoD, *]) hs0 (by simp [*]) (fun K hK => ?_); go_step; refine hK _ _ ?_; clear hK K))
                    refine wpX_lookup_V (by rfl) (.tmp 53) (.tmp 55) rfl HT HK HE (fun w hS => (hS bm ⟨hbm, fun h => h⟩).trans (H.at 1 rfl)) HM.out rfl rfl (v := .bool true) (by rw [HN.out]; rfl) ?_
                    go_simp
                    repeat (first | (refine wpX_skip rfl ?_; go_simp) | (refine wpX_free rfl rfl rfl (fun K hK => ?_); go_step; refine hK _ _ ?_; clear hK K) | (refine wpX_load rfl rfl rfl (by simp [Stay, OneD, NoD, *]) hs0 (by simp [*]) (fun K hK => ?_); go_step; refine hK _ _ ?_; clear hK K))
                    (refine wpX_nil ?_; go_step)
                    go_wp2_with fail
                    go_ret
                    exact ⟨by rw [HF9.out]; rfl, H.done⟩
                  | false =>
                    have HO9 : Hid (OkPg F (pg.take (m + 2))) := HSU.out.2 ⟨by omega, by omega, rfl⟩
                    have HP9 := Lib.hid (HP.out rfl)
                    skip
                    go_upto_region 5 with fail
                    clear d0 d1 d2
                    generalize hwb : wr.alloc _ = w25
                    replace H := HS.eqW hwb H.alloc
                    try simp only [World.size_alloc, List.nil_append, List.cons_append, List.append_assoc] at H
                    clear hwb
                    generalize wr.heap.size = b7 at H ⊢
                    try clear C
                    try clear wr
                    have C := H.cells
                    try simp only [cellsOf, cellsM, apartOf, apartM, and_true] at C
                    refine wp_region_xH (by kernel_rfl) (by kernel_rfl) (by kernel_rfl) (by kernel_rfl) (fun _ => False) (H) ?_
                    clear H; intro w26 H hz0 hs0
                    try clear C
                    try simp only [World.size_alloc, List.nil_append, List.cons_append, List.append_assoc] at H hz0
                    clear hz0
                    try clear w25
                    have C := H.cells
                    try simp only [cellsOf, cellsM, apartOf, apartM, and_true] at C
                    have Z := H.zs
                    try simp only [ltsOf, ltsM, and_true] at Z
                    have hz0 := Nat.le_refl w26.heap.size
                    have hch := (H.lies HL.out).at (show m < pg.length by omega)
                    obtain ⟨bh, oh, e8, hbh, hch⟩ := hch
                    obtain ⟨rfl, rfl⟩ : bh = bg ∧ oh = og := by simpa using e8.symm
                    rw [← HYO.out] at hch
                    have d3 : w26.cell? ⟨bh, oh + m * 3, none⟩ = some (.int .i64 yn) := hch 0 _ rfl
                    have hbw : bh < w26.heap.size := Nat.lt_of_lt_of_le hbh H.size
                    clear hch e8
                    have hbm : bm < w26.heap.size := Item.lt (H.at 1 rfl) (k := bm) rfl
                    repeat (first | (refine wpX_skip rfl ?_; go_simp) | (refine wpX_free rfl rfl rfl (fun K hK => ?_); go_step; refine hK _ _ ?_; clear hK K) | (refine wpX_load rfl rfl rfl (by simp [Stay, OneD, NoD, *]) hs0 (by simp [*]) (fun K hK => ?_); go_step; refine hK _ _ ?_; clear hK K))
                    refine wpX_lookup_V (by rfl) (.tmp 53) (.tmp 55) rfl HT HK HE (fun w hS => (hS bm ⟨hbm, fun h => h⟩).trans (H.at 1 rfl)) HM.out rfl rfl (v := .bool false) (by rw [HN.out]; rfl) ?_
                    go_simp
                    repeat (first | (refine wpX_skip rfl ?_; go_simp) | (refine wpX_free rfl rfl rfl (fun K hK => ?_); go_step; refine hK _ _ ?_; clear hK K) | (refine wpX_load rfl rfl rfl (by simp [Stay, OneD, NoD, *]) hs0 (by simp [*]) (fun K hK => ?_); go_step; refine hK _ _ ?_; clear hK K))
                    (refine wpX_nil ?_; go_step)
                    go_upto_region 8 with (at_mapUpdate; refine wpList_update_V rfl (.tmp 58) (.tmp 60) _ rfl HT HK H 1 rfl HM.out rfl rfl rfl (fun wz es' clock' hM' HZ => ?_); clear H C)
                    simp only [List.set_cons_succ, List.set_cons_zero] at HZ
                    replace hM' : MapV es' clock' (putV xf (.bool true) (boolM (pg.take (m + 1)))) := hM'
                    rw [HP9.out] at hM'
                    go_wp2_with fail
                    go_roundw
                    case rel => exact ⟨m + 2, es', clock', by go_num, by omega, hM', HO9, HZ.less (by repeat (first | exact .slnil | refine .cons_cons _ ?_ | refine .cons _ ?_))⟩
                    case measure => simp [intOf]; omega
    · have hke : k = pg.length := by omega
      subst hke
      have hlk2 : ¬ (pg.length : Int) < pg.length := by omega
      replace HO : Hid (OkPg F pg) := by have := HO.out; rw [List.take_length] at this; exact this
      by_cases i1 : 1 ≤ pi
      · by_cases i2 : pi ≤ 999
        · by_cases i3 : pg.length ≤ 16
          · by_cases i5 : td.length ≤ 200
            · cases pd with
              | false =>
                have HF9 := Lib.hid (HRT.out ((good1_iff HO.out).2 (by exact ⟨⟨i1, i2⟩, i3, (fun h => by cases h), i5⟩)))
                skip
                go_wp2_with fail
                go_ret
                exact ⟨by rw [HF9.out]; simp [*] <;> omega, H.done⟩
              | true =>
                by_cases i4 : pg = []
                · subst i4
                  have HF9 := Lib.hid (HRT.out ((good1_iff HO.out).2 (by exact ⟨⟨i1, i2⟩, i3, (fun _ => rfl), i5⟩)))
                  skip
                  go_wp2_with fail
                  go_ret
                  exact ⟨by rw [HF9.out]; simp [*] <;> omega, H.done⟩
                · have i6 : ¬ (pg.length : Int) = 0 := by intro h; exact i4 (List.eq_nil_of_length_eq_zero (by omega))
                  have HF9 := Lib.hid (HRF.out (fun g => by have h := (good1_iff HO.out).1 g; exact i4 (h.2.2.1 rfl)))
                  skip
                  go_wp2_with fail
                  go_ret
                  exact ⟨by rw [HF9.out]; simp [*] <;> omega, H.done⟩
            · cases pd with
              | false =>
                have HF9 := Lib.hid (HRF.out (fun g => by have h := (good1_iff HO.out).1 g; exact i5 h.2.2.2))
                skip
                go_wp2_with fail
                go_ret
                exact ⟨by rw [HF9.out]; simp [*] <;> omega, H.done⟩
              | true =>
                by_cases i4 : pg = []
                · subst i4
                  have HF9 := Lib.hid (HRF.out (fun g => by have h := (good1_iff HO.out).1 g; exact i5 h.2.2.2))
                  skip
                  go_wp2_with fail
                  go_ret
                  exact ⟨by rw [HF9.out]; simp [*] <;> omega, H.done⟩
                · have i6 : ¬ (pg.length : Int) = 0 := by intro h; exact i4 (List.eq_nil_of_length_eq_zero (by omega))
                  have HF9 := Lib.hid (HRF.out (fun g => by have h := (good1_iff HO.out).1 g; exact i5 h.2.2.2))
                  skip
                  go_wp2_with fail
                  go_ret
                  exact ⟨by rw [HF9.out]; simp [*] <;> omega, H.done⟩
          · skip
            have HF9 := Lib.hid (HRF.out (fun g => by have h := (good1_iff HO.out).1 g; exact i3 h.2.1))
            skip
            go_wp2_with fail
            go_ret
            exact ⟨by rw [HF9.out]; simp [*] <;> omega, H.done⟩
        · skip
          have HF9 := Lib.hid (HRF.out (fun g => by have h := (good1_iff HO.out).1 g; exact i2 h.1.2))
          skip
          go_wp2_with fail
          go_ret
          exact ⟨by rw [HF9.out]; simp [*] <;> omega, H.done⟩
      · skip
        have HF9 := Lib.hid (HRF.out (fun g => by have h := (good1_iff HO.out).1 g; exact i1 h.1.1))
        skip
        go_wp2_with fail
        go_ret
        exact ⟨by rw [HF9.out]; simp [*] <;> omega, H.done⟩
end Go.Proofs.YtedbpmckgiifpaaGreat
