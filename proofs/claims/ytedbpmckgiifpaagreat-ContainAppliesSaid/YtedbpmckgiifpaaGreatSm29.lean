/- memfaultref28.Same, memfaultref29.Same on equal lists; memfaultref29.Find. -/
import Derived.Test.YtedbpmckgiifpaaGreatC2
namespace Go.Proofs.YtedbpmckgiifpaaGreat
set_option linter.unusedSimpArgs false
set_option linter.unusedVariables false
open Go.RowKit
set_option maxRecDepth 100000
attribute [local go_sem] lt_more ne_more ne_more'
attribute [local irreducible] wpX wpF Calls

theorem neqFr' (a b : Int) (w : World) : (binOp .neq 47 (.agg #[.int .i64 a, .int .i64 b]) (.agg #[.int .i64 a, .int .i64 b])).run Tryz.prog w = .ok (.bool false) w := by go_simp
theorem neqPg (a b : Int) (c : Bool) (w : World) : (binOp .neq 49 (.agg #[.int .i64 a, .int .i64 b, .bool c]) (.agg #[.int .i64 a, .int .i64 b, .bool c])).run Tryz.prog w = .ok (.bool false) w := by go_simp
theorem same28_of {xs : List Fr} (hx : xs.length ≤ 1000000) (c d : Nat) {sa sb : Option Addr} (w : World) (hl : Lies w w.heap.size sa 2 xs.length (fun j => frC xs[j]!)) (hm : Lies w w.heap.size sb 2 xs.length (fun j => frC xs[j]!)) :
    Calls Tryz.prog 13 #[.slice sa xs.length c, .slice sb xs.length d] w (Gives (.bool true) w) := by
  have HL := Lib.hid hl
  have HM := Lib.hid hm
  clear hl hm
  go_enter Tryz.func13, Tryz.ntmps13
  have H := HS.start NoD w
  go_wp2_with fail
  go_loopw [14] (fun cc wr => ∃ (j : Nat), cc = .int .i64 j ∧ j ≤ xs.length ∧ HS NoD w [] wr) (fun cc _ => xs.length - (intOf cc).toNat)
  case atStart => exact ⟨0, rfl, Nat.zero_le _, H⟩
  case round =>
    clear H
    obtain ⟨j, rfl, hj, H⟩ := hrel
    skip
    by_cases hlt : j < xs.length
    · obtain ⟨b, o, rfl, hb, hc⟩ := (H.lies HL.out).at hlt
      obtain ⟨b', o', rfl, hb', hd⟩ := (H.lies HM.out).at hlt
      obtain ⟨x, hxj⟩ : ∃ x, x = xs[j]! := ⟨_, rfl⟩
      rw [← hxj] at hc hd
      obtain ⟨t0, t1⟩ := x
      have c0 : wr.cell? ⟨b, o + j * 2, none⟩ = some (.int .i64 t0) := hc 0 _ rfl
      have c1 : wr.cell? ⟨b, o + j * 2 + 1, none⟩ = some (.int .i64 t1) := hc 1 _ rfl
      clear hxj
      have hq := fun w => neqFr' t0 t1 w
      have e0 : wr.cell? ⟨b', o' + j * 2, none⟩ = some (.int .i64 t0) := hd 0 _ rfl
      have e1 : wr.cell? ⟨b', o' + j * 2 + 1, none⟩ = some (.int .i64 t1) := hd 1 _ rfl
      have hlb : b < wr.heap.size := Nat.lt_of_lt_of_le hb H.size
      have hlb' : b' < wr.heap.size := Nat.lt_of_lt_of_le hb' H.size
      have hnb : (wr.heap.size = b') = False := eq_false (by omega)
      have hnb' : (b' = wr.heap.size) = False := eq_false (by omega)
      clear hc hd
      go_upto_region 6 with fail
      go_region
      go_wp2_with fail
      go_roundw
      case rel => exact ⟨j + 1, by go_num, by omega, H.alloc.drew.less (by repeat (first | exact .slnil | refine .cons_cons _ ?_ | refine .cons _ ?_))⟩
      case measure => simp [intOf]; omega
    · go_wp2_with fail
      go_ret
      exact ⟨rfl, H.done⟩
set_option maxHeartbeats 8000000 in
theorem same29_of {ps : List Pr} (hx : SmallP ps) {v1 v2 : Value} (w : World) (h1 : Ps w w.heap.size v1 ps) (h2 : Ps w w.heap.size v2 ps) :
    Calls Tryz.prog 14 #[v1, v2] w (Gives (.bool true) w) := by
  obtain ⟨qs, hq1, ⟨sa, c, rfl, hc, hl⟩, hi⟩ := h1
  obtain ⟨rs, hq2, ⟨sb, d, rfl, hd, hm⟩, hj⟩ := h2
  have hle : rs.length = qs.length := by have := congrArg List.length (hq2.trans hq1.symm); simpa using this
  rw [hle]
  have hx1 : qs.length ≤ 1000 := by have := hx.1; rw [← hq1] at this; simpa using this
  have HX0 := Lib.hid hx.2
  have HPE := Lib.hid (show ∀ j, j < qs.length → (rs[j]!).p = (qs[j]!).p by
    intro j hj
    have e1 := map_at (qs := qs) (j := j) hj
    have e2 := map_at (qs := rs) (j := j) (by omega)
    rw [← e1, ← e2, hq1, hq2])
  have HPM := Lib.hid (show ∀ j, j < qs.length → (qs[j]!).p ∈ ps by
    intro j hj
    rw [← hq1]
    exact List.mem_map.2 ⟨_, mem_at hj, rfl⟩)
  have HL := Lib.hid hl
  have HI := Lib.hid hi
  have HLz := Lib.hid hm
  have HIz := Lib.hid hj
  have HLE := Lib.hid hle
  clear hl hi hm hj hle hx hc hd
  go_enter Tryz.func14, Tryz.ntmps14
  have H := HS.start NoD w
  go_wp2_with fail
  go_loopw [19] (fun i wr => ∃ (j : Nat), i = .int .i64 j ∧ j ≤ qs.length ∧ HS NoD w [] wr) (fun i _ => qs.length - (intOf i).toNat)
  case atStart => exact ⟨0, rfl, Nat.zero_le _, H⟩
  case round =>
    clear H
    obtain ⟨j, rfl, hj, H⟩ := hrel
    skip
    by_cases hlt : j < qs.length
    · have hpe := HPE.out j hlt
      have hpm := HPM.out j hlt
      have hsm := HX0.out _ hpm
      obtain ⟨b, o, e0, hb, hc⟩ := (H.lies HL.out).at hlt
      cases e0
      have HM := Lib.hid (map_at hlt)
      have hpv := HI.out _ (mem_at hlt)
      obtain ⟨q, hxj⟩ : ∃ q, q = qs[j]! := ⟨_, rfl⟩
      rw [← hxj] at hc hpv
      have HX := Lib.hid hxj
      obtain ⟨⟨pi, pt, pd, pg, td⟩, pa, ta⟩ := q
      obtain ⟨⟨pb, pc, e1, hpc, hpl⟩, ⟨tb, tc, e2, htc, htl⟩⟩ := hpv
      have f1 : pa = .slice pb pg.length pc := e1
      have f2 : ta = .slice tb td.length tc := e2
      clear e1 e2
      subst f1 f2
      have HPG : Hid (Lies w w.heap.size pb 3 pg.length (fun j => pgC pg[j]!)) := hpl
      have HTD : Hid (Lies w w.heap.size tb 1 td.length (fun j => iC td[j]!)) := htl
      have HPC : Hid (pg.length ≤ pc ∧ (pb = none → pc = 0)) := hpc
      have HTC : Hid (td.length ≤ tc ∧ (tb = none → tc = 0)) := htc
      clear hpc htc
      clear hpl htl
      have c0 : wr.cell? ⟨b, o + j * 5, none⟩ = some (.int .i64 pi) := hc 0 _ rfl
      have c1 : wr.cell? ⟨b, o + j * 5 + 1, none⟩ = some (.bool pt) := hc 1 _ rfl
      have c2 : wr.cell? ⟨b, o + j * 5 + 2, none⟩ = some (.bool pd) := hc 2 _ rfl
      have c3 : wr.cell? ⟨b, o + j * 5 + 3, none⟩ = some (.slice pb pg.length pc) := hc 3 _ rfl
      have c4 : wr.cell? ⟨b, o + j * 5 + 4, none⟩ = some (.slice tb td.length tc) := hc 4 _ rfl
      clear hc hxj
      rw [← HX.out] at hpe hsm
      clear hpm
      go_upto_region 6 with fail
      clear c0 c1 c2 c3 c4
      generalize hwb : wr.alloc _ = w1
      replace H := HS.eqW hwb H.alloc
      try simp only [World.size_alloc, List.nil_append, List.cons_append, List.append_assoc] at H
      clear hwb
      generalize wr.heap.size = bX at H ⊢
      try clear C
      try clear wr
      have C := H.cells
      try simp only [cellsOf, cellsM, apartOf, apartM, and_true] at C
      have hltz : j < rs.length := by rw [HLE.out]; exact hlt
      obtain ⟨bz, oz, e0, hbz, hcz⟩ := (H.lies HLz.out).at hltz
      cases e0
      have HMz := Lib.hid (map_at hltz)
      have hpvz := HIz.out _ (mem_at hltz)
      obtain ⟨qz, hxjz⟩ : ∃ q, q = rs[j]! := ⟨_, rfl⟩
      rw [← hxjz] at hcz hpvz
      have HXz := Lib.hid hxjz
      obtain ⟨⟨piz, ptz, pdz, pgz, tdz⟩, paz, taz⟩ := qz
      obtain ⟨⟨pbz, pcz, e1, hpcz, hplz⟩, ⟨tbz, tcz, e2, htcz, htlz⟩⟩ := hpvz
      have f1 : paz = .slice pbz pgz.length pcz := e1
      have f2 : taz = .slice tbz tdz.length tcz := e2
      clear e1 e2
      subst f1 f2
      have HPGz : Hid (Lies w w.heap.size pbz 3 pgz.length (fun j => pgC pgz[j]!)) := hplz
      have HTDz : Hid (Lies w w.heap.size tbz 1 tdz.length (fun j => iC tdz[j]!)) := htlz
      have HPCz : Hid (pgz.length ≤ pcz ∧ (pbz = none → pcz = 0)) := hpcz
      have HTCz : Hid (tdz.length ≤ tcz ∧ (tbz = none → tcz = 0)) := htcz
      clear hpcz htcz
      clear hplz htlz
      have c0z : w1.cell? ⟨bz, oz + j * 5, none⟩ = some (.int .i64 piz) := hcz 0 _ rfl
      have c1z : w1.cell? ⟨bz, oz + j * 5 + 1, none⟩ = some (.bool ptz) := hcz 1 _ rfl
      have c2z : w1.cell? ⟨bz, oz + j * 5 + 2, none⟩ = some (.bool pdz) := hcz 2 _ rfl
      have c3z : w1.cell? ⟨bz, oz + j * 5 + 3, none⟩ = some (.slice pbz pgz.length pcz) := hcz 3 _ rfl
      have c4z : w1.cell? ⟨bz, oz + j * 5 + 4, none⟩ = some (.slice tbz tdz.length tcz) := hcz 4 _ rfl
      clear hcz hxjz
      rw [← HXz.out] at hpe
      obtain ⟨rfl, rfl, rfl, rfl, rfl⟩ := Pr.mk.inj hpe.symm
      clear hpe
      go_upto_region 7 with fail
      clear c0z c1z c2z c3z c4z
      generalize hwb : w1.alloc _ = w2
      replace H := HS.eqW hwb H.alloc
      try simp only [World.size_alloc, List.nil_append, List.cons_append, List.append_assoc] at H
      clear hwb
      generalize w1.heap.size = bY at H ⊢
      try clear C
      try clear w1
      have C := H.cells
      try simp only [cellsOf, cellsM, apartOf, apartM, and_true] at C
      go_wp2_with fail
      go_loopw [68] (fun i wr => ∃ (k : Nat), i = .int .i64 k ∧ k ≤ pg.length ∧ HS NoD w [.blk bX #[.int .i64 pi, .bool pt, .bool pd, .slice pb pg.length pc, .slice tb td.length tc] 52, .blk bY #[.int .i64 pi, .bool pt, .bool pd, .slice pbz pg.length pcz, .slice tbz td.length tcz] 52] wr) (fun i _ => pg.length - (intOf i).toNat)
      case atStart => exact ⟨0, rfl, Nat.zero_le _, H⟩
      case round =>
        clear H C
        obtain ⟨k, rfl, hk, H⟩ := hrel
        skip
        try clear C
        try simp only [World.size_alloc, List.nil_append, List.cons_append, List.append_assoc] at H
        have C := H.cells
        try simp only [cellsOf, cellsM, apartOf, apartM, and_true] at C
        by_cases hlk : k < pg.length
        · obtain ⟨bg, og, rfl, hbg, hcg⟩ := (H.lies HPG.out).at hlk
          obtain ⟨g, hxg⟩ : ∃ q, q = pg[k]! := ⟨_, rfl⟩
          rw [← hxg] at hcg
          have HG := Lib.hid hxg
          obtain ⟨xn, xf, xs⟩ := g
          have d0 : wr.cell? ⟨bg, og + k * 3, none⟩ = some (.int .i64 xn) := hcg 0 _ rfl
          have d1 : wr.cell? ⟨bg, og + k * 3 + 1, none⟩ = some (.int .i64 xf) := hcg 1 _ rfl
          have d2 : wr.cell? ⟨bg, og + k * 3 + 2, none⟩ = some (.bool xs) := hcg 2 _ rfl
          clear hcg hxg
          obtain ⟨bh, oh, e8, hbh, hch⟩ := (H.lies HPGz.out).at hlk
          subst e8
          rw [← HG.out] at hch
          go_upto_region 12 with fail
          clear d0 d1 d2
          generalize hwb : wr.alloc _ = w3
          replace H := HS.eqW hwb H.alloc
          try simp only [World.size_alloc, List.nil_append, List.cons_append, List.append_assoc] at H
          clear hwb
          generalize wr.heap.size = bG at H ⊢
          try clear C
          try clear wr
          have C := H.cells
          try simp only [cellsOf, cellsM, apartOf, apartM, and_true] at C
          have hq := fun w => neqPg xn xf xs w
          have hch2 := (H.lies HPGz.out).at hlk
          obtain ⟨bi, oi, e9, -, hci⟩ := hch2
          obtain ⟨rfl, rfl⟩ : bi = bh ∧ oi = oh := by simpa using e9.symm
          rw [← HG.out] at hci
          have d0 : w3.cell? ⟨bi, oi + k * 3, none⟩ = some (.int .i64 xn) := hci 0 _ rfl
          have d1 : w3.cell? ⟨bi, oi + k * 3 + 1, none⟩ = some (.int .i64 xf) := hci 1 _ rfl
          have d2 : w3.cell? ⟨bi, oi + k * 3 + 2, none⟩ = some (.bool xs) := hci 2 _ rfl
          clear hch hci e9
          go_region
          go_wp2_with fail
          go_roundw
          case rel => exact ⟨k + 1, by go_num, by omega, H.drew.less (by repeat (first | exact .slnil | refine .cons_cons _ ?_ | refine .cons _ ?_))⟩
          case measure => simp [intOf]; omega
        · go_wp2_with fail
          go_loopw [84] (fun i wr => ∃ (k : Nat), i = .int .i64 k ∧ k ≤ td.length ∧ HS NoD w [.blk bX #[.int .i64 pi, .bool pt, .bool pd, .slice pb pg.length pc, .slice tb td.length tc] 52, .blk bY #[.int .i64 pi, .bool pt, .bool pd, .slice pbz pg.length pcz, .slice tbz td.length tcz] 52] wr) (fun i _ => td.length - (intOf i).toNat)
          case atStart => exact ⟨0, rfl, Nat.zero_le _, H⟩
          case round =>
            clear H C
            obtain ⟨k, rfl, hk, H⟩ := hrel
            skip
            try clear C
            try simp only [World.size_alloc, List.nil_append, List.cons_append, List.append_assoc] at H
            have C := H.cells
            try simp only [cellsOf, cellsM, apartOf, apartM, and_true] at C
            by_cases hlk : k < td.length
            · obtain ⟨bh, oh, e8, hbh, hch⟩ := (H.lies HTDz.out).at hlk
              obtain ⟨bi, oi, e9, hbi, hci⟩ := (H.lies HTD.out).at hlk
              subst e8 e9
              obtain ⟨n, hn⟩ : ∃ n, n = td[k]! := ⟨_, rfl⟩
              rw [← hn] at hch hci
              have d0 : wr.cell? ⟨bh, oh + k, none⟩ = some (.int .i64 n) := by have := hch 0 (.int .i64 n) rfl; simpa using this
              have d1 : wr.cell? ⟨bi, oi + k, none⟩ = some (.int .i64 n) := by have := hci 0 (.int .i64 n) rfl; simpa using this
              clear hch hci hn
              go_wp2_with fail
              go_roundw
              case rel => exact ⟨k + 1, by go_num, by omega, H⟩
              case measure => simp [intOf]; omega
            · go_wp2_with fail
              go_roundw
              case rel => exact ⟨j + 1, by go_num, by omega, H.less (by repeat (first | exact .slnil | refine .cons_cons _ ?_ | refine .cons _ ?_))⟩
              case measure => simp [intOf]; omega
    · go_wp2_with fail
      go_ret
      exact ⟨rfl, H.done⟩
end Go.Proofs.YtedbpmckgiifpaaGreat
