/- Package owner: a valid program is found valid. -/
import Derived.Test.YtedbpmckgiifpaaGreatOEnd
import Derived.Test.YtedbpmckgiifpaaGreatJ7
namespace Go.Proofs.YtedbpmckgiifpaaGreat
set_option linter.unusedSimpArgs false
set_option linter.unusedVariables false
open Go.RowKit
set_option maxRecDepth 100000
attribute [local go_sem] lt_more ne_more ne_more'
attribute [local go_sem] run_mkMapV
attribute [local irreducible] wpX wpF Calls

theorem wpX_lookup_V {P : Program} {ops : Array Oper} {σ : SW} {rest : List Oper} {o : Oper} {a : Act} {w : World} {Q : Act → World → Prop} (hw : Region.wanted o (yielded ops a.tmps) = true) (m x : Operand) {t k e : TypeId} (ho : o.op = .lookup t m x false)
    (ht : P.underlying t = some (.map k e)) (hk : P.underlying k = some (.int .i64)) {z : Value} (he : ∀ w, (zeroValue e).run P w = .ok z w) {b : Nat} {es : Array MapEntry} {clock : Nat} (hb : ∀ w, σ.S w → w.heap[b]? = some (.map es clock)) {M : List (Int × Value)} (hM : MapV es clock M)
    (hm : a.eval m = .map (some b)) {n : Int} (hx : a.eval x = .int .i64 n) {v : Value} (hv : (getV n M).getD z = v) (h : wpX P ops σ Q rest (a.put o.dst v) w) : wpX P ops σ Q (o :: rest) a w :=
  wpX_yield hw (by rw [ho]; rfl) v (fun w hS => by
    have hr := (run_lookup_V ht hk he (hb w hS) hM n).1
    rw [hv] at hr
    unfold execOp
    simp [ho, hm, hx, hr]) h
theorem getV_none {x : Int} : ∀ {M : List (Int × Value)}, (∀ p ∈ M, p.1 ≠ x) → getV x M = none ∧ ∀ v, putV x v M = M ++ [(x, v)]
  | [], _ => ⟨rfl, fun _ => rfl⟩
  | p :: M, h => by
    have h1 := h p (by simp)
    obtain ⟨h2, h3⟩ := getV_none (M := M) fun q hq => h q (by simp [hq])
    exact ⟨by rw [getV, if_neg (fun e => h1 e.symm)]; exact h2, fun v => by rw [putV, if_neg (fun e => h1 e.symm), h3]; rfl⟩
def boolM (pg : List Pg) : List (Int × Value) := pg.map fun x => (x.f, .bool true)
set_option maxHeartbeats 8000000 in
theorem ovalid1_any {F : Int} {q : Pv} (hg : Good1 F q.p) (w : World) (hl : PvAt w w.heap.size q) :
    Calls Tryz.prog 64 #[vPr q, .int .i64 F] w (Gives (.bool true) w) := by
  have HT : Tryz.prog.underlying 102 = some (.map 3 4) := by kernel_rfl
  have HK : Tryz.prog.underlying 3 = some (.int .i64) := by kernel_rfl
  have HE : ∀ w, (zeroValue 4).run Tryz.prog w = .ok (.bool false) w := fun w => by rfl
  have HG := Lib.hid hg
  obtain ⟨⟨pi, pt, pd, pg, td⟩, pa, ta⟩ := q
  obtain ⟨⟨pb, pc, e1, hpc, hpl⟩, ⟨tb, tc, e2, htc, -⟩⟩ := hl
  have f1 : pa = .slice pb pg.length pc := e1
  have f2 : ta = .slice tb td.length tc := e2
  clear e1 e2
  subst f1 f2
  have hp16 : pg.length ≤ 16 := hg.plen
  have ht200 : td.length ≤ 200 := hg.told
  have hi1 : 1 ≤ pi := hg.ids.1
  have hi2 : pi ≤ 999 := hg.ids.2
  have HL : Hid (Lies w w.heap.size pb 3 pg.length (fun j => pgC pg[j]!)) := hpl
  show Calls Tryz.prog 64 #[.agg #[.int .i64 pi, .bool pt, .bool pd, .slice pb pg.length pc, .slice tb td.length tc], .int .i64 F] w _
  clear hpl hg hpc htc
  go_enter Tryz.func64, Tryz.ntmps64
  have H := HS.start NoD w
  go_upto_region 2 with fail
  generalize hwb : (w.alloc _).alloc _ = wm
  replace H := HS.eqW hwb H.alloc.allocObj
  try simp only [World.size_alloc, List.nil_append, List.cons_append, List.append_assoc] at H
  clear hwb
  generalize w.heap.size + 1 = bm at H ⊢
  generalize w.heap.size = bX at H ⊢
  skip
  try clear C
  try simp only [World.size_alloc, List.nil_append, List.cons_append, List.append_assoc] at H
  have C := H.cells
  try simp only [cellsOf, cellsM, apartOf, apartM, and_true] at C
  go_wp2_with fail
  go_loopw [12] (fun kk wr => ∃ (k : Nat) (es : Array MapEntry) (clock : Nat), kk = .int .i64 k ∧ k ≤ pg.length ∧ Hid (MapV es clock (boolM (pg.take k))) ∧ HS NoD w [.blk bX #[.int .i64 pi, .bool pt, .bool pd, .slice pb pg.length pc, .slice tb td.length tc] 52, .obj bm (.map es clock)] wr) (fun kk _ => pg.length - (intOf kk).toNat)
  case atStart => exact ⟨0, #[], 0, rfl, Nat.zero_le _, MapV.nil, H⟩
  case round =>
    clear H C
    obtain ⟨k, es, clock, rfl, hk, HM, H⟩ := hrel
    skip
    try clear C
    try simp only [World.size_alloc, List.nil_append, List.cons_append, List.append_assoc] at H
    have C := H.cells
    try simp only [cellsOf, cellsM, apartOf, apartM, and_true] at C
    by_cases hlk : k < pg.length
    · obtain ⟨bg, og, e9, hbg, hcg⟩ := (H.lies HL.out).at hlk
      obtain rfl : pb = some ⟨bg, og, none⟩ := e9
      have hx := HG.out.pnum _ (at_mem (show k < pg.length from hlk))
      have HPV : Hid (∀ m, m + 1 = k → (pg[m]!).n < (pg[k]!).n) := fun m h => by
        have := List.pairwise_iff_getElem.1 HG.out.pasc m k (by dsimp only; omega) hlk (by omega)
        dsimp only at this
        rwa [← getElem!_pos pg m (by omega), ← getElem!_pos pg k hlk] at this
      have hnn : ∀ p ∈ boolM (pg.take k), p.1 ≠ (pg[k]!).f := fun p hp => by
        obtain ⟨x, hx, rfl⟩ := List.mem_map.1 hp
        obtain ⟨m, hm, rfl⟩ := List.mem_take_iff_getElem.1 hx
        have := List.pairwise_iff_getElem.1 HG.out.pfr m k (by dsimp only; omega) hlk (by omega)
        dsimp only at this ⊢
        rwa [← getElem!_pos pg k hlk] at this
      have HN : Hid (getV (pg[k]!).f (boolM (pg.take k)) = none ∧ putV (pg[k]!).f (.bool true) (boolM (pg.take k)) = boolM (pg.take (k + 1))) := by
        obtain ⟨a, b⟩ := getV_none hnn
        refine ⟨a, ?_⟩
        rw [b, take_snoc hlk]
        unfold boolM
        rw [List.map_append]
        rfl
      clear hnn
      obtain ⟨xo, hxo⟩ : ∃ x, x = pg[k]! := ⟨_, rfl⟩
      rw [← hxo] at hcg HN HPV
      replace hx : 0 ≤ xo.n ∧ xo.n ≤ 999 ∧ 0 ≤ xo.f ∧ xo.f < F := by rw [hxo]; exact hx
      clear hxo
      obtain ⟨xn, xf, xs⟩ := xo
      dsimp only at HN HPV hx
      obtain ⟨hx1, hx2, hx3, hx4⟩ := hx
      have hq1 : decide (xn < 0) = false := decide_eq_false (by omega)
      have hq2 : decide (999 < xn) = false := decide_eq_false (by omega)
      have hq3 : decide (xf < 0) = false := decide_eq_false (by omega)
      have hq4 : decide (F ≤ xf) = false := decide_eq_false (by omega)
      have d0 : wr.cell? ⟨bg, og + k * 3, none⟩ = some (.int .i64 xn) := hcg 0 _ rfl
      have d1 : wr.cell? ⟨bg, og + k * 3 + 1, none⟩ = some (.int .i64 xf) := hcg 1 _ rfl
      have d2 : wr.cell? ⟨bg, og + k * 3 + 2, none⟩ = some (.bool xs) := hcg 2 _ rfl
      clear hcg
      cases k with
      | zero =>
        replace d0 : wr.cell? ⟨bg, og, none⟩ = some (.int .i64 xn) := by simpa using d0
        replace d1 : wr.cell? ⟨bg, og + 1, none⟩ = some (.int .i64 xf) := by simpa using d1
        replace d2 : wr.cell? ⟨bg, og + 2, none⟩ = some (.bool xs) := by simpa using d2
        go_upto_region 5 with fail
        clear d0 d1 d2
        generalize hwb : wr.alloc _ = w1
        replace H := HS.eqW hwb H.alloc
        try simp only [World.size_alloc, List.nil_append, List.cons_append, List.append_assoc] at H
        clear hwb
        generalize wr.heap.size = b7 at H ⊢
        try clear C
        try clear wr
        have C := H.cells
        try simp only [cellsOf, cellsM, apartOf, apartM, and_true] at C
        refine wp_region_xH (by kernel_rfl) (by kernel_rfl) (by kernel_rfl) (by kernel_rfl) (fun _ => False) (H) ?_
        clear H; intro w2 H hz0 hs0
        try clear C
        try simp only [World.size_alloc, List.nil_append, List.cons_append, List.append_assoc] at H hz0
        clear hz0
        try clear w1
        have C := H.cells
        try simp only [cellsOf, cellsM, apartOf, apartM, and_true] at C
        have Z := H.zs
        try simp only [ltsOf, ltsM, and_true] at Z
        have hz0 := Nat.le_refl w2.heap.size
        have hbm : bm < w2.heap.size := Item.lt (H.at 1 rfl) (k := bm) rfl
        repeat (first | (refine wpX_skip rfl ?_; go_simp) | (refine wpX_free rfl rfl rfl (fun K hK => ?_); go_step; refine hK _ _ ?_; clear hK K) | (refine wpX_load rfl rfl rfl (by simp [Stay, OneD, NoD, *]) hs0 (by simp [*]) (fun K hK => ?_); go_step; refine hK _ _ ?_; clear hK K))
        refine wpX_lookup_V (by rfl) (.tmp 53) (.tmp 55) rfl HT HK HE (fun w hS => (hS bm ⟨hbm, fun h => h⟩).trans (H.at 1 rfl)) HM.out rfl rfl (v := .bool false) (by rw [HN.out.1]; rfl) ?_
        go_simp
        repeat (first | (refine wpX_skip rfl ?_; go_simp) | (refine wpX_free rfl rfl rfl (fun K hK => ?_); go_step; refine hK _ _ ?_; clear hK K) | (refine wpX_load rfl rfl rfl (by simp [Stay, OneD, NoD, *]) hs0 (by simp [*]) (fun K hK => ?_); go_step; refine hK _ _ ?_; clear hK K))
        (refine wpX_nil ?_; go_step)
        go_upto_region 8 with (at_mapUpdate; refine wpList_update_V rfl (.tmp 58) (.tmp 60) _ rfl HT HK H 1 rfl HM.out rfl rfl rfl (fun wz es' clock' hM' HZ => ?_); clear H C)
        simp only [List.set_cons_succ, List.set_cons_zero] at HZ
        replace hM' : MapV es' clock' (putV xf (.bool true) (boolM (pg.take 0))) := hM'
        rw [HN.out.2] at hM'
        go_wp2_with fail
        go_roundw
        case rel => exact ⟨1, es', clock', by go_num, by omega, hM', HZ.less (by repeat (first | exact .slnil | refine .cons_cons _ ?_ | refine .cons _ ?_))⟩
        case measure => simp [intOf]; omega
      | succ m =>
        have hlt := HPV.out m rfl
        obtain ⟨yo, hyo⟩ : ∃ y, y = pg[m]! := ⟨_, rfl⟩
        have HYO := Lib.hid hyo
        rw [← hyo] at hlt
        clear hyo
        obtain ⟨yn, yf, ys⟩ := yo
        have hge : decide (xn ≤ yn) = false := decide_eq_false (by have : yn < xn := hlt; omega)
        clear hlt
        skip
        go_upto_region 5 with fail
        clear d0 d1 d2
        generalize hwb : wr.alloc _ = w3
        replace H := HS.eqW hwb H.alloc
        try simp only [World.size_alloc, List.nil_append, List.cons_append, List.append_assoc] at H
        clear hwb
        generalize wr.heap.size = b7 at H ⊢
        try clear C
        try clear wr
        have C := H.cells
        try simp only [cellsOf, cellsM, apartOf, apartM, and_true] at C
        refine wp_region_xH (by kernel_rfl) (by kernel_rfl) (by kernel_rfl) (by kernel_rfl) (fun _ => False) (H) ?_
        clear H; intro w4 H hz0 hs0
        try clear C
        try simp only [World.size_alloc, List.nil_append, List.cons_append, List.append_assoc] at H hz0
        clear hz0
        try clear w3
        have C := H.cells
        try simp only [cellsOf, cellsM, apartOf, apartM, and_true] at C
        have Z := H.zs
        try simp only [ltsOf, ltsM, and_true] at Z
        have hz0 := Nat.le_refl w4.heap.size
        have hch := (H.lies HL.out).at (show m < pg.length by omega)
        obtain ⟨bh, oh, e8, hbh, hch⟩ := hch
        obtain ⟨rfl, rfl⟩ : bh = bg ∧ oh = og := by simpa using e8.symm
        rw [← HYO.out] at hch
        have d3 : w4.cell? ⟨bh, oh + m * 3, none⟩ = some (.int .i64 yn) := hch 0 _ rfl
        have hbw : bh < w4.heap.size := Nat.lt_of_lt_of_le hbh H.size
        clear hch e8
        have hbm : bm < w4.heap.size := Item.lt (H.at 1 rfl) (k := bm) rfl
        repeat (first | (refine wpX_skip rfl ?_; go_simp) | (refine wpX_free rfl rfl rfl (fun K hK => ?_); go_step; refine hK _ _ ?_; clear hK K) | (refine wpX_load rfl rfl rfl (by simp [Stay, OneD, NoD, *]) hs0 (by simp [*]) (fun K hK => ?_); go_step; refine hK _ _ ?_; clear hK K))
        refine wpX_lookup_V (by rfl) (.tmp 53) (.tmp 55) rfl HT HK HE (fun w hS => (hS bm ⟨hbm, fun h => h⟩).trans (H.at 1 rfl)) HM.out rfl rfl (v := .bool false) (by rw [HN.out.1]; rfl) ?_
        go_simp
        repeat (first | (refine wpX_skip rfl ?_; go_simp) | (refine wpX_free rfl rfl rfl (fun K hK => ?_); go_step; refine hK _ _ ?_; clear hK K) | (refine wpX_load rfl rfl rfl (by simp [Stay, OneD, NoD, *]) hs0 (by simp [*]) (fun K hK => ?_); go_step; refine hK _ _ ?_; clear hK K))
        (refine wpX_nil ?_; go_step)
        go_upto_region 8 with (at_mapUpdate; refine wpList_update_V rfl (.tmp 58) (.tmp 60) _ rfl HT HK H 1 rfl HM.out rfl rfl rfl (fun wz es' clock' hM' HZ => ?_); clear H C)
        simp only [List.set_cons_succ, List.set_cons_zero] at HZ
        replace hM' : MapV es' clock' (putV xf (.bool true) (boolM (pg.take (m + 1)))) := hM'
        rw [HN.out.2] at hM'
        go_wp2_with fail
        go_roundw
        case rel => exact ⟨m + 2, es', clock', by go_num, by omega, hM', HZ.less (by repeat (first | exact .slnil | refine .cons_cons _ ?_ | refine .cons _ ?_))⟩
        case measure => simp [intOf]; omega
    · have hke : k = pg.length := by omega
      clear hke
      cases hd : pd with
      | true =>
        have hz : pg = [] := HG.out.dead hd
        subst hz
        subst hd
        skip
        go_wp2_with fail
        go_ret
        exact ⟨by simp [hi1, hi2, hp16, ht200]; try omega, H.done⟩
      | false =>
        subst hd
        skip
        go_wp2_with fail
        go_ret
        exact ⟨by simp [hi1, hi2, hp16, ht200]; try omega, H.done⟩
end Go.Proofs.YtedbpmckgiifpaaGreat
