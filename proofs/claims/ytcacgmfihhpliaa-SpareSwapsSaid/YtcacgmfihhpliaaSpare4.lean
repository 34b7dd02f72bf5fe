/- Package spare: the closures of unused and Swap; unused; Left. -/
import Derived.Test.YtcacgmfihhpliaaSpare3
namespace Go.Proofs.Ytcacgmfihhpliaa
set_option linter.unusedSimpArgs false
set_option linter.unusedVariables false
open Go.RowKit
set_option maxRecDepth 100000
attribute [local go_sem] lt_more ne_more ne_more'
attribute [local irreducible] wpX wpF Calls

theorem eql6 (a b c d e f a' b' c' d' e' f' : Int) (w : World) : (binOp .eql 28 (v6 a b c d e f) (v6 a' b' c' d' e' f')).run Try.prog w = .ok (.bool (decide (a = a' ∧ b = b' ∧ c = c' ∧ d = d' ∧ e = e' ∧ f = f'))) w := by
  by_cases h0 : a = a'
  · by_cases h1 : b = b'
    · by_cases h2 : c = c'
      · by_cases h3 : d = d'
        · by_cases h4 : e = e'
          · by_cases h5 : f = f'
            · subst h0 h1 h2 h3 h4 h5; go_simp
            · go_simp
          · go_simp
        · go_simp
      · go_simp
    · go_simp
  · go_simp
theorem neq6 (a b c d e f a' b' c' d' e' f' : Int) (w : World) : (binOp .neq 28 (v6 a b c d e f) (v6 a' b' c' d' e' f')).run Try.prog w = .ok (.bool (!decide (a = a' ∧ b = b' ∧ c = c' ∧ d = d' ∧ e = e' ∧ f = f'))) w := by
  by_cases h0 : a = a'
  · by_cases h1 : b = b'
    · by_cases h2 : c = c'
      · by_cases h3 : d = d'
        · by_cases h4 : e = e'
          · by_cases h5 : f = f'
            · subst h0 h1 h2 h3 h4 h5; go_simp
            · go_simp
          · go_simp
        · go_simp
      · go_simp
    · go_simp
  · go_simp
/-- Does the swap t hold the spare row 'row' of the bank of p? -/
def holdsS (p0 p1 p2 p3 row : Int) (t : S8) : Bool := decide (t.p0 = p0 ∧ t.p1 = p1 ∧ t.p2 = p2 ∧ t.p3 = p3 ∧ t.p4 = 0 ∧ t.p5 = 0) && decide (t.s = row)
/-- Does the swap t hold the row 'row' of the bank of p? -/
def holdsR (p0 p1 p2 p3 row : Int) (t : S8) : Bool := decide (t.p0 = p0 ∧ t.p1 = p1 ∧ t.p2 = p2 ∧ t.p3 = p3 ∧ t.p4 = 0 ∧ t.p5 = 0) && decide (t.r = row)
set_option maxHeartbeats 2000000 in
theorem unused1_of (t : S8) (p0 p1 p2 p3 p4 p5 row : Int) (bp br : Nat) (w : World) (hp : Blk w bp #[.int .i64 p0, .int .i64 p1, .int .i64 p2, .int .i64 p3, .int .i64 p4, .int .i64 p5] 28) (hr : Blk w br #[.int .i64 row] 3) :
    Calls Try.prog 84 #[.agg (sC t).toArray, .pointer (some ⟨bp, 0, none⟩), .pointer (some ⟨br, 0, none⟩)] w (Gives (.bool (holdsS p0 p1 p2 p3 row t)) w) := by
  obtain ⟨q0, q1, q2, q3, q4, q5, u, v⟩ := t
  have HP := Lib.hid hp
  have HRW := Lib.hid hr
  clear hp hr
  have HBK := Lib.hid (fun w => sbank_of p0 p1 p2 p3 p4 p5 w)
  have hv : holdsS p0 p1 p2 p3 row ⟨q0, q1, q2, q3, q4, q5, u, v⟩ = (decide (q0 = p0 ∧ q1 = p1 ∧ q2 = p2 ∧ q3 = p3 ∧ q4 = 0 ∧ q5 = 0) && decide (v = row)) := rfl
  have HV := Lib.hid hv
  clear hv
  have HQ := Lib.hid (fun w => eql6 q0 q1 q2 q3 q4 q5 p0 p1 p2 p3 0 0 w)
  show Calls Try.prog 84 #[.agg #[.int .i64 q0, .int .i64 q1, .int .i64 q2, .int .i64 q3, .int .i64 q4, .int .i64 q5, .int .i64 u, .int .i64 v], .pointer (some ⟨bp, 0, none⟩), .pointer (some ⟨br, 0, none⟩)] w _
  go_enter Try.func84, Try.ntmps84
  have H := HS.start NoD w
  go_wp2_with fail
  generalize hwb : w.alloc _ = w1
  replace H := HS.eqW hwb H.alloc
  try simp only [World.size_alloc, List.nil_append, List.cons_append, List.append_assoc] at H
  clear hwb
  generalize w.heap.size = bT at H ⊢
  try clear C
  have C := H.cells
  try simp only [cellsOf, apartOf, and_true] at C
  skip
  cases hb : decide (q0 = p0 ∧ q1 = p1 ∧ q2 = p2 ∧ q3 = p3 ∧ q4 = 0 ∧ q5 = 0) with
  | true =>
    rw [hb] at HQ HV
    have hq := HQ.out
    clear hb
    refine wp_region_xH (by kernel_rfl) (by kernel_rfl) (by kernel_rfl) (by kernel_rfl) (fun _ => False) (H) ?_
    clear H; intro w2 H hz0 hs0
    try clear C
    try simp only [World.size_alloc, List.nil_append, List.cons_append, List.append_assoc] at H hz0
    clear hz0
    try clear w1
    have C := H.cells
    try simp only [cellsOf, apartOf, and_true] at C
    have Z := H.zs
    try simp only [ltsOf, and_true] at Z
    have hz0 := Nat.le_refl w2.heap.size
    have kp : ∀ o, w2.cell? ⟨bp, o, none⟩ = (#[.int .i64 p0, .int .i64 p1, .int .i64 p2, .int .i64 p3, .int .i64 p4, .int .i64 p5] : Array Value)[o]? := (Blk.below HP.out H.done).cell
    have lp : bp < w2.heap.size := Blk.lt (Blk.below HP.out H.done)
    have kr : w2.cell? ⟨br, 0, none⟩ = some (.int .i64 row) := by simpa using (Blk.below HRW.out H.done).cell 0
    have lr : br < w2.heap.size := Blk.lt (Blk.below HRW.out H.done)
    repeat (first | (refine wpX_skip rfl ?_; go_simp) | (refine wpX_free rfl rfl rfl (fun K hK => ?_); go_step; refine hK _ _ ?_; clear hK K) | (refine wpX_load rfl rfl rfl (by simp [Stay, OneD, NoD, *]) hs0 (by simp [*]) (fun K hK => ?_); go_step; refine hK _ _ ?_; clear hK K))
    refine wpX_eff rfl rfl (fun _ _ => ?_)
    go_step
    refine (HBK.out _).mono ?_
    rintro _ w3 ⟨rfl, hb⟩
    replace hs0 := hs0.belowS hz0 hb
    replace hz0 := Nat.le_trans hz0 hb.size
    replace H := H.below hb
    clear hb
    try clear C
    have C := H.cells
    try simp only [cellsOf, apartOf, and_true] at C
    try clear w2
    dsimp only
    go_step
    refine ⟨hs0, ?_⟩
    have kp : ∀ o, w3.cell? ⟨bp, o, none⟩ = (#[.int .i64 p0, .int .i64 p1, .int .i64 p2, .int .i64 p3, .int .i64 p4, .int .i64 p5] : Array Value)[o]? := (Blk.below HP.out H.done).cell
    have lp : bp < w3.heap.size := Blk.lt (Blk.below HP.out H.done)
    have kr : w3.cell? ⟨br, 0, none⟩ = some (.int .i64 row) := by simpa using (Blk.below HRW.out H.done).cell 0
    have lr : br < w3.heap.size := Blk.lt (Blk.below HRW.out H.done)
    repeat (first | (refine wpX_skip rfl ?_; go_simp) | (refine wpX_free rfl rfl rfl (fun K hK => ?_); go_step; refine hK _ _ ?_; clear hK K) | (refine wpX_load rfl rfl rfl (by simp [Stay, OneD, NoD, *]) hs0 (by simp [*]) (fun K hK => ?_); go_step; refine hK _ _ ?_; clear hK K))
    (refine wpX_yield rfl rfl ((.bool true)) (fun w hw => by go_simp) ?_; go_simp)
    repeat (first | (refine wpX_skip rfl ?_; go_simp) | (refine wpX_free rfl rfl rfl (fun K hK => ?_); go_step; refine hK _ _ ?_; clear hK K) | (refine wpX_load rfl rfl rfl (by simp [Stay, OneD, NoD, *]) hs0 (by simp [*]) (fun K hK => ?_); go_step; refine hK _ _ ?_; clear hK K))
    (refine wpX_nil ?_; go_step)
    go_wp2_with fail
    go_ret
    exact ⟨by rw [HV.out]; rfl, H.done⟩
  | false =>
    rw [hb] at HQ HV
    have hq := HQ.out
    clear hb
    skip
    refine wp_region_xH (by kernel_rfl) (by kernel_rfl) (by kernel_rfl) (by kernel_rfl) (fun _ => False) (H) ?_
    clear H; intro w4 H hz0 hs0
    try clear C
    try simp only [World.size_alloc, List.nil_append, List.cons_append, List.append_assoc] at H hz0
    clear hz0
    try clear w1
    have C := H.cells
    try simp only [cellsOf, apartOf, and_true] at C
    have Z := H.zs
    try simp only [ltsOf, and_true] at Z
    have hz0 := Nat.le_refl w4.heap.size
    have kp : ∀ o, w4.cell? ⟨bp, o, none⟩ = (#[.int .i64 p0, .int .i64 p1, .int .i64 p2, .int .i64 p3, .int .i64 p4, .int .i64 p5] : Array Value)[o]? := (Blk.below HP.out H.done).cell
    have lp : bp < w4.heap.size := Blk.lt (Blk.below HP.out H.done)
    have kr : w4.cell? ⟨br, 0, none⟩ = some (.int .i64 row) := by simpa using (Blk.below HRW.out H.done).cell 0
    have lr : br < w4.heap.size := Blk.lt (Blk.below HRW.out H.done)
    repeat (first | (refine wpX_skip rfl ?_; go_simp) | (refine wpX_free rfl rfl rfl (fun K hK => ?_); go_step; refine hK _ _ ?_; clear hK K) | (refine wpX_load rfl rfl rfl (by simp [Stay, OneD, NoD, *]) hs0 (by simp [*]) (fun K hK => ?_); go_step; refine hK _ _ ?_; clear hK K))
    refine wpX_eff rfl rfl (fun _ _ => ?_)
    go_step
    refine (HBK.out _).mono ?_
    rintro _ w5 ⟨rfl, hb⟩
    replace hs0 := hs0.belowS hz0 hb
    replace hz0 := Nat.le_trans hz0 hb.size
    replace H := H.below hb
    clear hb
    try clear C
    have C := H.cells
    try simp only [cellsOf, apartOf, and_true] at C
    try clear w4
    dsimp only
    go_step
    refine ⟨hs0, ?_⟩
    have kp : ∀ o, w5.cell? ⟨bp, o, none⟩ = (#[.int .i64 p0, .int .i64 p1, .int .i64 p2, .int .i64 p3, .int .i64 p4, .int .i64 p5] : Array Value)[o]? := (Blk.below HP.out H.done).cell
    have lp : bp < w5.heap.size := Blk.lt (Blk.below HP.out H.done)
    have kr : w5.cell? ⟨br, 0, none⟩ = some (.int .i64 row) := by simpa using (Blk.below HRW.out H.done).cell 0
    have lr : br < w5.heap.size := Blk.lt (Blk.below HRW.out H.done)
    repeat (first | (refine wpX_skip rfl ?_; go_simp) | (refine wpX_free rfl rfl rfl (fun K hK => ?_); go_step; refine hK _ _ ?_; clear hK K) | (refine wpX_load rfl rfl rfl (by simp [Stay, OneD, NoD, *]) hs0 (by simp [*]) (fun K hK => ?_); go_step; refine hK _ _ ?_; clear hK K))
    (refine wpX_yield rfl rfl ((.bool false)) (fun w hw => by go_simp) ?_; go_simp)
    repeat (first | (refine wpX_skip rfl ?_; go_simp) | (refine wpX_free rfl rfl rfl (fun K hK => ?_); go_step; refine hK _ _ ?_; clear hK K) | (refine wpX_load rfl rfl rfl (by simp [Stay, OneD, NoD, *]) hs0 (by simp [*]) (fun K hK => ?_); go_step; refine hK _ _ ?_; clear hK K))
    (refine wpX_nil ?_; go_step)
    go_wp2_with fail
    go_ret
    exact ⟨by rw [HV.out]; rfl, H.done⟩
set_option maxHeartbeats 2000000 in
theorem swap1_of (t : S8) (p0 p1 p2 p3 p4 p5 : Int) (bp : Nat) (w : World) (hp : Blk w bp #[.int .i64 p0, .int .i64 p1, .int .i64 p2, .int .i64 p3, .int .i64 p4, .int .i64 p5] 28) :
    Calls Try.prog 61 #[.agg (sC t).toArray, .pointer (some ⟨bp, 0, none⟩)] w (Gives (.bool (holdsR p0 p1 p2 p3 p4 t)) w) := by
  obtain ⟨q0, q1, q2, q3, q4, q5, u, v⟩ := t
  have HP := Lib.hid hp
  clear hp
  have HBK := Lib.hid (fun w => sbank_of p0 p1 p2 p3 p4 p5 w)
  have hv : holdsR p0 p1 p2 p3 p4 ⟨q0, q1, q2, q3, q4, q5, u, v⟩ = (decide (q0 = p0 ∧ q1 = p1 ∧ q2 = p2 ∧ q3 = p3 ∧ q4 = 0 ∧ q5 = 0) && decide (u = p4)) := rfl
  have HV := Lib.hid hv
  clear hv
  have HQ := Lib.hid (fun w => eql6 q0 q1 q2 q3 q4 q5 p0 p1 p2 p3 0 0 w)
  show Calls Try.prog 61 #[.agg #[.int .i64 q0, .int .i64 q1, .int .i64 q2, .int .i64 q3, .int .i64 q4, .int .i64 q5, .int .i64 u, .int .i64 v], .pointer (some ⟨bp, 0, none⟩)] w _
  go_enter Try.func61, Try.ntmps61
  have H := HS.start NoD w
  go_wp2_with fail
  generalize hwb : w.alloc _ = w1
  replace H := HS.eqW hwb H.alloc
  try simp only [World.size_alloc, List.nil_append, List.cons_append, List.append_assoc] at H
  clear hwb
  generalize w.heap.size = bT at H ⊢
  try clear C
  have C := H.cells
  try simp only [cellsOf, apartOf, and_true] at C
  skip
  cases hb : decide (q0 = p0 ∧ q1 = p1 ∧ q2 = p2 ∧ q3 = p3 ∧ q4 = 0 ∧ q5 = 0) with
  | true =>
    rw [hb] at HQ HV
    have hq := HQ.out
    clear hb
    refine wp_region_xH (by kernel_rfl) (by kernel_rfl) (by kernel_rfl) (by kernel_rfl) (fun _ => False) (H) ?_
    clear H; intro w2 H hz0 hs0
    try clear C
    try simp only [World.size_alloc, List.nil_append, List.cons_append, List.append_assoc] at H hz0
    clear hz0
    try clear w1
    have C := H.cells
    try simp only [cellsOf, apartOf, and_true] at C
    have Z := H.zs
    try simp only [ltsOf, and_true] at Z
    have hz0 := Nat.le_refl w2.heap.size
    have kp : ∀ o, w2.cell? ⟨bp, o, none⟩ = (#[.int .i64 p0, .int .i64 p1, .int .i64 p2, .int .i64 p3, .int .i64 p4, .int .i64 p5] : Array Value)[o]? := (Blk.below HP.out H.done).cell
    have lp : bp < w2.heap.size := Blk.lt (Blk.below HP.out H.done)
    repeat (first | (refine wpX_skip rfl ?_; go_simp) | (refine wpX_free rfl rfl rfl (fun K hK => ?_); go_step; refine hK _ _ ?_; clear hK K) | (refine wpX_load rfl rfl rfl (by simp [Stay, OneD, NoD, *]) hs0 (by simp [*]) (fun K hK => ?_); go_step; refine hK _ _ ?_; clear hK K))
    refine wpX_eff rfl rfl (fun _ _ => ?_)
    go_step
    refine (HBK.out _).mono ?_
    rintro _ w3 ⟨rfl, hb⟩
    replace hs0 := hs0.belowS hz0 hb
    replace hz0 := Nat.le_trans hz0 hb.size
    replace H := H.below hb
    clear hb
    try clear C
    have C := H.cells
    try simp only [cellsOf, apartOf, and_true] at C
    try clear w2
    dsimp only
    go_step
    refine ⟨hs0, ?_⟩
    have kp : ∀ o, w3.cell? ⟨bp, o, none⟩ = (#[.int .i64 p0, .int .i64 p1, .int .i64 p2, .int .i64 p3, .int .i64 p4, .int .i64 p5] : Array Value)[o]? := (Blk.below HP.out H.done).cell
    have lp : bp < w3.heap.size := Blk.lt (Blk.below HP.out H.done)
    repeat (first | (refine wpX_skip rfl ?_; go_simp) | (refine wpX_free rfl rfl rfl (fun K hK => ?_); go_step; refine hK _ _ ?_; clear hK K) | (refine wpX_load rfl rfl rfl (by simp [Stay, OneD, NoD, *]) hs0 (by simp [*]) (fun K hK => ?_); go_step; refine hK _ _ ?_; clear hK K))
    (refine wpX_yield rfl rfl ((.bool true)) (fun w hw => by go_simp) ?_; go_simp)
    repeat (first | (refine wpX_skip rfl ?_; go_simp) | (refine wpX_free rfl rfl rfl (fun K hK => ?_); go_step; refine hK _ _ ?_; clear hK K) | (refine wpX_load rfl rfl rfl (by simp [Stay, OneD, NoD, *]) hs0 (by simp [*]) (fun K hK => ?_); go_step; refine hK _ _ ?_; clear hK K))
    (refine wpX_nil ?_; go_step)
    go_wp2_with fail
    go_ret
    exact ⟨by rw [HV.out]; rfl, H.done⟩
  | false =>
    rw [hb] at HQ HV
    have hq := HQ.out
    clear hb
    skip
    refine wp_region_xH (by kernel_rfl) (by kernel_rfl) (by kernel_rfl) (by kernel_rfl) (fun _ => False) (H) ?_
    clear H; intro w4 H hz0 hs0
    try clear C
    try simp only [World.size_alloc, List.nil_append, List.cons_append, List.append_assoc] at H hz0
    clear hz0
    try clear w1
    have C := H.cells
    try simp only [cellsOf, apartOf, and_true] at C
    have Z := H.zs
    try simp only [ltsOf, and_true] at Z
    have hz0 := Nat.le_refl w4.heap.size
    have kp : ∀ o, w4.cell? ⟨bp, o, none⟩ = (#[.int .i64 p0, .int .i64 p1, .int .i64 p2, .int .i64 p3, .int .i64 p4, .int .i64 p5] : Array Value)[o]? := (Blk.below HP.out H.done).cell
    have lp : bp < w4.heap.size := Blk.lt (Blk.below HP.out H.done)
    repeat (first | (refine wpX_skip rfl ?_; go_simp) | (refine wpX_free rfl rfl rfl (fun K hK => ?_); go_step; refine hK _ _ ?_; clear hK K) | (refine wpX_load rfl rfl rfl (by simp [Stay, OneD, NoD, *]) hs0 (by simp [*]) (fun K hK => ?_); go_step; refine hK _ _ ?_; clear hK K))
    refine wpX_eff rfl rfl (fun _ _ => ?_)
    go_step
    refine (HBK.out _).mono ?_
    rintro _ w5 ⟨rfl, hb⟩
    replace hs0 := hs0.belowS hz0 hb
    replace hz0 := Nat.le_trans hz0 hb.size
    replace H := H.below hb
    clear hb
    try clear C
    have C := H.cells
    try simp only [cellsOf, apartOf, and_true] at C
    try clear w4
    dsimp only
    go_step
    refine ⟨hs0, ?_⟩
    have kp : ∀ o, w5.cell? ⟨bp, o, none⟩ = (#[.int .i64 p0, .int .i64 p1, .int .i64 p2, .int .i64 p3, .int .i64 p4, .int .i64 p5] : Array Value)[o]? := (Blk.below HP.out H.done).cell
    have lp : bp < w5.heap.size := Blk.lt (Blk.below HP.out H.done)
    repeat (first | (refine wpX_skip rfl ?_; go_simp) | (refine wpX_free rfl rfl rfl (fun K hK => ?_); go_step; refine hK _ _ ?_; clear hK K) | (refine wpX_load rfl rfl rfl (by simp [Stay, OneD, NoD, *]) hs0 (by simp [*]) (fun K hK => ?_); go_step; refine hK _ _ ?_; clear hK K))
    (refine wpX_yield rfl rfl ((.bool false)) (fun w hw => by go_simp) ?_; go_simp)
    repeat (first | (refine wpX_skip rfl ?_; go_simp) | (refine wpX_free rfl rfl rfl (fun K hK => ?_); go_step; refine hK _ _ ?_; clear hK K) | (refine wpX_load rfl rfl rfl (by simp [Stay, OneD, NoD, *]) hs0 (by simp [*]) (fun K hK => ?_); go_step; refine hK _ _ ?_; clear hK K))
    (refine wpX_nil ?_; go_step)
    go_wp2_with fail
    go_ret
    exact ⟨by rw [HV.out]; rfl, H.done⟩
theorem infoI2 : (Try.prog.info? 3).map (fun i => (i.zero, i.size, i.bytes)) = some (some (.int .i64 0), 1, 8) := by kernel_rfl
theorem elemI2 : Elem Try.prog 27 3 (.int .i64 0) 1 8 := Elem.mk' Try.underlying27 infoI2 rfl (by decide)
/-- The first k spare rows of a bank that are in no swap. -/
def freeK (lo p0 p1 p2 p3 : Int) (xs : List S8) (k : Nat) : List Int := ((List.range k).map fun (j : Nat) => lo + (j : Int)).filter fun r => !(xs.any (holdsS p0 p1 p2 p3 r))
theorem freeK_succ (lo p0 p1 p2 p3 : Int) (xs : List S8) (k : Nat) : freeK lo p0 p1 p2 p3 xs (k + 1) = freeK lo p0 p1 p2 p3 xs k ++ if xs.any (holdsS p0 p1 p2 p3 (lo + k)) then [] else [lo + k] := by
  unfold freeK
  rw [List.range_succ, List.map_append, List.filter_append]
  cases h : xs.any (holdsS p0 p1 p2 p3 (lo + k)) <;> simp [h]
theorem freeK_len (lo p0 p1 p2 p3 : Int) (xs : List S8) (k : Nat) : (freeK lo p0 p1 p2 p3 xs k).length ≤ k := by
  unfold freeK
  refine Nat.le_trans (List.length_filter_le _ _) (by simp)
end Go.Proofs.Ytcacgmfihhpliaa
