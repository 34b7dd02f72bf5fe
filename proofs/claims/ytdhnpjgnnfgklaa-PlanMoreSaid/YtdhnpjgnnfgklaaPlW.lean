/- Plan (chapter 39): plan.Fits of a plan of rows that fits. -/
import Derived.Test.YtdhnpjgnnfgklaaPlT
namespace Go.Proofs.Ytdhnpjgnnfgklaa
set_option linter.unusedSimpArgs false
set_option linter.unusedVariables false
open Go.RowKit
set_option maxRecDepth 100000
attribute [local irreducible] wpX wpF Calls
attribute [local go_sem] run_mkMapG

theorem atR_take {l : List Nd} {rows : List Int} {i m : Nat} (hi : i < rows.length) (hm : rows[i]! = (m : Int)) : (rows.take (i + 1)).map (fun r => l[r.toNat]!.p) = (rows.take i).map (fun r => l[r.toNat]!.p) ++ [l[m]!.p] := by
  rw [List.take_add_one, List.getElem?_eq_getElem hi, List.map_append]
  rw [getElem!_pos rows i hi] at hm
  rw [hm]; simp
set_option maxHeartbeats 32000000 in
theorem pfits_rows (a0 a1 a2 a3 a4 a5 : Int) {sa : Option Addr} (c : Nat) {l : List Nd} (hv : validN ⟨a0, a1, a2, a3, a4, a5⟩ l) (hcap : l.length ≤ c) (a b : Int) (hfa : 0 ≤ a ∧ a ≤ 12) (hfb : 0 ≤ b ∧ b ≤ 12) {sr sk : Option Addr} (cr ck : Nat) {rows : List Int} (x : Int) (hrl : rows.length ≤ 12)
    (hr : ∀ i, i < rows.length → 0 ≤ rows[i]! ∧ rows[i]! < l.length) (hm : ∀ i, i + 1 < rows.length → rows[i]! < rows[i + 1]!) (hc : crowdP bankP (rows.map fun r => l[r.toNat]!.p) a = false) (hx : x = worthP l rows []) (w : World) (hl : Lies w w.heap.size sa 7 l.length (fun j => ndC l[j]!)) (hlr : Lies w w.heap.size sr 1 rows.length (fun j => iC rows[j]!)) :
    Calls Try.prog 22 #[v6 a0 a1 a2 a3 a4 a5, .slice sa l.length c, .int .i64 a, .int .i64 b, .agg #[.slice sr rows.length cr, .slice sk 0 ck, .int .i64 x]] w (Gives (.bool true) w) := by
  have hvd := decide_eq_true hv
  have hfad := decide_eq_true hfa
  have hfbd := decide_eq_true hfb
  have hl12 : l.length ≤ 12 := hv.2.1
  have HOK := Lib.hid hv.loss
  have HR := Lib.hid hr
  have HM := Lib.hid hm
  have HC := Lib.hid hc
  have HWX := Lib.hid hx
  clear hv hfa hfb hr hm hc hx
  have HL := Lib.hid hl
  have HLR := Lib.hid hlr
  clear hl hlr
  go_enter Try.func22, Try.ntmps22
  have H := HS.start NoD w
  have HVA := Lib.hid (fun wx hx9 => pvalid_any a0 a1 a2 a3 a4 a5 (sa := sa) c (by omega) hcap wx hx9)
  go_upto_region 1 with fail
  generalize hwb : (w.alloc _).alloc _ = w1
  replace H := HS.eqW hwb H.alloc.alloc
  try simp only [World.size_alloc, List.nil_append, List.cons_append, List.append_assoc] at H
  clear hwb
  generalize w.heap.size + 1 = bP at H ⊢
  generalize w.heap.size = bS at H ⊢
  try clear C
  have C := H.cells
  try simp only [cellsOf, cellsM, apartOf, apartM, and_true] at C
  go_wp2_with fail
  refine (HVA.out _ (H.liesUp HL.out)).mono ?_
  rintro _ w5 ⟨rfl, hb⟩
  replace H := H.below hb
  clear hb HVA
  rw [hvd]
  clear hvd
  skip
  try clear C
  try simp only [World.size_alloc, List.nil_append, List.cons_append, List.append_assoc] at H
  have C := H.cells
  try simp only [cellsOf, cellsM, apartOf, apartM, and_true] at C
  dsimp only
  go_wp2_with fail
  refine (few_any a _).mono ?_
  rintro _ w6 ⟨rfl, hb⟩
  replace H := H.below hb
  clear hb
  rw [hfad]
  skip
  try clear C
  try simp only [World.size_alloc, List.nil_append, List.cons_append, List.append_assoc] at H
  have C := H.cells
  try simp only [cellsOf, cellsM, apartOf, apartM, and_true] at C
  dsimp only
  go_wp2_with fail
  refine (few_any b _).mono ?_
  rintro _ w7 ⟨rfl, hb⟩
  replace H := H.below hb
  clear hb
  rw [hfbd]
  skip
  try clear C
  try simp only [World.size_alloc, List.nil_append, List.cons_append, List.append_assoc] at H
  have C := H.cells
  try simp only [cellsOf, cellsM, apartOf, apartM, and_true] at C
  dsimp only
  clear hfad hfbd
  have hnr := H.nilRow 39 6
  clear H
  have H := hnr
  clear hnr
  try simp only [List.nil_append, List.cons_append] at H
  try clear C
  try simp only [World.size_alloc, List.nil_append, List.cons_append, List.append_assoc] at H
  have C := H.cells
  try simp only [cellsOf, cellsM, apartOf, apartM, and_true] at C
  go_wp2_with fail
  go_loopw [11, 33] (fun u jj wr => ∃ (i : Nat) (xs : List P6), jj = .int .i64 i ∧ i ≤ rows.length ∧ Hid (xs = (rows.take i).map fun r => l[r.toNat]!.p) ∧ HS NoD w [.blk bS #[.int .i64 a0, .int .i64 a1, .int .i64 a2, .int .i64 a3, .int .i64 a4, .int .i64 a5] 28, .blk bP #[.slice sr rows.length cr, .slice sk 0 ck, .int .i64 x] 35, .row u 39 6 xs.length (xs.flatMap pC)] wr) (fun _ jj _ => rows.length - (intOf jj).toNat)
  case atStart => exact ⟨0, [], rfl, Nat.zero_le _, (show Hid _ from rfl), H⟩
  case round =>
    clear H C
    obtain ⟨i, xs, rfl, hi, HX, H⟩ := hrel
    skip
    try clear C
    try simp only [World.size_alloc, List.nil_append, List.cons_append, List.append_assoc] at H
    have C := H.cells
    try simp only [cellsOf, cellsM, apartOf, apartM, and_true] at C
    by_cases hlt : i < rows.length
    · have hii : (i : Int) < rows.length := by omega
      have hxl : xs.length ≤ 12 := by rw [HX.out, List.length_map, List.length_take]; omega
      obtain ⟨m, hm⟩ : ∃ m : Nat, rows[i]! = (m : Int) := ⟨(rows[i]!).toNat, by have := (HR.out i hlt).1; omega⟩
      have hml : m < l.length := by have := (HR.out i hlt).2; omega
      have hmi : (m : Int) < l.length := by omega
      have hmc : (m : Int) ≤ c := by omega
      obtain ⟨b3, o3, rfl, hb3, hc3⟩ := (H.lies HLR.out).at hlt
      rw [hm] at hc3
      have g0 : wr.cell? ⟨b3, o3 + i * 1, none⟩ = some (.int .i64 m) := hc3 0 _ rfl
      rw [show o3 + i * 1 = o3 + i by omega] at g0
      clear hc3 hb3
      have HTK := Lib.hid (atR_take (l := l) hlt hm)
      have HMR := Lib.hid hm
      clear hm
      obtain ⟨b, o, rfl, hb, hc⟩ := (H.lies HL.out).at hml
      obtain ⟨q, hq⟩ : ∃ q, q = l[m]! := ⟨_, rfl⟩
      rw [← hq] at hc
      have HQ := Lib.hid hq
      clear hq
      rw [← HQ.out] at HTK
      have HRP := Lib.hid (fun W => prank_any q.p W)
      obtain ⟨⟨p0, p1, p2, p3, p4, p5⟩, pl⟩ := q
      have c0 : wr.cell? ⟨b, o + m * 7, none⟩ = some (.int .i64 p0) := hc 0 _ rfl
      have c1 : wr.cell? ⟨b, o + m * 7 + 1, none⟩ = some (.int .i64 p1) := hc 1 _ rfl
      have c2 : wr.cell? ⟨b, o + m * 7 + 2, none⟩ = some (.int .i64 p2) := hc 2 _ rfl
      have c3 : wr.cell? ⟨b, o + m * 7 + 3, none⟩ = some (.int .i64 p3) := hc 3 _ rfl
      have c4 : wr.cell? ⟨b, o + m * 7 + 4, none⟩ = some (.int .i64 p4) := hc 4 _ rfl
      have c5 : wr.cell? ⟨b, o + m * 7 + 5, none⟩ = some (.int .i64 p5) := hc 5 _ rfl
      have c6 : wr.cell? ⟨b, o + m * 7 + 6, none⟩ = some (.int .i64 pl) := hc 6 _ rfl
      clear hc hb
      dsimp only at HRP HTK
      clear c0 c1 c2 c3 c4 c5 c6
      generalize rankP ⟨p0, p1, p2, p3, p4, p5⟩ = y at HRP
      replace HRP := Lib.hid (show ∀ W, Calls Try.prog 25 #[v6 p0 p1 p2 p3 p4 p5] W (Gives (v6 y.a y.b y.c y.d y.e y.f) W) from HRP.out)
      have HCO := Lib.hid (fun W => (show Calls Try.prog 46 #[.slice sk 0 ck, v6 y.a y.b y.c y.d y.e y.f] W (Gives (.bool false) W) from by
        have h := hasPl y (sa := sk) ck (fs := []) (by simp) W Lies.nil0
        rw [decide_eq_false (List.not_mem_nil)] at h
        exact h))
      have hm0d : decide ((m : Int) < 0) = false := decide_eq_false (by omega)
      have hmLd : decide (l.length ≤ m) = false := decide_eq_false (by omega)
      go_upto_region 7 with fail
      clear g0
      cases i with
      | zero =>
        refine wp_region_xH (by kernel_rfl) (by kernel_rfl) (by kernel_rfl) (by kernel_rfl) (fun _ => False) (H) ?_
        clear H; intro w2 H hz0 hs0
        try clear C
        try simp only [World.size_alloc, List.nil_append, List.cons_append, List.append_assoc] at H hz0
        clear hz0
        try clear wr
        have C := H.cells
        try simp only [cellsOf, cellsM, apartOf, apartM, and_true] at C
        have Z := H.zs
        try simp only [ltsOf, ltsM, and_true] at Z
        have hz0 := Nat.le_refl w2.heap.size
        obtain ⟨b8, o8, e8, hb8, hc8⟩ := (H.lies HL.out).at hml
        cases e8
        rw [← HQ.out] at hc8
        have d0 : w2.cell? ⟨b, o + m * 7, none⟩ = some (.int .i64 p0) := hc8 0 _ rfl
        have d1 : w2.cell? ⟨b, o + m * 7 + 1, none⟩ = some (.int .i64 p1) := hc8 1 _ rfl
        have d2 : w2.cell? ⟨b, o + m * 7 + 2, none⟩ = some (.int .i64 p2) := hc8 2 _ rfl
        have d3 : w2.cell? ⟨b, o + m * 7 + 3, none⟩ = some (.int .i64 p3) := hc8 3 _ rfl
        have d4 : w2.cell? ⟨b, o + m * 7 + 4, none⟩ = some (.int .i64 p4) := hc8 4 _ rfl
        have d5 : w2.cell? ⟨b, o + m * 7 + 5, none⟩ = some (.int .i64 p5) := hc8 5 _ rfl
        have hz8 : b < w2.heap.size := by first | exact hb8 | exact Nat.lt_of_lt_of_le hb8 H.size
        clear hc8
        repeat (first | (refine wpX_skip rfl ?_; go_simp) | (refine wpX_free rfl rfl rfl (fun K hK => ?_); go_step; refine hK _ _ ?_; clear hK K) | (refine wpX_load rfl rfl rfl (by simp [Stay, OneD, NoD, *]) hs0 (by simp [*]) (fun K hK => ?_); go_step; refine hK _ _ ?_; clear hK K))
        refine wpX_eff rfl rfl (fun _ _ => ?_)
        go_step
        refine (HRP.out _).mono ?_
        rintro _ w3 ⟨rfl, hb⟩
        replace hs0 := hs0.belowS hz0 hb
        replace hz0 := Nat.le_trans hz0 hb.size
        replace H := H.below hb
        clear hb
        try clear C
        have C := H.cells
        try simp only [cellsOf, cellsM, apartOf, apartM, and_true] at C
        try clear w2
        dsimp only
        go_step
        refine ⟨hs0, ?_⟩
        repeat (first | (refine wpX_skip rfl ?_; go_simp) | (refine wpX_free rfl rfl rfl (fun K hK => ?_); go_step; refine hK _ _ ?_; clear hK K) | (refine wpX_load rfl rfl rfl (by simp [Stay, OneD, NoD, *]) hs0 (by simp [*]) (fun K hK => ?_); go_step; refine hK _ _ ?_; clear hK K))
        refine wpX_eff rfl rfl (fun _ _ => ?_)
        go_step
        refine (HCO.out _).mono ?_
        rintro _ w4 ⟨rfl, hb⟩
        replace hs0 := hs0.belowS hz0 hb
        replace hz0 := Nat.le_trans hz0 hb.size
        replace H := H.below hb
        clear hb
        try clear C
        have C := H.cells
        try simp only [cellsOf, cellsM, apartOf, apartM, and_true] at C
        try clear w3
        dsimp only
        go_step
        refine ⟨hs0, ?_⟩
        repeat (first | (refine wpX_skip rfl ?_; go_simp) | (refine wpX_free rfl rfl rfl (fun K hK => ?_); go_step; refine hK _ _ ?_; clear hK K) | (refine wpX_load rfl rfl rfl (by simp [Stay, OneD, NoD, *]) hs0 (by simp [*]) (fun K hK => ?_); go_step; refine hK _ _ ?_; clear hK K))
        (refine wpX_nil ?_; go_step)
        clear d0 d1 d2 d3 d4 d5 hz8
        obtain ⟨b8, o8, e8, hb8, hc8⟩ := (H.lies HL.out).at hml
        cases e8
        rw [← HQ.out] at hc8
        have d0 : w4.cell? ⟨b, o + m * 7, none⟩ = some (.int .i64 p0) := hc8 0 _ rfl
        have d1 : w4.cell? ⟨b, o + m * 7 + 1, none⟩ = some (.int .i64 p1) := hc8 1 _ rfl
        have d2 : w4.cell? ⟨b, o + m * 7 + 2, none⟩ = some (.int .i64 p2) := hc8 2 _ rfl
        have d3 : w4.cell? ⟨b, o + m * 7 + 3, none⟩ = some (.int .i64 p3) := hc8 3 _ rfl
        have d4 : w4.cell? ⟨b, o + m * 7 + 4, none⟩ = some (.int .i64 p4) := hc8 4 _ rfl
        have d5 : w4.cell? ⟨b, o + m * 7 + 5, none⟩ = some (.int .i64 p5) := hc8 5 _ rfl
        clear hc8 hb8
        go_wp2_with (at_builtin; refine wpList_append_H rfl (.tmp 71) (.tmp 77) 33 rfl elemPl H.alloc 2 rfl rfl 3 rfl rfl rfl rfl (by decide) (by unfold maxLen; omega) (by omega) (fun g cap wz HZ9 => ?_); clear H C)
        go_roundw
        case rel =>
          refine ⟨0 + 1, xs ++ [⟨p0, p1, p2, p3, p4, p5⟩], by go_num, by omega, (show Hid _ from by rw [HTK.out, HX.out]; rfl), ?_⟩
          rw [List.length_append, List.flatMap_append]
          exact HS.less HZ9 (by repeat (first | exact .slnil | refine .cons_cons _ ?_ | refine .cons _ ?_))
        case measure => simp [intOf]; omega
      | succ i =>
        have hlt9 : i < rows.length := by omega
        have hi9 : (i : Int) < rows.length := by omega
        obtain ⟨g9, hg9⟩ : ∃ g, g = rows[i]! := ⟨_, rfl⟩
        have hgm : g9 < (m : Int) := by rw [hg9, ← HMR.out]; exact HM.out i hlt
        have hgmd : decide ((m : Int) ≤ g9) = false := decide_eq_false (by omega)
        have h0id : decide ((0 : Int) < ((i + 1 : Nat) : Int)) = true := decide_eq_true (by omega)
        have hsubd : IntKind.i64.wrap (((i + 1 : Nat) : Int) - 1) = (i : Int) := by rw [IntWalk.i64_in _ (by omega)]; omega
        have hsubw : wrap64 (((i + 1 : Nat) : Int) - 1) = (i : Int) := by rw [IntWalk.wrap64_in _ (by omega)]; omega
        have HG9 := Lib.hid hg9
        clear hg9
        refine wp_region_xH (by kernel_rfl) (by kernel_rfl) (by kernel_rfl) (by kernel_rfl) (fun _ => False) (H) ?_
        clear H; intro w5 H hz0 hs0
        try clear C
        try simp only [World.size_alloc, List.nil_append, List.cons_append, List.append_assoc] at H hz0
        clear hz0
        try clear w4
        have C := H.cells
        try simp only [cellsOf, cellsM, apartOf, apartM, and_true] at C
        have Z := H.zs
        try simp only [ltsOf, ltsM, and_true] at Z
        have hz0 := Nat.le_refl w5.heap.size
        obtain ⟨b8, o8, e8, hb8, hc8⟩ := (H.lies HL.out).at hml
        cases e8
        rw [← HQ.out] at hc8
        have d0 : w5.cell? ⟨b, o + m * 7, none⟩ = some (.int .i64 p0) := hc8 0 _ rfl
        have d1 : w5.cell? ⟨b, o + m * 7 + 1, none⟩ = some (.int .i64 p1) := hc8 1 _ rfl
        have d2 : w5.cell? ⟨b, o + m * 7 + 2, none⟩ = some (.int .i64 p2) := hc8 2 _ rfl
        have d3 : w5.cell? ⟨b, o + m * 7 + 3, none⟩ = some (.int .i64 p3) := hc8 3 _ rfl
        have d4 : w5.cell? ⟨b, o + m * 7 + 4, none⟩ = some (.int .i64 p4) := hc8 4 _ rfl
        have d5 : w5.cell? ⟨b, o + m * 7 + 5, none⟩ = some (.int .i64 p5) := hc8 5 _ rfl
        have hz8 : b < w5.heap.size := by first | exact hb8 | exact Nat.lt_of_lt_of_le hb8 H.size
        clear hc8
        obtain ⟨b9, o9, e9, hb9, hc9⟩ := (H.lies HLR.out).at hlt9
        cases e9
        rw [← HG9.out] at hc9
        have f0 : w5.cell? ⟨b3, o3 + i * 1, none⟩ = some (.int .i64 g9) := hc9 0 _ rfl
        rw [show o3 + i * 1 = o3 + i by omega] at f0
        have hz9 : b3 < w5.heap.size := by first | exact hb9 | exact Nat.lt_of_lt_of_le hb9 H.size
        clear hc9
        repeat (first | (refine wpX_skip rfl ?_; go_simp) | (refine wpX_free rfl rfl rfl (fun K hK => ?_); go_step; refine hK _ _ ?_; clear hK K) | (refine wpX_load rfl rfl rfl (by simp [Stay, OneD, NoD, *]) hs0 (by simp [*]) (fun K hK => ?_); go_step; refine hK _ _ ?_; clear hK K))
        refine wpX_eff rfl rfl (fun _ _ => ?_)
        go_step
        refine (HRP.out _).mono ?_
        rintro _ w6 ⟨rfl, hb⟩
        replace hs0 := hs0.belowS hz0 hb
        replace hz0 := Nat.le_trans hz0 hb.size
        replace H := H.below hb
        clear hb
        try clear C
        have C := H.cells
        try simp only [cellsOf, cellsM, apartOf, apartM, and_true] at C
        try clear w5
        dsimp only
        go_step
        refine ⟨hs0, ?_⟩
        repeat (first | (refine wpX_skip rfl ?_; go_simp) | (refine wpX_free rfl rfl rfl (fun K hK => ?_); go_step; refine hK _ _ ?_; clear hK K) | (refine wpX_load rfl rfl rfl (by simp [Stay, OneD, NoD, *]) hs0 (by simp [*]) (fun K hK => ?_); go_step; refine hK _ _ ?_; clear hK K))
        refine wpX_eff rfl rfl (fun _ _ => ?_)
        go_step
        refine (HCO.out _).mono ?_
        rintro _ w7 ⟨rfl, hb⟩
        replace hs0 := hs0.belowS hz0 hb
        replace hz0 := Nat.le_trans hz0 hb.size
        replace H := H.below hb
        clear hb
        try clear C
        have C := H.cells
        try simp only [cellsOf, cellsM, apartOf, apartM, and_true] at C
        try clear w6
        dsimp only
        go_step
        refine ⟨hs0, ?_⟩
        repeat (first | (refine wpX_skip rfl ?_; go_simp) | (refine wpX_free rfl rfl rfl (fun K hK => ?_); go_step; refine hK _ _ ?_; clear hK K) | (refine wpX_load rfl rfl rfl (by simp [Stay, OneD, NoD, *]) hs0 (by simp [*]) (fun K hK => ?_); go_step; refine hK _ _ ?_; clear hK K))
        (refine wpX_nil ?_; go_step)
        clear d0 d1 d2 d3 d4 d5 hz8
        clear f0 hz9
        obtain ⟨b8, o8, e8, hb8, hc8⟩ := (H.lies HL.out).at hml
        cases e8
        rw [← HQ.out] at hc8
        have d0 : w7.cell? ⟨b, o + m * 7, none⟩ = some (.int .i64 p0) := hc8 0 _ rfl
        have d1 : w7.cell? ⟨b, o + m * 7 + 1, none⟩ = some (.int .i64 p1) := hc8 1 _ rfl
        have d2 : w7.cell? ⟨b, o + m * 7 + 2, none⟩ = some (.int .i64 p2) := hc8 2 _ rfl
        have d3 : w7.cell? ⟨b, o + m * 7 + 3, none⟩ = some (.int .i64 p3) := hc8 3 _ rfl
        have d4 : w7.cell? ⟨b, o + m * 7 + 4, none⟩ = some (.int .i64 p4) := hc8 4 _ rfl
        have d5 : w7.cell? ⟨b, o + m * 7 + 5, none⟩ = some (.int .i64 p5) := hc8 5 _ rfl
        clear hc8 hb8
        go_wp2_with (at_builtin; refine wpList_append_H rfl (.tmp 71) (.tmp 77) 33 rfl elemPl H.alloc 2 rfl rfl 3 rfl rfl rfl rfl (by decide) (by unfold maxLen; omega) (by omega) (fun g cap wz HZ9 => ?_); clear H C)
        go_roundw
        case rel =>
          refine ⟨(i + 1) + 1, xs ++ [⟨p0, p1, p2, p3, p4, p5⟩], by go_num, by omega, (show Hid _ from by rw [HTK.out, HX.out]; rfl), ?_⟩
          rw [List.length_append, List.flatMap_append]
          exact HS.less HZ9 (by repeat (first | exact .slnil | refine .cons_cons _ ?_ | refine .cons _ ?_))
        case measure => simp [intOf]; omega
    · have hin : i = rows.length := by omega
      subst hin
      have hxx := HX.out
      rw [List.take_length] at hxx
      have HXX := Lib.hid hxx
      have hxl : xs.length ≤ 12 := by rw [hxx, List.length_map]; omega
      clear hxx HX
      obtain ⟨s5, c5, rfl⟩ := ownsRow_slice (H.at 2 rfl)
      skip
      try clear C
      try simp only [World.size_alloc, List.nil_append, List.cons_append, List.append_assoc] at H
      have C := H.cells
      try simp only [cellsOf, cellsM, apartOf, apartM, and_true] at C
      go_wp2_with fail
      go_loopw [83] (fun jj wr => jj = .int .i64 0 ∧ HS NoD w [.blk bS #[.int .i64 a0, .int .i64 a1, .int .i64 a2, .int .i64 a3, .int .i64 a4, .int .i64 a5] 28, .blk bP #[.slice sr rows.length cr, .slice sk 0 ck, .int .i64 x] 35, .row (.slice s5 xs.length c5) 39 6 xs.length (xs.flatMap pC)] wr) (fun jj _ => 0)
      case atStart => exact ⟨rfl, H⟩
      case round =>
        clear H C
        obtain ⟨rfl, H⟩ := hrel
        skip
        try clear C
        try simp only [World.size_alloc, List.nil_append, List.cons_append, List.append_assoc] at H
        have C := H.cells
        try simp only [cellsOf, cellsM, apartOf, apartM, and_true] at C
        go_upto_region 17 with fail
        have HM1 := Lib.hid (fun wx h1 => (show Calls Try.prog 29 #[.slice s5 xs.length c5, .func (.func 47) #[] #[], .int .i64 a] wx (Gives (.bool false) wx) from by
          have h := many_any 47 (fun _ _ => rfl) bankP (fun p W => pbank_any p W) a (sa := s5) c5 (rs := xs) (by omega) wx h1
          rw [HXX.out, HC.out] at h
          rw [HXX.out]; exact h))
        have HM2 := Lib.hid (fun wx => (show Calls Try.prog 29 #[.slice sk 0 ck, .func (.func 30) #[] #[], .int .i64 b] wx (Gives (.bool false) wx) from
          many_any 30 (fun _ _ => rfl) chanP (fun p W => pchan_any p W) b (sa := sk) ck (rs := []) (by simp) wx Lies.nil0))
        have HWO := Lib.hid (fun wx h1 h2 => (show Calls Try.prog 32 #[.slice sa l.length c, .slice sr rows.length cr, .slice sk 0 ck] wx (Gives (.int .i64 x) wx) from by
          have h := pworth_any HOK.out (sa := sa) (sb := sr) (sc := sk) c cr ck (rows := rows) (rs := []) (by omega) (by simp) wx h1 h2 Lies.nil0
          rw [← HWX.out] at h
          exact h))
        refine wp_region_xH (by kernel_rfl) (by kernel_rfl) (by kernel_rfl) (by kernel_rfl) (fun _ => False) (H) ?_
        clear H; intro w8 H hz0 hs0
        try clear C
        try simp only [World.size_alloc, List.nil_append, List.cons_append, List.append_assoc] at H hz0
        clear hz0
        try clear wr
        have C := H.cells
        try simp only [cellsOf, cellsM, apartOf, apartM, and_true] at C
        have Z := H.zs
        try simp only [ltsOf, ltsM, and_true] at Z
        have hz0 := Nat.le_refl w8.heap.size
        repeat (first | (refine wpX_skip rfl ?_; go_simp) | (refine wpX_free rfl rfl rfl (fun K hK => ?_); go_step; refine hK _ _ ?_; clear hK K) | (refine wpX_load rfl rfl rfl (by simp [Stay, OneD, NoD, *]) hs0 (by simp [*]) (fun K hK => ?_); go_step; refine hK _ _ ?_; clear hK K))
        refine wpX_eff rfl rfl (fun _ _ => ?_)
        go_step
        refine (HM1.out _ (H.rowLies 2 pC_len rfl rfl)).mono ?_
        rintro _ w9 ⟨rfl, hb⟩
        replace hs0 := hs0.belowS hz0 hb
        replace hz0 := Nat.le_trans hz0 hb.size
        replace H := H.below hb
        clear hb
        try clear C
        have C := H.cells
        try simp only [cellsOf, cellsM, apartOf, apartM, and_true] at C
        try clear w8
        dsimp only
        go_step
        refine ⟨hs0, ?_⟩
        repeat (first | (refine wpX_skip rfl ?_; go_simp) | (refine wpX_free rfl rfl rfl (fun K hK => ?_); go_step; refine hK _ _ ?_; clear hK K) | (refine wpX_load rfl rfl rfl (by simp [Stay, OneD, NoD, *]) hs0 (by simp [*]) (fun K hK => ?_); go_step; refine hK _ _ ?_; clear hK K))
        refine wpX_eff rfl rfl (fun _ _ => ?_)
        go_step
        refine (HM2.out _).mono ?_
        rintro _ w10 ⟨rfl, hb⟩
        replace hs0 := hs0.belowS hz0 hb
        replace hz0 := Nat.le_trans hz0 hb.size
        replace H := H.below hb
        clear hb
        try clear C
        have C := H.cells
        try simp only [cellsOf, cellsM, apartOf, apartM, and_true] at C
        try clear w9
        dsimp only
        go_step
        refine ⟨hs0, ?_⟩
        repeat (first | (refine wpX_skip rfl ?_; go_simp) | (refine wpX_free rfl rfl rfl (fun K hK => ?_); go_step; refine hK _ _ ?_; clear hK K) | (refine wpX_load rfl rfl rfl (by simp [Stay, OneD, NoD, *]) hs0 (by simp [*]) (fun K hK => ?_); go_step; refine hK _ _ ?_; clear hK K))
        refine wpX_eff rfl rfl (fun _ _ => ?_)
        go_step
        refine (HWO.out _ (H.liesUp HL.out) (H.liesUp HLR.out)).mono ?_
        rintro _ w11 ⟨rfl, hb⟩
        replace hs0 := hs0.belowS hz0 hb
        replace hz0 := Nat.le_trans hz0 hb.size
        replace H := H.below hb
        clear hb
        try clear C
        have C := H.cells
        try simp only [cellsOf, cellsM, apartOf, apartM, and_true] at C
        try clear w10
        dsimp only
        go_step
        refine ⟨hs0, ?_⟩
        repeat (first | (refine wpX_skip rfl ?_; go_simp) | (refine wpX_free rfl rfl rfl (fun K hK => ?_); go_step; refine hK _ _ ?_; clear hK K) | (refine wpX_load rfl rfl rfl (by simp [Stay, OneD, NoD, *]) hs0 (by simp [*]) (fun K hK => ?_); go_step; refine hK _ _ ?_; clear hK K))
        (refine wpX_nil ?_; go_step)
        go_wp2_with fail
        go_ret
        exact ⟨rfl, H.done⟩
end Go.Proofs.Ytdhnpjgnnfgklaa
