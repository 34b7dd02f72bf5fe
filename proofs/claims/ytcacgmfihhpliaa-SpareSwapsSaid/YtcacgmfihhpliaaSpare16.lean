/- The document's answer for spares: Reserved, Turn, Same. -/
import Derived.Test.YtcacgmfihhpliaaSpare15
namespace Go.Proofs.Ytcacgmfihhpliaa
set_option linter.unusedSimpArgs false
set_option linter.unusedVariables false
open Go.RowKit
set_option maxRecDepth 100000
attribute [local go_sem] lt_more ne_more ne_more'
attribute [local irreducible] wpX wpF Calls

theorem qres_bad {a0 a1 a2 a3 a4 a5 n i q0 q1 q2 q3 q4 q5 er : Int} {xs : List S8} {c : Nat} {sa : Option Addr} (hv : ∀ w, Lies w w.heap.size sa 8 xs.length (fun j => sC xs[j]!) → Calls Try.prog 25 #[vSp a0 a1 a2 a3 a4 a5 n (.slice sa xs.length c)] w (Gives (.bool false) w))
    (ha : ∀ w, Calls Try.prog 38 #[v6 a0 a1 a2 a3 a4 a5, .int .i64 i] w (Gives (.tuple #[v6 q0 q1 q2 q3 q4 q5, .int .i64 er]) w)) (w : World) (hl : Lies w w.heap.size sa 8 xs.length (fun j => sC xs[j]!)) :
    Calls Try.prog 35 #[vSp a0 a1 a2 a3 a4 a5 n (.slice sa xs.length c), .int .i64 i] w (Gives (.bool false) w) := by
  have HL := Lib.hid hl
  have HV := Lib.hid hv
  have HA := Lib.hid ha
  clear hl hv ha
  go_enter Try.func35, Try.ntmps35
  have H := HS.start NoD w
  go_wp2_with fail
  refine (HA.out _).mono ?_
  rintro _ w1 ⟨rfl, hb⟩
  replace H := H.alloc.below hb
  clear hb
  try clear C
  try simp only [World.size_alloc, List.nil_append, List.cons_append, List.append_assoc] at H
  generalize w.heap.size = bX at H ⊢
  have C := H.cells
  try simp only [cellsOf, apartOf, and_true] at C
  dsimp only
  go_upto_region 2 with fail
  refine wp_region_xH (by kernel_rfl) (by kernel_rfl) (by kernel_rfl) (by kernel_rfl) (fun _ => False) (H.alloc) ?_
  clear H; intro w2 H hz0 hs0
  try clear C
  try simp only [World.size_alloc, List.nil_append, List.cons_append, List.append_assoc] at H hz0
  generalize w1.heap.size = bP at H hz0 ⊢
  clear hz0
  try clear w1
  have C := H.cells
  try simp only [cellsOf, apartOf, and_true] at C
  have Z := H.zs
  try simp only [ltsOf, and_true] at Z
  have hz0 := Nat.le_refl w2.heap.size
  repeat (first | (refine wpX_skip rfl ?_; go_simp) | (refine wpX_free rfl rfl rfl (fun K hK => ?_); go_step; refine hK _ _ ?_; clear hK K) | (refine wpX_load rfl rfl rfl (by simp [Stay, OneD, NoD, *]) hs0 (by simp [*]) (fun K hK => ?_); go_step; refine hK _ _ ?_; clear hK K))
  refine wpX_eff rfl rfl (fun _ _ => ?_)
  go_step
  refine (HV.out _ (H.liesUp HL.out)).mono ?_
  rintro _ w3 ⟨rfl, hb⟩
  replace hs0 := hs0.belowS hz0 hb
  replace hz0 := Nat.le_trans hz0 hb.size
  replace H := H.below hb
  clear hb
  try clear C
  have C := H.cells
  try simp only [cellsOf, apartOf, and_true] at C
  try clear w2
  dsimp only
  go_step
  refine ⟨hs0, ?_⟩
  repeat (first | (refine wpX_skip rfl ?_; go_simp) | (refine wpX_free rfl rfl rfl (fun K hK => ?_); go_step; refine hK _ _ ?_; clear hK K) | (refine wpX_load rfl rfl rfl (by simp [Stay, OneD, NoD, *]) hs0 (by simp [*]) (fun K hK => ?_); go_step; refine hK _ _ ?_; clear hK K))
  (refine wpX_nil ?_; go_step)
  go_wp2_with fail
  go_ret
  exact ⟨rfl, H.done⟩
theorem qres_out {a0 a1 a2 a3 a4 a5 n i : Int} {xs : List S8} {c : Nat} (h : SpV a0 a1 a2 a3 a4 a5 n xs c) (hi : ¬ (0 ≤ i ∧ i < 2 ^ (a0 + a1 + a2 + a3 + a4 + a5).toNat)) {sa : Option Addr} (w : World) (hl : Lies w w.heap.size sa 8 xs.length (fun j => sC xs[j]!)) :
    Calls Try.prog 35 #[vSp a0 a1 a2 a3 a4 a5 n (.slice sa xs.length c), .int .i64 i] w (Gives (.bool false) w) := by
  have HL := Lib.hid hl
  clear hl
  have HV := Lib.hid (fun w hl => h.qvalid (sa := sa) w hl)
  have HA := Lib.hid (fun w => rat_out h.sv hi w)
  clear hi
  go_enter Try.func35, Try.ntmps35
  have H := HS.start NoD w
  go_wp2_with fail
  refine (HA.out _).mono ?_
  rintro _ w1 ⟨rfl, hb⟩
  replace H := H.alloc.below hb
  clear hb
  try clear C
  try simp only [World.size_alloc, List.nil_append, List.cons_append, List.append_assoc] at H
  generalize w.heap.size = bX at H ⊢
  have C := H.cells
  try simp only [cellsOf, apartOf, and_true] at C
  dsimp only
  go_upto_region 2 with fail
  refine wp_region_xH (by kernel_rfl) (by kernel_rfl) (by kernel_rfl) (by kernel_rfl) (fun _ => False) (H.alloc) ?_
  clear H; intro w2 H hz0 hs0
  try clear C
  try simp only [World.size_alloc, List.nil_append, List.cons_append, List.append_assoc] at H hz0
  generalize w1.heap.size = bP at H hz0 ⊢
  clear hz0
  try clear w1
  have C := H.cells
  try simp only [cellsOf, apartOf, and_true] at C
  have Z := H.zs
  try simp only [ltsOf, and_true] at Z
  have hz0 := Nat.le_refl w2.heap.size
  repeat (first | (refine wpX_skip rfl ?_; go_simp) | (refine wpX_free rfl rfl rfl (fun K hK => ?_); go_step; refine hK _ _ ?_; clear hK K) | (refine wpX_load rfl rfl rfl (by simp [Stay, OneD, NoD, *]) hs0 (by simp [*]) (fun K hK => ?_); go_step; refine hK _ _ ?_; clear hK K))
  refine wpX_eff rfl rfl (fun _ _ => ?_)
  go_step
  refine (HV.out _ (H.liesUp HL.out)).mono ?_
  rintro _ w3 ⟨rfl, hb⟩
  replace hs0 := hs0.belowS hz0 hb
  replace hz0 := Nat.le_trans hz0 hb.size
  replace H := H.below hb
  clear hb
  try clear C
  have C := H.cells
  try simp only [cellsOf, apartOf, and_true] at C
  try clear w2
  dsimp only
  go_step
  refine ⟨hs0, ?_⟩
  repeat (first | (refine wpX_skip rfl ?_; go_simp) | (refine wpX_free rfl rfl rfl (fun K hK => ?_); go_step; refine hK _ _ ?_; clear hK K) | (refine wpX_load rfl rfl rfl (by simp [Stay, OneD, NoD, *]) hs0 (by simp [*]) (fun K hK => ?_); go_step; refine hK _ _ ?_; clear hK K))
  (refine wpX_nil ?_; go_step)
  go_wp2_with fail
  go_ret
  exact ⟨rfl, H.done⟩
theorem qres_of {a0 a1 a2 a3 a4 a5 n i : Int} {xs : List S8} {c : Nat} (h : SpV a0 a1 a2 a3 a4 a5 n xs c) (hi0 : 0 ≤ i) (hi1 : i < 2 ^ (a0 + a1 + a2 + a3 + a4 + a5).toNat) {sa : Option Addr} (w : World) (hl : Lies w w.heap.size sa 8 xs.length (fun j => sC xs[j]!)) :
    Calls Try.prog 35 #[vSp a0 a1 a2 a3 a4 a5 n (.slice sa xs.length c), .int .i64 i] w (Gives (.bool (decide (rwz a4 - n ≤ (atF a0 a1 a2 a3 a4 a5 i).e))) w) := by
  have HL := Lib.hid hl
  clear hl
  have HV := Lib.hid (fun w hl => h.qvalid (sa := sa) w hl)
  have HA := Lib.hid (fun w => rat_is h.sv hi0 hi1 w)
  have HRW := Lib.hid (fun w => qrows_of h.sv w)
  have hz := rwz_in h.sv
  have hn0 := h.n0
  have hq := (at_pv h.sv hi0 hi1).1.h4
  have hq2 : (2 : Int) ^ a4.toNat = rwz a4 := rfl
  rw [hq2] at hq
  generalize atF a0 a1 a2 a3 a4 a5 i = q at *
  obtain ⟨q0, q1, q2, q3, q4, q5⟩ := q
  dsimp only at hq ⊢
  generalize rwz a4 = R at *
  clear hi1 hi0 hq2
  go_enter Try.func35, Try.ntmps35
  have H := HS.start NoD w
  go_wp2_with fail
  refine (HA.out _).mono ?_
  rintro _ w1 ⟨rfl, hb⟩
  replace H := H.alloc.below hb
  clear hb
  try clear C
  try simp only [World.size_alloc, List.nil_append, List.cons_append, List.append_assoc] at H
  generalize w.heap.size = bX at H ⊢
  have C := H.cells
  try simp only [cellsOf, apartOf, and_true] at C
  dsimp only
  go_upto_region 2 with fail
  refine wp_region_xH (by kernel_rfl) (by kernel_rfl) (by kernel_rfl) (by kernel_rfl) (fun _ => False) (H.alloc) ?_
  clear H; intro w2 H hz0 hs0
  try clear C
  try simp only [World.size_alloc, List.nil_append, List.cons_append, List.append_assoc] at H hz0
  generalize w1.heap.size = bP at H hz0 ⊢
  clear hz0
  try clear w1
  have C := H.cells
  try simp only [cellsOf, apartOf, and_true] at C
  have Z := H.zs
  try simp only [ltsOf, and_true] at Z
  have hz0 := Nat.le_refl w2.heap.size
  repeat (first | (refine wpX_skip rfl ?_; go_simp) | (refine wpX_free rfl rfl rfl (fun K hK => ?_); go_step; refine hK _ _ ?_; clear hK K) | (refine wpX_load rfl rfl rfl (by simp [Stay, OneD, NoD, *]) hs0 (by simp [*]) (fun K hK => ?_); go_step; refine hK _ _ ?_; clear hK K))
  refine wpX_eff rfl rfl (fun _ _ => ?_)
  go_step
  refine (HV.out _ (H.liesUp HL.out)).mono ?_
  rintro _ w3 ⟨rfl, hb⟩
  replace hs0 := hs0.belowS hz0 hb
  replace hz0 := Nat.le_trans hz0 hb.size
  replace H := H.below hb
  clear hb
  try clear C
  have C := H.cells
  try simp only [cellsOf, apartOf, and_true] at C
  try clear w2
  dsimp only
  go_step
  refine ⟨hs0, ?_⟩
  repeat (first | (refine wpX_skip rfl ?_; go_simp) | (refine wpX_free rfl rfl rfl (fun K hK => ?_); go_step; refine hK _ _ ?_; clear hK K) | (refine wpX_load rfl rfl rfl (by simp [Stay, OneD, NoD, *]) hs0 (by simp [*]) (fun K hK => ?_); go_step; refine hK _ _ ?_; clear hK K))
  refine wpX_eff rfl rfl (fun _ _ => ?_)
  go_step
  refine (HRW.out _).mono ?_
  rintro _ w4 ⟨rfl, hb⟩
  replace hs0 := hs0.belowS hz0 hb
  replace hz0 := Nat.le_trans hz0 hb.size
  replace H := H.below hb
  clear hb
  try clear C
  have C := H.cells
  try simp only [cellsOf, apartOf, and_true] at C
  try clear w3
  dsimp only
  go_step
  refine ⟨hs0, ?_⟩
  repeat (first | (refine wpX_skip rfl ?_; go_simp) | (refine wpX_free rfl rfl rfl (fun K hK => ?_); go_step; refine hK _ _ ?_; clear hK K) | (refine wpX_load rfl rfl rfl (by simp [Stay, OneD, NoD, *]) hs0 (by simp [*]) (fun K hK => ?_); go_step; refine hK _ _ ?_; clear hK K))
  (refine wpX_nil ?_; go_step)
  go_wp2_with fail
  go_ret
  exact ⟨rfl, H.done⟩
set_option maxHeartbeats 8000000 in
theorem qturn_of {a0 a1 a2 a3 a4 a5 n i : Int} {xs : List S8} {c : Nat} (h : SpV a0 a1 a2 a3 a4 a5 n xs c) (hi0 : 0 ≤ i) (hi1 : i < 2 ^ (a0 + a1 + a2 + a3 + a4 + a5).toNat) {q : P6} (hq : q = atF a0 a1 a2 a3 a4 a5 i) (hpv : PV a0 a1 a2 a3 a4 a5 q.a q.b q.c q.d q.e q.f) {sa : Option Addr} (w : World) (hl : Lies w w.heap.size sa 8 xs.length (fun j => sC xs[j]!)) :
    Calls Try.prog 33 #[vSp a0 a1 a2 a3 a4 a5 n (.slice sa xs.length c), .int .i64 i] w (Gives (.tuple #[.int .i64 (idx a1 a2 a3 a4 a5 q.a q.b q.c q.d (turnR xs q) q.f), .int .i64 0]) w) := by
  have HL := Lib.hid hl
  clear hl
  have HV := Lib.hid (fun w hl => h.qvalid (sa := sa) w hl)
  have HA := Lib.hid (fun w => by have := rat_is h.sv hi0 hi1 w; rw [← hq] at this; exact this : ∀ w, Calls Try.prog 38 #[v6 a0 a1 a2 a3 a4 a5, .int .i64 i] w (Gives (.tuple #[v6P q, .int .i64 0]) w))
  have hidx := (at_pv h.sv hi0 hi1).2
  rw [← hq] at hidx
  obtain ⟨q0, q1, q2, q3, q4, q5⟩ := q
  dsimp only at hpv hidx ⊢
  have HPV := Lib.hid hpv
  have HIDX := Lib.hid hidx
  have HBK := Lib.hid (fun w => qbank_of q0 q1 q2 q3 q4 q5 w)
  have hlen := h.len
  have h4 : 0 ≤ q4 ∧ q4 ≤ 4096 := by have := hpv.h4; have := pw_12 (a := a4) h.sv.he.2; omega
  have hz := rwz_in h.sv
  clear hi0 hi1 hq hpv hidx
  go_enter Try.func33, Try.ntmps33
  have H := HS.start NoD w
  go_wp2_with fail
  refine (HV.out _ (H.alloc.liesUp HL.out)).mono ?_
  rintro _ w1 ⟨rfl, hb⟩
  replace H := H.alloc.below hb
  clear hb
  try clear C
  try simp only [World.size_alloc, List.nil_append, List.cons_append, List.append_assoc] at H
  generalize w.heap.size = bX at H ⊢
  have C := H.cells
  try simp only [cellsOf, apartOf, and_true] at C
  dsimp only
  go_wp2_with fail
  refine (HA.out _).mono ?_
  rintro _ w2 ⟨rfl, hb⟩
  replace H := H.below hb
  clear hb
  try clear C
  try simp only [World.size_alloc, List.nil_append, List.cons_append, List.append_assoc] at H
  try clear w1
  have C := H.cells
  try simp only [cellsOf, apartOf, and_true] at C
  dsimp only
  go_upto_region 6 with fail
  generalize hwb : w2.alloc _ = w3
  replace H := HS.eqW hwb H.alloc
  try simp only [World.size_alloc, List.nil_append, List.cons_append, List.append_assoc] at H
  clear hwb
  generalize w2.heap.size = bP at H ⊢
  try clear C
  try clear w2
  have C := H.cells
  try simp only [cellsOf, apartOf, and_true] at C
  go_wp2_with fail
  go_loopw [25] (fun cc wr => ∃ (j : Nat), cc = .int .i64 j ∧ j ≤ xs.length ∧ Hid (∀ k, k < j → hitS ⟨q0, q1, q2, q3, q4, q5⟩ xs[k]! = false) ∧ HS NoD w [.blk bX #[.int .i64 a0, .int .i64 a1, .int .i64 a2, .int .i64 a3, .int .i64 a4, .int .i64 a5, .int .i64 n, .slice sa xs.length c] 26, .blk bP #[.int .i64 q0, .int .i64 q1, .int .i64 q2, .int .i64 q3, .int .i64 q4, .int .i64 q5] 28] wr) (fun cc _ => xs.length - (intOf cc).toNat)
  case atStart => exact ⟨0, rfl, Nat.zero_le _, fun k hk => absurd hk (Nat.not_lt_zero _), H⟩
  case round =>
    clear H C w3
    obtain ⟨j, rfl, hj, HF, H⟩ := hrel
    skip
    try clear C
    try simp only [World.size_alloc, List.nil_append, List.cons_append, List.append_assoc] at H
    have C := H.cells
    try simp only [cellsOf, apartOf, and_true] at C
    by_cases hlt : j < xs.length
    · obtain ⟨b, o, rfl, hb, hc⟩ := (H.lies HL.out).at hlt
      obtain ⟨-, hok⟩ := h.ok hlt
      obtain ⟨x, hxj⟩ : ∃ x, x = xs[j]! := ⟨_, rfl⟩
      rw [← hxj] at hc hok
      have HX := Lib.hid hxj
      obtain ⟨t0, t1, t2, t3, t4, t5, r, s⟩ := x
      have c0 : wr.cell? ⟨b, o + j * 8, none⟩ = some (.int .i64 t0) := hc 0 _ rfl
      have c1 : wr.cell? ⟨b, o + j * 8 + 1, none⟩ = some (.int .i64 t1) := hc 1 _ rfl
      have c2 : wr.cell? ⟨b, o + j * 8 + 2, none⟩ = some (.int .i64 t2) := hc 2 _ rfl
      have c3 : wr.cell? ⟨b, o + j * 8 + 3, none⟩ = some (.int .i64 t3) := hc 3 _ rfl
      have c4 : wr.cell? ⟨b, o + j * 8 + 4, none⟩ = some (.int .i64 t4) := hc 4 _ rfl
      have c5 : wr.cell? ⟨b, o + j * 8 + 5, none⟩ = some (.int .i64 t5) := hc 5 _ rfl
      have c6 : wr.cell? ⟨b, o + j * 8 + 6, none⟩ = some (.int .i64 r) := hc 6 _ rfl
      have c7 : wr.cell? ⟨b, o + j * 8 + 7, none⟩ = some (.int .i64 s) := hc 7 _ rfl
      have hk := (okS_iff h.n0).1 hok
      have HOK := Lib.hid hk
      clear hc hxj hok
      have hrs : 0 ≤ r ∧ r ≤ 4096 ∧ 0 ≤ s ∧ s ≤ 4096 := by have := h.n0; omega
      clear hk
      go_upto_region 9 with fail
      clear c0 c1 c2 c3 c4 c5 c6 c7
      skip
      by_cases hbk : t0 = q0 ∧ t1 = q1 ∧ t2 = q2 ∧ t3 = q3 ∧ t4 = 0 ∧ t5 = 0
      · have hq : ∀ w, (binOp .neq 28 (v6 t0 t1 t2 t3 t4 t5) (v6 q0 q1 q2 q3 0 0)).run Try.prog w = .ok (.bool false) w := fun w => by rw [neq6, decide_eq_true hbk]; rfl
        have HBE := Lib.hid hbk
        clear hbk
        by_cases hr : r = q4
        · have ht : turnR xs ⟨q0, q1, q2, q3, q4, q5⟩ = s := by
            unfold turnR
            rw [find_at hlt HF.out (by rw [← HX.out]; unfold hitS; rw [decide_eq_true HBE.out]; simp [hr]), ← HX.out]
            dsimp only
            rw [if_pos hr]
          have HT := Lib.hid ht
          have hps : PV a0 a1 a2 a3 a4 a5 q0 q1 q2 q3 s q5 := ⟨HPV.out.h0, HPV.out.h1, HPV.out.h2, HPV.out.h3, by have := HOK.out; have := h.n0; show _ ∧ _ < rwz a4; omega, HPV.out.h5⟩
          have HI := Lib.hid (fun w => rindex_yes h.sv hps w)
          have hsum : r + s - q4 = s := by omega
          clear ht hps
          subst hr
          skip
          refine wp_region_xH (by kernel_rfl) (by kernel_rfl) (by kernel_rfl) (by kernel_rfl) (fun _ => False) (H.alloc) ?_
          clear H; intro w4 H hz0 hs0
          try clear C
          try simp only [World.size_alloc, List.nil_append, List.cons_append, List.append_assoc] at H hz0
          generalize wr.heap.size = bT at H hz0 ⊢
          clear hz0
          try clear wr
          have C := H.cells
          try simp only [cellsOf, apartOf, and_true] at C
          have Z := H.zs
          try simp only [ltsOf, and_true] at Z
          have hz0 := Nat.le_refl w4.heap.size
          repeat (first | (refine wpX_skip rfl ?_; go_simp) | (refine wpX_free rfl rfl rfl (fun K hK => ?_); go_step; refine hK _ _ ?_; clear hK K) | (refine wpX_load rfl rfl rfl (by simp [Stay, OneD, NoD, *]) hs0 (by simp [*]) (fun K hK => ?_); go_step; refine hK _ _ ?_; clear hK K))
          refine wpX_eff rfl rfl (fun _ _ => ?_)
          go_step
          refine (HBK.out _).mono ?_
          rintro _ w5 ⟨rfl, hb⟩
          replace hs0 := hs0.belowS hz0 hb
          replace hz0 := Nat.le_trans hz0 hb.size
          replace H := H.below hb
          clear hb
          try clear C
          have C := H.cells
          try simp only [cellsOf, apartOf, and_true] at C
          try clear w4
          dsimp only
          go_step
          refine ⟨hs0, ?_⟩
          repeat (first | (refine wpX_skip rfl ?_; go_simp) | (refine wpX_free rfl rfl rfl (fun K hK => ?_); go_step; refine hK _ _ ?_; clear hK K) | (refine wpX_load rfl rfl rfl (by simp [Stay, OneD, NoD, *]) hs0 (by simp [*]) (fun K hK => ?_); go_step; refine hK _ _ ?_; clear hK K))
          (refine wpX_yield rfl rfl ((.bool false)) (fun w hw => by go_simp) ?_; go_simp)
          repeat (first | (refine wpX_skip rfl ?_; go_simp) | (refine wpX_free rfl rfl rfl (fun K hK => ?_); go_step; refine hK _ _ ?_; clear hK K) | (refine wpX_load rfl rfl rfl (by simp [Stay, OneD, NoD, *]) hs0 (by simp [*]) (fun K hK => ?_); go_step; refine hK _ _ ?_; clear hK K))
          (refine wpX_nil ?_; go_step)
          clear hq
          go_upto_region 11 with fail
          generalize hwb : World.setCell w5 ⟨bP, 4, none⟩ _ = wq
          try rw [hsum] at hwb
          replace H := HS.eqW hwb (H.setTo (o := 4) (v := .int .i64 s) 1 rfl rfl)
          clear hwb C
          replace H : HS NoD w [.blk bX #[.int .i64 a0, .int .i64 a1, .int .i64 a2, .int .i64 a3, .int .i64 a4, .int .i64 a5, .int .i64 n, .slice (some ⟨b, o, none⟩) xs.length c] 26, .blk bP #[.int .i64 q0, .int .i64 q1, .int .i64 q2, .int .i64 q3, .int .i64 s, .int .i64 q5] 28, .blk bT _ _] wq := H
          skip
          try clear C
          try simp only [World.size_alloc, List.nil_append, List.cons_append, List.append_assoc] at H
          have C := H.cells
          try simp only [cellsOf, apartOf, and_true] at C
          go_wp2_with fail
          refine (HI.out _).mono ?_
          rintro _ w6 ⟨rfl, hb⟩
          replace H := H.below hb
          clear hb
          try clear C
          try simp only [World.size_alloc, List.nil_append, List.cons_append, List.append_assoc] at H
          try clear wq
          have C := H.cells
          try simp only [cellsOf, apartOf, and_true] at C
          dsimp only
          go_wp2_with fail
          go_ret2
          exact ⟨by rw [HT.out]; rfl, H.done⟩
        · have hrb : (r == q4) = false := beq_eq_false_iff_ne.2 hr
          have hrb2 : (r != q4) = true := bne_iff_ne.2 hr
          by_cases hs : s = q4
          · have ht : turnR xs ⟨q0, q1, q2, q3, q4, q5⟩ = r := by
              unfold turnR
              rw [find_at hlt HF.out (by rw [← HX.out]; unfold hitS; rw [decide_eq_true HBE.out]; simp [hs]), ← HX.out]
              dsimp only
              rw [if_neg hr]
            have HT := Lib.hid ht
            have hps : PV a0 a1 a2 a3 a4 a5 q0 q1 q2 q3 r q5 := ⟨HPV.out.h0, HPV.out.h1, HPV.out.h2, HPV.out.h3, by have := HOK.out; have := h.n0; show _ ∧ _ < rwz a4; omega, HPV.out.h5⟩
            have HI := Lib.hid (fun w => rindex_yes h.sv hps w)
            have hsum : r + s - s = r := by omega
            clear ht hps
            subst hs
            skip
            refine wp_region_xH (by kernel_rfl) (by kernel_rfl) (by kernel_rfl) (by kernel_rfl) (fun _ => False) (H.alloc) ?_
            clear H; intro w7 H hz0 hs0
            try clear C
            try simp only [World.size_alloc, List.nil_append, List.cons_append, List.append_assoc] at H hz0
            generalize wr.heap.size = bT at H hz0 ⊢
            clear hz0
            try clear wr
            have C := H.cells
            try simp only [cellsOf, apartOf, and_true] at C
            have Z := H.zs
            try simp only [ltsOf, and_true] at Z
            have hz0 := Nat.le_refl w7.heap.size
            repeat (first | (refine wpX_skip rfl ?_; go_simp) | (refine wpX_free rfl rfl rfl (fun K hK => ?_); go_step; refine hK _ _ ?_; clear hK K) | (refine wpX_load rfl rfl rfl (by simp [Stay, OneD, NoD, *]) hs0 (by simp [*]) (fun K hK => ?_); go_step; refine hK _ _ ?_; clear hK K))
            refine wpX_eff rfl rfl (fun _ _ => ?_)
            go_step
            refine (HBK.out _).mono ?_
            rintro _ w8 ⟨rfl, hb⟩
            replace hs0 := hs0.belowS hz0 hb
            replace hz0 := Nat.le_trans hz0 hb.size
            replace H := H.below hb
            clear hb
            try clear C
            have C := H.cells
            try simp only [cellsOf, apartOf, and_true] at C
            try clear w7
            dsimp only
            go_step
            refine ⟨hs0, ?_⟩
            repeat (first | (refine wpX_skip rfl ?_; go_simp) | (refine wpX_free rfl rfl rfl (fun K hK => ?_); go_step; refine hK _ _ ?_; clear hK K) | (refine wpX_load rfl rfl rfl (by simp [Stay, OneD, NoD, *]) hs0 (by simp [*]) (fun K hK => ?_); go_step; refine hK _ _ ?_; clear hK K))
            (refine wpX_yield rfl rfl ((.bool false)) (fun w hw => by go_simp) ?_; go_simp)
            repeat (first | (refine wpX_skip rfl ?_; go_simp) | (refine wpX_free rfl rfl rfl (fun K hK => ?_); go_step; refine hK _ _ ?_; clear hK K) | (refine wpX_load rfl rfl rfl (by simp [Stay, OneD, NoD, *]) hs0 (by simp [*]) (fun K hK => ?_); go_step; refine hK _ _ ?_; clear hK K))
            (refine wpX_nil ?_; go_step)
            clear hq
            go_upto_region 11 with fail
            generalize hwb : World.setCell w8 ⟨bP, 4, none⟩ _ = wq
            try rw [hsum] at hwb
            replace H := HS.eqW hwb (H.setTo (o := 4) (v := .int .i64 r) 1 rfl rfl)
            clear hwb C
            replace H : HS NoD w [.blk bX #[.int .i64 a0, .int .i64 a1, .int .i64 a2, .int .i64 a3, .int .i64 a4, .int .i64 a5, .int .i64 n, .slice (some ⟨b, o, none⟩) xs.length c] 26, .blk bP #[.int .i64 q0, .int .i64 q1, .int .i64 q2, .int .i64 q3, .int .i64 r, .int .i64 q5] 28, .blk bT _ _] wq := H
            skip
            try clear C
            try simp only [World.size_alloc, List.nil_append, List.cons_append, List.append_assoc] at H
            have C := H.cells
            try simp only [cellsOf, apartOf, and_true] at C
            go_wp2_with fail
            refine (HI.out _).mono ?_
            rintro _ w9 ⟨rfl, hb⟩
            replace H := H.below hb
            clear hb
            try clear C
            try simp only [World.size_alloc, List.nil_append, List.cons_append, List.append_assoc] at H
            try clear wq
            have C := H.cells
            try simp only [cellsOf, apartOf, and_true] at C
            dsimp only
            go_wp2_with fail
            go_ret2
            exact ⟨by rw [HT.out]; rfl, H.done⟩
          · have hsb : (s == q4) = false := beq_eq_false_iff_ne.2 hs
            have hsb2 : (s != q4) = true := bne_iff_ne.2 hs
            have HH := Lib.hid (show hitS ⟨q0, q1, q2, q3, q4, q5⟩ ⟨t0, t1, t2, t3, t4, t5, r, s⟩ = false by unfold hitS; simp [hr, hs])
            skip
            refine wp_region_xH (by kernel_rfl) (by kernel_rfl) (by kernel_rfl) (by kernel_rfl) (fun _ => False) (H.alloc) ?_
            clear H; intro w10 H hz0 hs0
            try clear C
            try simp only [World.size_alloc, List.nil_append, List.cons_append, List.append_assoc] at H hz0
            generalize wr.heap.size = bT at H hz0 ⊢
            clear hz0
            try clear wr
            have C := H.cells
            try simp only [cellsOf, apartOf, and_true] at C
            have Z := H.zs
            try simp only [ltsOf, and_true] at Z
            have hz0 := Nat.le_refl w10.heap.size
            repeat (first | (refine wpX_skip rfl ?_; go_simp) | (refine wpX_free rfl rfl rfl (fun K hK => ?_); go_step; refine hK _ _ ?_; clear hK K) | (refine wpX_load rfl rfl rfl (by simp [Stay, OneD, NoD, *]) hs0 (by simp [*]) (fun K hK => ?_); go_step; refine hK _ _ ?_; clear hK K))
            refine wpX_eff rfl rfl (fun _ _ => ?_)
            go_step
            refine (HBK.out _).mono ?_
            rintro _ w11 ⟨rfl, hb⟩
            replace hs0 := hs0.belowS hz0 hb
            replace hz0 := Nat.le_trans hz0 hb.size
            replace H := H.below hb
            clear hb
            try clear C
            have C := H.cells
            try simp only [cellsOf, apartOf, and_true] at C
            try clear w10
            dsimp only
            go_step
            refine ⟨hs0, ?_⟩
            repeat (first | (refine wpX_skip rfl ?_; go_simp) | (refine wpX_free rfl rfl rfl (fun K hK => ?_); go_step; refine hK _ _ ?_; clear hK K) | (refine wpX_load rfl rfl rfl (by simp [Stay, OneD, NoD, *]) hs0 (by simp [*]) (fun K hK => ?_); go_step; refine hK _ _ ?_; clear hK K))
            (refine wpX_yield rfl rfl ((.bool false)) (fun w hw => by go_simp) ?_; go_simp)
            repeat (first | (refine wpX_skip rfl ?_; go_simp) | (refine wpX_free rfl rfl rfl (fun K hK => ?_); go_step; refine hK _ _ ?_; clear hK K) | (refine wpX_load rfl rfl rfl (by simp [Stay, OneD, NoD, *]) hs0 (by simp [*]) (fun K hK => ?_); go_step; refine hK _ _ ?_; clear hK K))
            (refine wpX_nil ?_; go_step)
            go_wp2_with fail
            clear hq
            go_roundw
            case rel =>
              refine ⟨j + 1, by go_num, by omega, (show Hid _ from fun k hk => ?_), H.less (by repeat (first | exact .slnil | refine .cons_cons _ ?_ | refine .cons _ ?_))⟩
              by_cases e : k = j
              · rw [e, ← HX.out]; exact HH.out
              · exact HF.out k (by omega)
            case measure => simp [intOf]; omega
      · have hq : ∀ w, (binOp .neq 28 (v6 t0 t1 t2 t3 t4 t5) (v6 q0 q1 q2 q3 0 0)).run Try.prog w = .ok (.bool true) w := fun w => by rw [neq6, decide_eq_false hbk]; rfl
        have HH := Lib.hid (show hitS ⟨q0, q1, q2, q3, q4, q5⟩ ⟨t0, t1, t2, t3, t4, t5, r, s⟩ = false by unfold hitS; rw [decide_eq_false hbk]; rfl)
        clear hbk
        skip
        refine wp_region_xH (by kernel_rfl) (by kernel_rfl) (by kernel_rfl) (by kernel_rfl) (fun _ => False) (H.alloc) ?_
        clear H; intro w12 H hz0 hs0
        try clear C
        try simp only [World.size_alloc, List.nil_append, List.cons_append, List.append_assoc] at H hz0
        generalize wr.heap.size = bT at H hz0 ⊢
        clear hz0
        try clear wr
        have C := H.cells
        try simp only [cellsOf, apartOf, and_true] at C
        have Z := H.zs
        try simp only [ltsOf, and_true] at Z
        have hz0 := Nat.le_refl w12.heap.size
        repeat (first | (refine wpX_skip rfl ?_; go_simp) | (refine wpX_free rfl rfl rfl (fun K hK => ?_); go_step; refine hK _ _ ?_; clear hK K) | (refine wpX_load rfl rfl rfl (by simp [Stay, OneD, NoD, *]) hs0 (by simp [*]) (fun K hK => ?_); go_step; refine hK _ _ ?_; clear hK K))
        refine wpX_eff rfl rfl (fun _ _ => ?_)
        go_step
        refine (HBK.out _).mono ?_
        rintro _ w13 ⟨rfl, hb⟩
        replace hs0 := hs0.belowS hz0 hb
        replace hz0 := Nat.le_trans hz0 hb.size
        replace H := H.below hb
        clear hb
        try clear C
        have C := H.cells
        try simp only [cellsOf, apartOf, and_true] at C
        try clear w12
        dsimp only
        go_step
        refine ⟨hs0, ?_⟩
        repeat (first | (refine wpX_skip rfl ?_; go_simp) | (refine wpX_free rfl rfl rfl (fun K hK => ?_); go_step; refine hK _ _ ?_; clear hK K) | (refine wpX_load rfl rfl rfl (by simp [Stay, OneD, NoD, *]) hs0 (by simp [*]) (fun K hK => ?_); go_step; refine hK _ _ ?_; clear hK K))
        (refine wpX_yield rfl rfl ((.bool true)) (fun w hw => by go_simp) ?_; go_simp)
        repeat (first | (refine wpX_skip rfl ?_; go_simp) | (refine wpX_free rfl rfl rfl (fun K hK => ?_); go_step; refine hK _ _ ?_; clear hK K) | (refine wpX_load rfl rfl rfl (by simp [Stay, OneD, NoD, *]) hs0 (by simp [*]) (fun K hK => ?_); go_step; refine hK _ _ ?_; clear hK K))
        (refine wpX_nil ?_; go_step)
        go_wp2_with fail
        clear hq
        go_roundw
        case rel =>
          refine ⟨j + 1, by go_num, by omega, (show Hid _ from fun k hk => ?_), H.less (by repeat (first | exact .slnil | refine .cons_cons _ ?_ | refine .cons _ ?_))⟩
          by_cases e : k = j
          · rw [e, ← HX.out]; exact HH.out
          · exact HF.out k (by omega)
        case measure => simp [intOf]; omega
    · skip
      have ht : turnR xs ⟨q0, q1, q2, q3, q4, q5⟩ = q4 := by
        unfold turnR
        rw [find_none (fun k hk => HF.out k (by omega))]
      have HT := Lib.hid ht
      clear ht
      go_wp2_with fail
      go_ret2
      exact ⟨by rw [HT.out, HIDX.out]; rfl, H.done⟩
theorem neqSh (a b c d e f : Int) (w : World) : (binOp .neq 23 (v6 a b c d e f) (v6 a b c d e f)).run Try.prog w = .ok (.bool false) w := by go_simp
theorem neqSw (a b c d e f g h : Int) (w : World) : (binOp .neq 38 (.agg #[.int .i64 a, .int .i64 b, .int .i64 c, .int .i64 d, .int .i64 e, .int .i64 f, .int .i64 g, .int .i64 h]) (.agg #[.int .i64 a, .int .i64 b, .int .i64 c, .int .i64 d, .int .i64 e, .int .i64 f, .int .i64 g, .int .i64 h])).run Try.prog w = .ok (.bool false) w := by go_simp
/-- Same, of spares with the same swaps. -/
theorem qsame_of (a0 a1 a2 a3 a4 a5 n : Int) {xs : List S8} (hx : xs.length ≤ 1000) (c d : Nat) {sa sb : Option Addr} (w : World) (hl : Lies w w.heap.size sa 8 xs.length (fun j => sC xs[j]!)) (hm : Lies w w.heap.size sb 8 xs.length (fun j => sC xs[j]!)) :
    Calls Try.prog 23 #[vSp a0 a1 a2 a3 a4 a5 n (.slice sa xs.length c), vSp a0 a1 a2 a3 a4 a5 n (.slice sb xs.length d)] w (Gives (.bool true) w) := by
  have HL := Lib.hid hl
  have HM := Lib.hid hm
  clear hl hm
  have hq := fun w => neqSh a0 a1 a2 a3 a4 a5 w
  go_enter Try.func23, Try.ntmps23
  have H := HS.start NoD w
  go_upto_region 1 with fail
  generalize hwb : (w.alloc _).alloc _ = w1
  replace H := HS.eqW hwb H.alloc.alloc
  try simp only [World.size_alloc, List.nil_append, List.cons_append, List.append_assoc] at H
  clear hwb
  generalize w.heap.size + 1 = bY at H ⊢
  generalize w.heap.size = bX at H ⊢
  try clear C
  have C := H.cells
  try simp only [cellsOf, apartOf, and_true] at C
  go_wp2_with fail
  clear hq
  go_loopw [31] (fun cc wr => ∃ (j : Nat), cc = .int .i64 j ∧ j ≤ xs.length ∧ HS NoD w [.blk bX #[.int .i64 a0, .int .i64 a1, .int .i64 a2, .int .i64 a3, .int .i64 a4, .int .i64 a5, .int .i64 n, .slice sa xs.length c] 26, .blk bY #[.int .i64 a0, .int .i64 a1, .int .i64 a2, .int .i64 a3, .int .i64 a4, .int .i64 a5, .int .i64 n, .slice sb xs.length d] 26] wr) (fun cc _ => xs.length - (intOf cc).toNat)
  case atStart => exact ⟨0, rfl, Nat.zero_le _, H⟩
  case round =>
    clear H C w1
    obtain ⟨j, rfl, hj, H⟩ := hrel
    skip
    try clear C
    try simp only [World.size_alloc, List.nil_append, List.cons_append, List.append_assoc] at H
    have C := H.cells
    try simp only [cellsOf, apartOf, and_true] at C
    by_cases hlt : j < xs.length
    · obtain ⟨b, o, rfl, hb, hc⟩ := (H.lies HL.out).at hlt
      obtain ⟨b', o', rfl, hb', hd⟩ := (H.lies HM.out).at hlt
      obtain ⟨x, hxj⟩ : ∃ x, x = xs[j]! := ⟨_, rfl⟩
      rw [← hxj] at hc hd
      obtain ⟨t0, t1, t2, t3, t4, t5, r, s⟩ := x
      have c0 : wr.cell? ⟨b, o + j * 8, none⟩ = some (.int .i64 t0) := hc 0 _ rfl
      have c1 : wr.cell? ⟨b, o + j * 8 + 1, none⟩ = some (.int .i64 t1) := hc 1 _ rfl
      have c2 : wr.cell? ⟨b, o + j * 8 + 2, none⟩ = some (.int .i64 t2) := hc 2 _ rfl
      have c3 : wr.cell? ⟨b, o + j * 8 + 3, none⟩ = some (.int .i64 t3) := hc 3 _ rfl
      have c4 : wr.cell? ⟨b, o + j * 8 + 4, none⟩ = some (.int .i64 t4) := hc 4 _ rfl
      have c5 : wr.cell? ⟨b, o + j * 8 + 5, none⟩ = some (.int .i64 t5) := hc 5 _ rfl
      have c6 : wr.cell? ⟨b, o + j * 8 + 6, none⟩ = some (.int .i64 r) := hc 6 _ rfl
      have c7 : wr.cell? ⟨b, o + j * 8 + 7, none⟩ = some (.int .i64 s) := hc 7 _ rfl
      clear hxj
      have hq := fun w => neqSw t0 t1 t2 t3 t4 t5 r s w
      have e0 : wr.cell? ⟨b', o' + j * 8, none⟩ = some (.int .i64 t0) := hd 0 _ rfl
      have e1 : wr.cell? ⟨b', o' + j * 8 + 1, none⟩ = some (.int .i64 t1) := hd 1 _ rfl
      have e2 : wr.cell? ⟨b', o' + j * 8 + 2, none⟩ = some (.int .i64 t2) := hd 2 _ rfl
      have e3 : wr.cell? ⟨b', o' + j * 8 + 3, none⟩ = some (.int .i64 t3) := hd 3 _ rfl
      have e4 : wr.cell? ⟨b', o' + j * 8 + 4, none⟩ = some (.int .i64 t4) := hd 4 _ rfl
      have e5 : wr.cell? ⟨b', o' + j * 8 + 5, none⟩ = some (.int .i64 t5) := hd 5 _ rfl
      have e6 : wr.cell? ⟨b', o' + j * 8 + 6, none⟩ = some (.int .i64 r) := hd 6 _ rfl
      have e7 : wr.cell? ⟨b', o' + j * 8 + 7, none⟩ = some (.int .i64 s) := hd 7 _ rfl
      have hlb : b < wr.heap.size := Nat.lt_of_lt_of_le hb H.size
      have hlb' : b' < wr.heap.size := Nat.lt_of_lt_of_le hb' H.size
      have hnb : (wr.heap.size = b') = False := eq_false (by omega)
      have hnb' : (b' = wr.heap.size) = False := eq_false (by omega)
      clear hc hd
      go_upto_region 6 with fail
      go_region
      go_wp2_with fail
      go_roundw
      case rel => exact ⟨j + 1, by go_num, by omega, H.alloc.drew.less (by repeat (first | exact .slnil | refine .cons_cons _ ?_ | refine .cons _ ?_))⟩
      case measure => simp [intOf]; omega
    · skip
      go_wp2_with fail
      go_ret
      exact ⟨rfl, H.done⟩
end Go.Proofs.Ytcacgmfihhpliaa
