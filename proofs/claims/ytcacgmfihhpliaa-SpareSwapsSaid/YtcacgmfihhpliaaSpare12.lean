/- The document's answer for spares: rows, bank, New, free. -/
import Derived.Test.YtcacgmfihhpliaaSpare10
namespace Go.Proofs.Ytcacgmfihhpliaa
set_option linter.unusedSimpArgs false
set_option linter.unusedVariables false
open Go.RowKit
set_option maxRecDepth 100000
attribute [local go_sem] lt_more ne_more ne_more'
attribute [local irreducible] wpX wpF Calls

theorem qrows_of {a0 a1 a2 a3 a4 a5 : Int} (h : SV a0 a1 a2 a3 a4 a5) (w : World) : Calls Try.prog 54 #[v6 a0 a1 a2 a3 a4 a5] w (Gives (.int .i64 (rwz a4)) w) := by
  have h4 := h.he
  have q1 := wrap_pw (a := a4) (by omega)
  go_enter Try.func54, Try.ntmps54
  have H := HS.start NoD w
  go_wp2_with fail
  go_ret
  exact ⟨by simp [rwz, q1], H.alloc.done⟩
theorem qbank_of (p0 p1 p2 p3 p4 p5 : Int) (w : World) : Calls Try.prog 57 #[v6 p0 p1 p2 p3 p4 p5] w (Gives (v6 p0 p1 p2 p3 0 0) w) := by
  go_enter Try.func57, Try.ntmps57
  have H := HS.start NoD w
  go_wp2_with fail
  go_returns
  refine ⟨rfl, ?_⟩
  go_grown
theorem qnew_yes {a0 a1 a2 a3 a4 a5 n : Int} (h : SV a0 a1 a2 a3 a4 a5) (hn : 0 ≤ n ∧ n < rwz a4) (w : World) : Calls Try.prog 22 #[v6 a0 a1 a2 a3 a4 a5, .int .i64 n] w (Gives (.tuple #[vSp a0 a1 a2 a3 a4 a5 n (.slice none 0 0), .int .i64 0]) w) := by
  have HV := Lib.hid (fun w => rvalid_yes h w)
  have HR := Lib.hid (fun w => qrows_of h w)
  generalize rwz a4 = R at *
  go_enter Try.func22, Try.ntmps22
  have H := HS.start NoD w
  go_wp2_with fail
  refine (HV.out _).mono ?_
  rintro _ w1 ⟨rfl, hb⟩
  replace H := H.alloc.alloc.below hb
  clear hb
  try clear C
  try simp only [World.size_alloc, List.nil_append, List.cons_append, List.append_assoc] at H
  generalize w.heap.size + 1 = bR at H ⊢
  generalize w.heap.size = bS at H ⊢
  have C := H.cells
  try simp only [cellsOf, apartOf, and_true] at C
  dsimp only
  go_wp2_with fail
  refine (HR.out _).mono ?_
  rintro _ w2 ⟨rfl, hb⟩
  replace H := H.below hb
  clear hb
  try clear C
  try simp only [World.size_alloc, List.nil_append, List.cons_append, List.append_assoc] at H
  try clear w1
  have C := H.cells
  try simp only [cellsOf, apartOf, and_true] at C
  dsimp only
  go_wp2_with fail
  generalize hwb : (((((((w2.setCell _ _).setCell _ _).setCell _ _).setCell _ _).setCell _ _).setCell _ _).setCell _ _).setCell _ _ = w3
  replace H := HS.eqW hwb (H.putAll (i := 1) rfl (vs := [.int .i64 a0, .int .i64 a1, .int .i64 a2, .int .i64 a3, .int .i64 a4, .int .i64 a5, .int .i64 n, .slice none 0 0]) rfl rfl)
  simp only [List.nil_append, List.cons_append, List.append_assoc, List.set_cons_succ, List.set_cons_zero] at H
  clear hwb
  try clear C
  try clear w2
  have C := H.cells
  try simp only [cellsOf, apartOf, and_true] at C
  refine bodyPost_ret (by simp [results, Try.results22, go_sem, C]; try rfl) rfl ?_
  exact ⟨rfl, H.done⟩
theorem qnew_bad {a0 a1 a2 a3 a4 a5 : Int} (h : ¬ SV a0 a1 a2 a3 a4 a5) (n : Int) (w : World) : Calls Try.prog 22 #[v6 a0 a1 a2 a3 a4 a5, .int .i64 n] w (Gives (.tuple #[vSp 0 0 0 0 0 0 0 (.slice none 0 0), .int .i64 1]) w) := by
  have HV := Lib.hid (fun w => rvalid_no h w)
  go_enter Try.func22, Try.ntmps22
  have H := HS.start NoD w
  go_wp2_with fail
  refine (HV.out _).mono ?_
  rintro _ w1 ⟨rfl, hb⟩
  replace H := H.alloc.alloc.below hb
  clear hb
  try clear C
  try simp only [World.size_alloc, List.nil_append, List.cons_append, List.append_assoc] at H
  generalize w.heap.size + 1 = bR at H ⊢
  generalize w.heap.size = bS at H ⊢
  have C := H.cells
  try simp only [cellsOf, apartOf, and_true] at C
  dsimp only
  go_wp2_with fail
  generalize hwb : (((((((w1.setCell _ _).setCell _ _).setCell _ _).setCell _ _).setCell _ _).setCell _ _).setCell _ _).setCell _ _ = w2
  replace H := HS.eqW hwb (H.putAll (i := 1) rfl (vs := [.int .i64 0, .int .i64 0, .int .i64 0, .int .i64 0, .int .i64 0, .int .i64 0, .int .i64 0, .slice none 0 0]) rfl rfl)
  simp only [List.nil_append, List.cons_append, List.append_assoc, List.set_cons_succ, List.set_cons_zero] at H
  clear hwb
  try clear C
  try clear w1
  have C := H.cells
  try simp only [cellsOf, apartOf, and_true] at C
  refine bodyPost_ret (by simp [results, Try.results22, go_sem, C]; try rfl) rfl ?_
  exact ⟨rfl, H.done⟩
theorem qnew_range {a0 a1 a2 a3 a4 a5 n : Int} (h : SV a0 a1 a2 a3 a4 a5) (hn : ¬ (0 ≤ n ∧ n < rwz a4)) (w : World) : Calls Try.prog 22 #[v6 a0 a1 a2 a3 a4 a5, .int .i64 n] w (Gives (.tuple #[vSp 0 0 0 0 0 0 0 (.slice none 0 0), .int .i64 2]) w) := by
  have HV := Lib.hid (fun w => rvalid_yes h w)
  have HR := Lib.hid (fun w => qrows_of h w)
  generalize rwz a4 = R at *
  by_cases h0 : n < 0
  · go_enter Try.func22, Try.ntmps22
    have H := HS.start NoD w
    go_wp2_with fail
    refine (HV.out _).mono ?_
    rintro _ w1 ⟨rfl, hb⟩
    replace H := H.alloc.alloc.below hb
    clear hb
    try clear C
    try simp only [World.size_alloc, List.nil_append, List.cons_append, List.append_assoc] at H
    generalize w.heap.size + 1 = bR at H ⊢
    generalize w.heap.size = bS at H ⊢
    have C := H.cells
    try simp only [cellsOf, apartOf, and_true] at C
    dsimp only
    go_wp2_with fail
    generalize hwb : (((((((w1.setCell _ _).setCell _ _).setCell _ _).setCell _ _).setCell _ _).setCell _ _).setCell _ _).setCell _ _ = w2
    replace H := HS.eqW hwb (H.putAll (i := 1) rfl (vs := [.int .i64 0, .int .i64 0, .int .i64 0, .int .i64 0, .int .i64 0, .int .i64 0, .int .i64 0, .slice none 0 0]) rfl rfl)
    simp only [List.nil_append, List.cons_append, List.append_assoc, List.set_cons_succ, List.set_cons_zero] at H
    clear hwb
    try clear C
    try clear w1
    have C := H.cells
    try simp only [cellsOf, apartOf, and_true] at C
    refine bodyPost_ret (by simp [results, Try.results22, go_sem, C]; try rfl) rfl ?_
    exact ⟨rfl, H.done⟩
  · have h1 : R ≤ n := by omega
    go_enter Try.func22, Try.ntmps22
    have H := HS.start NoD w
    go_wp2_with fail
    refine (HV.out _).mono ?_
    rintro _ w1 ⟨rfl, hb⟩
    replace H := H.alloc.alloc.below hb
    clear hb
    try clear C
    try simp only [World.size_alloc, List.nil_append, List.cons_append, List.append_assoc] at H
    generalize w.heap.size + 1 = bR at H ⊢
    generalize w.heap.size = bS at H ⊢
    have C := H.cells
    try simp only [cellsOf, apartOf, and_true] at C
    dsimp only
    go_wp2_with fail
    refine (HR.out _).mono ?_
    rintro _ w2 ⟨rfl, hb⟩
    replace H := H.below hb
    clear hb
    try clear C
    try simp only [World.size_alloc, List.nil_append, List.cons_append, List.append_assoc] at H
    try clear w1
    have C := H.cells
    try simp only [cellsOf, apartOf, and_true] at C
    dsimp only
    go_wp2_with fail
    generalize hwb : (((((((w2.setCell _ _).setCell _ _).setCell _ _).setCell _ _).setCell _ _).setCell _ _).setCell _ _).setCell _ _ = w3
    replace H := HS.eqW hwb (H.putAll (i := 1) rfl (vs := [.int .i64 0, .int .i64 0, .int .i64 0, .int .i64 0, .int .i64 0, .int .i64 0, .int .i64 0, .slice none 0 0]) rfl rfl)
    simp only [List.nil_append, List.cons_append, List.append_assoc, List.set_cons_succ, List.set_cons_zero] at H
    clear hwb
    try clear C
    try clear w2
    have C := H.cells
    try simp only [cellsOf, apartOf, and_true] at C
    refine bodyPost_ret (by simp [results, Try.results22, go_sem, C]; try rfl) rfl ?_
    exact ⟨rfl, H.done⟩
theorem any_take {α : Type} [Inhabited α] {p : α → Bool} : ∀ {xs : List α} {j : Nat}, j < xs.length → (xs.take (j + 1)).any p = ((xs.take j).any p || p xs[j]!)
  | [], j, h => by simp at h
  | x :: xs, 0, _ => by simp
  | x :: xs, j + 1, h => by
    have := any_take (p := p) (xs := xs) (j := j) (by simpa using h)
    simp only [List.take_succ_cons, List.any_cons, this, Bool.or_assoc, List.getElem!_cons_succ]
set_option maxHeartbeats 4000000 in
theorem qfree_of {a0 a1 a2 a3 a4 a5 n : Int} (h : SV a0 a1 a2 a3 a4 a5) (hn : 0 ≤ n ∧ n < rwz a4) (p0 p1 p2 p3 p4 p5 : Int) {sa : Option Addr} (c : Nat) {xs : List S8} (hx : xs.length ≤ 1000) (w : World) (hl : Lies w w.heap.size sa 8 xs.length (fun j => sC xs[j]!)) :
    Calls Try.prog 65 #[vSp a0 a1 a2 a3 a4 a5 n (.slice sa xs.length c), v6 p0 p1 p2 p3 p4 p5] w (GivesS (fun v => v) 3 1 (freeK (rwz a4 - n) p0 p1 p2 p3 xs n.toNat).length ((freeK (rwz a4 - n) p0 p1 p2 p3 xs n.toNat).flatMap iC) w) := by
  have HL := Lib.hid hl
  clear hl
  have hz := rwz_in h
  have HR := Lib.hid (fun w => qrows_of h w)
  have HBK := Lib.hid (fun w => qbank_of p0 p1 p2 p3 p4 p5 w)
  obtain ⟨R, hR⟩ : ∃ R, R = rwz a4 := ⟨_, rfl⟩
  rw [← hR] at hn hz HR ⊢
  obtain ⟨N, hN⟩ : ∃ N, N = n.toNat := ⟨_, rfl⟩
  have hNn : (N : Int) = n := by omega
  rw [← hN]
  have hN2 : N ≤ 4096 := by omega
  clear hR hN
  go_enter Try.func65, Try.ntmps65
  have H := HS.start NoD w
  go_upto_region 2 with fail
  refine wp_region_xH (by kernel_rfl) (by kernel_rfl) (by kernel_rfl) (by kernel_rfl) (fun _ => False) (H.alloc.alloc) ?_
  clear H; intro w1 H hz0 hs0
  try clear C
  try simp only [World.size_alloc, List.nil_append, List.cons_append, List.append_assoc] at H hz0
  generalize w.heap.size + 1 = bP at H hz0 ⊢
  generalize w.heap.size = bX at H hz0 ⊢
  clear hz0
  have C := H.cells
  try simp only [cellsOf, apartOf, and_true] at C
  have Z := H.zs
  try simp only [ltsOf, and_true] at Z
  have hz0 := Nat.le_refl w1.heap.size
  repeat (first | (refine wpX_skip rfl ?_; go_simp) | (refine wpX_free rfl rfl rfl (fun K hK => ?_); go_step; refine hK _ _ ?_; clear hK K) | (refine wpX_load rfl rfl rfl (by simp [Stay, OneD, NoD, *]) hs0 (by simp [*]) (fun K hK => ?_); go_step; refine hK _ _ ?_; clear hK K))
  refine wpX_eff rfl rfl (fun _ _ => ?_)
  go_step
  refine (HR.out _).mono ?_
  rintro _ w2 ⟨rfl, hb⟩
  replace hs0 := hs0.belowS hz0 hb
  replace hz0 := Nat.le_trans hz0 hb.size
  replace H := H.below hb
  clear hb
  try clear C
  have C := H.cells
  try simp only [cellsOf, apartOf, and_true] at C
  try clear w1
  dsimp only
  go_step
  refine ⟨hs0, ?_⟩
  repeat (first | (refine wpX_skip rfl ?_; go_simp) | (refine wpX_free rfl rfl rfl (fun K hK => ?_); go_step; refine hK _ _ ?_; clear hK K) | (refine wpX_load rfl rfl rfl (by simp [Stay, OneD, NoD, *]) hs0 (by simp [*]) (fun K hK => ?_); go_step; refine hK _ _ ?_; clear hK K))
  (refine wpX_nil ?_; go_step)
  go_wp2_with fail
  have hnr := H.nilRow 3 1
  clear H
  have H := hnr
  clear hnr
  try simp only [List.nil_append, List.cons_append] at H
  have HNn := Lib.hid hNn
  have q0 : R - n + ((0 : Nat) : Int) = R - n := by omega
  go_loopw [5, 6] (fun v q wr => ∃ (k : Nat), q = .int .i64 (R - n + (k : Int)) ∧ k ≤ N ∧ HS NoD w [.blk bX #[.int .i64 a0, .int .i64 a1, .int .i64 a2, .int .i64 a3, .int .i64 a4, .int .i64 a5, .int .i64 n, .slice sa xs.length c] 26, .blk bP #[.int .i64 p0, .int .i64 p1, .int .i64 p2, .int .i64 p3, .int .i64 p4, .int .i64 p5] 28, .row v 3 1 (freeK (R - n) p0 p1 p2 p3 xs k).length ((freeK (R - n) p0 p1 p2 p3 xs k).flatMap iC)] wr) (fun _ q _ => (R - intOf q).toNat)
  case atStart => exact ⟨0, by rw [q0], Nat.zero_le _, by simpa [freeK] using H⟩
  case round =>
    clear H C q0
    try clear hs0
    try clear hz0
    try clear Z
    clear w2
    obtain ⟨k, rfl, hk, H⟩ := hrel
    skip
    try clear C
    try simp only [World.size_alloc, List.nil_append, List.cons_append, List.append_assoc] at H
    have C := H.cells
    try simp only [cellsOf, apartOf, and_true] at C
    by_cases hlt : k < N
    · have hfs := freeK_succ (R - n) p0 p1 p2 p3 xs k
      have hfl := freeK_len (R - n) p0 p1 p2 p3 xs k
      have HFS := Lib.hid hfs
      clear hfs
      generalize freeK (R - n) p0 p1 p2 p3 xs k = ys at H HFS hfl
      have q3 : R - n + (k : Int) < R := by omega
      go_wp2_with fail
      refine (HR.out _).mono ?_
      rintro _ w3 ⟨rfl, hb⟩
      replace H := H.below hb
      clear hb
      try clear C
      try simp only [World.size_alloc, List.nil_append, List.cons_append, List.append_assoc] at H
      try clear wr
      have C := H.cells
      try simp only [cellsOf, apartOf, and_true] at C
      dsimp only
      go_wp2_with fail
      go_loopw [7, 26] (fun u cc wr => ∃ (j : Nat), cc = .int .i64 j ∧ j ≤ xs.length ∧ u = .bool ((xs.take j).any (holdsS p0 p1 p2 p3 (R - n + (k : Int)))) ∧ HS NoD w [.blk bX #[.int .i64 a0, .int .i64 a1, .int .i64 a2, .int .i64 a3, .int .i64 a4, .int .i64 a5, .int .i64 n, .slice sa xs.length c] 26, .blk bP #[.int .i64 p0, .int .i64 p1, .int .i64 p2, .int .i64 p3, .int .i64 p4, .int .i64 p5] 28, .row u5 3 1 ys.length (ys.flatMap iC)] wr) (fun _ cc _ => xs.length - (intOf cc).toNat)
      case atStart => exact ⟨0, rfl, Nat.zero_le _, rfl, H⟩
      case round =>
        clear H C w3
        obtain ⟨j, rfl, hj, rfl, H⟩ := hrel
        skip
        try clear C
        try simp only [World.size_alloc, List.nil_append, List.cons_append, List.append_assoc] at H
        have C := H.cells
        try simp only [cellsOf, apartOf, and_true] at C
        by_cases hjl : j < xs.length
        · obtain ⟨b, o, rfl, hb, hc⟩ := (H.lies HL.out).at hjl
          have HTK := Lib.hid (any_take (p := holdsS p0 p1 p2 p3 (R - n + (k : Int))) hjl)
          obtain ⟨x, hxj⟩ : ∃ x, x = xs[j]! := ⟨_, rfl⟩
          rw [← hxj] at hc HTK
          obtain ⟨t0, t1, t2, t3, t4, t5, r, s⟩ := x
          have c0 : wr.cell? ⟨b, o + j * 8, none⟩ = some (.int .i64 t0) := hc 0 _ rfl
          have c1 : wr.cell? ⟨b, o + j * 8 + 1, none⟩ = some (.int .i64 t1) := hc 1 _ rfl
          have c2 : wr.cell? ⟨b, o + j * 8 + 2, none⟩ = some (.int .i64 t2) := hc 2 _ rfl
          have c3 : wr.cell? ⟨b, o + j * 8 + 3, none⟩ = some (.int .i64 t3) := hc 3 _ rfl
          have c4 : wr.cell? ⟨b, o + j * 8 + 4, none⟩ = some (.int .i64 t4) := hc 4 _ rfl
          have c5 : wr.cell? ⟨b, o + j * 8 + 5, none⟩ = some (.int .i64 t5) := hc 5 _ rfl
          have c6 : wr.cell? ⟨b, o + j * 8 + 6, none⟩ = some (.int .i64 r) := hc 6 _ rfl
          have c7 : wr.cell? ⟨b, o + j * 8 + 7, none⟩ = some (.int .i64 s) := hc 7 _ rfl
          clear hc hxj
          go_upto_region 9 with fail
          clear c0 c1 c2 c3 c4 c5 c6 c7
          generalize (xs.take j).any (holdsS p0 p1 p2 p3 (R - n + (k : Int))) = u at *
          skip
          cases u with
          | true =>
            refine wp_region_xH (by kernel_rfl) (by kernel_rfl) (by kernel_rfl) (by kernel_rfl) (fun _ => False) (H.alloc) ?_
            clear H; intro w4 H hz0 hs0
            try clear C
            try simp only [World.size_alloc, List.nil_append, List.cons_append, List.append_assoc] at H hz0
            generalize wr.heap.size = bT at H hz0 ⊢
            clear hz0
            try clear wr
            have C := H.cells
            try simp only [cellsOf, apartOf, and_true] at C
            have Z := H.zs
            try simp only [ltsOf, and_true] at Z
            have hz0 := Nat.le_refl w4.heap.size
            repeat (first | (refine wpX_skip rfl ?_; go_simp) | (refine wpX_free rfl rfl rfl (fun K hK => ?_); go_step; refine hK _ _ ?_; clear hK K) | (refine wpX_load rfl rfl rfl (by simp [Stay, OneD, NoD, *]) hs0 (by simp [*]) (fun K hK => ?_); go_step; refine hK _ _ ?_; clear hK K))
            (refine wpX_nil ?_; go_step)
            go_wp2_with fail
            go_roundw
            case rel => exact ⟨j + 1, by go_num, by omega, by rw [HTK.out]; rfl, H.less (by repeat (first | exact .slnil | refine .cons_cons _ ?_ | refine .cons _ ?_))⟩
            case measure => simp [intOf]; omega
          | false =>
            by_cases hbk : t0 = p0 ∧ t1 = p1 ∧ t2 = p2 ∧ t3 = p3 ∧ t4 = 0 ∧ t5 = 0
            · have hq : ∀ w, (binOp .eql 28 (v6 t0 t1 t2 t3 t4 t5) (v6 p0 p1 p2 p3 0 0)).run Try.prog w = .ok (.bool true) w := fun w => by rw [eql6, decide_eq_true hbk]
              have HH := Lib.hid (show holdsS p0 p1 p2 p3 (R - n + (k : Int)) ⟨t0, t1, t2, t3, t4, t5, r, s⟩ = decide (s = R - n + (k : Int)) by unfold holdsS; rw [decide_eq_true hbk]; rfl)
              clear hbk
              skip
              refine wp_region_xH (by kernel_rfl) (by kernel_rfl) (by kernel_rfl) (by kernel_rfl) (fun _ => False) (H.alloc) ?_
              clear H; intro w5 H hz0 hs0
              try clear C
              try simp only [World.size_alloc, List.nil_append, List.cons_append, List.append_assoc] at H hz0
              generalize wr.heap.size = bT at H hz0 ⊢
              clear hz0
              try clear wr
              have C := H.cells
              try simp only [cellsOf, apartOf, and_true] at C
              have Z := H.zs
              try simp only [ltsOf, and_true] at Z
              have hz0 := Nat.le_refl w5.heap.size
              repeat (first | (refine wpX_skip rfl ?_; go_simp) | (refine wpX_free rfl rfl rfl (fun K hK => ?_); go_step; refine hK _ _ ?_; clear hK K) | (refine wpX_load rfl rfl rfl (by simp [Stay, OneD, NoD, *]) hs0 (by simp [*]) (fun K hK => ?_); go_step; refine hK _ _ ?_; clear hK K))
              refine wpX_eff rfl rfl (fun _ _ => ?_)
              go_step
              refine (HBK.out _).mono ?_
              rintro _ w6 ⟨rfl, hb⟩
              replace hs0 := hs0.belowS hz0 hb
              replace hz0 := Nat.le_trans hz0 hb.size
              replace H := H.below hb
              clear hb
              try clear C
              have C := H.cells
              try simp only [cellsOf, apartOf, and_true] at C
              try clear w5
              dsimp only
              go_step
              refine ⟨hs0, ?_⟩
              repeat (first | (refine wpX_skip rfl ?_; go_simp) | (refine wpX_free rfl rfl rfl (fun K hK => ?_); go_step; refine hK _ _ ?_; clear hK K) | (refine wpX_load rfl rfl rfl (by simp [Stay, OneD, NoD, *]) hs0 (by simp [*]) (fun K hK => ?_); go_step; refine hK _ _ ?_; clear hK K))
              (refine wpX_yield rfl rfl ((.bool true)) (fun w hw => by go_simp) ?_; go_simp)
              repeat (first | (refine wpX_skip rfl ?_; go_simp) | (refine wpX_free rfl rfl rfl (fun K hK => ?_); go_step; refine hK _ _ ?_; clear hK K) | (refine wpX_load rfl rfl rfl (by simp [Stay, OneD, NoD, *]) hs0 (by simp [*]) (fun K hK => ?_); go_step; refine hK _ _ ?_; clear hK K))
              (refine wpX_nil ?_; go_step)
              go_wp2_with fail
              clear hq
              go_roundw
              case rel => exact ⟨j + 1, by go_num, by omega, by rw [HTK.out, HH.out, Bool.false_or]; rfl, H.less (by repeat (first | exact .slnil | refine .cons_cons _ ?_ | refine .cons _ ?_))⟩
              case measure => simp [intOf]; omega
            · have hq : ∀ w, (binOp .eql 28 (v6 t0 t1 t2 t3 t4 t5) (v6 p0 p1 p2 p3 0 0)).run Try.prog w = .ok (.bool false) w := fun w => by rw [eql6, decide_eq_false hbk]
              have HH := Lib.hid (show holdsS p0 p1 p2 p3 (R - n + (k : Int)) ⟨t0, t1, t2, t3, t4, t5, r, s⟩ = false by unfold holdsS; rw [decide_eq_false hbk]; rfl)
              clear hbk
              skip
              refine wp_region_xH (by kernel_rfl) (by kernel_rfl) (by kernel_rfl) (by kernel_rfl) (fun _ => False) (H.alloc) ?_
              clear H; intro w7 H hz0 hs0
              try clear C
              try simp only [World.size_alloc, List.nil_append, List.cons_append, List.append_assoc] at H hz0
              generalize wr.heap.size = bT at H hz0 ⊢
              clear hz0
              try clear wr
              have C := H.cells
              try simp only [cellsOf, apartOf, and_true] at C
              have Z := H.zs
              try simp only [ltsOf, and_true] at Z
              have hz0 := Nat.le_refl w7.heap.size
              repeat (first | (refine wpX_skip rfl ?_; go_simp) | (refine wpX_free rfl rfl rfl (fun K hK => ?_); go_step; refine hK _ _ ?_; clear hK K) | (refine wpX_load rfl rfl rfl (by simp [Stay, OneD, NoD, *]) hs0 (by simp [*]) (fun K hK => ?_); go_step; refine hK _ _ ?_; clear hK K))
              refine wpX_eff rfl rfl (fun _ _ => ?_)
              go_step
              refine (HBK.out _).mono ?_
              rintro _ w8 ⟨rfl, hb⟩
              replace hs0 := hs0.belowS hz0 hb
              replace hz0 := Nat.le_trans hz0 hb.size
              replace H := H.below hb
              clear hb
              try clear C
              have C := H.cells
              try simp only [cellsOf, apartOf, and_true] at C
              try clear w7
              dsimp only
              go_step
              refine ⟨hs0, ?_⟩
              repeat (first | (refine wpX_skip rfl ?_; go_simp) | (refine wpX_free rfl rfl rfl (fun K hK => ?_); go_step; refine hK _ _ ?_; clear hK K) | (refine wpX_load rfl rfl rfl (by simp [Stay, OneD, NoD, *]) hs0 (by simp [*]) (fun K hK => ?_); go_step; refine hK _ _ ?_; clear hK K))
              (refine wpX_yield rfl rfl ((.bool false)) (fun w hw => by go_simp) ?_; go_simp)
              repeat (first | (refine wpX_skip rfl ?_; go_simp) | (refine wpX_free rfl rfl rfl (fun K hK => ?_); go_step; refine hK _ _ ?_; clear hK K) | (refine wpX_load rfl rfl rfl (by simp [Stay, OneD, NoD, *]) hs0 (by simp [*]) (fun K hK => ?_); go_step; refine hK _ _ ?_; clear hK K))
              (refine wpX_nil ?_; go_step)
              go_wp2_with fail
              clear hq
              go_roundw
              case rel => exact ⟨j + 1, by go_num, by omega, by rw [HTK.out, HH.out]; rfl, H.less (by repeat (first | exact .slnil | refine .cons_cons _ ?_ | refine .cons _ ?_))⟩
              case measure => simp [intOf]; omega
        · have hje : j = xs.length := by omega
          subst hje
          rw [List.take_length]
          skip
          cases hany : xs.any (holdsS p0 p1 p2 p3 (R - n + (k : Int))) with
          | true =>
            rw [hany] at HFS
            clear hany
            rw [if_pos rfl, List.append_nil] at HFS
            skip
            go_wp2_with fail
            go_roundw
            case rel => exact ⟨k + 1, by go_num, by omega, by rw [HFS.out]; exact H⟩
            case measure => simp [intOf]; omega
          | false =>
            rw [hany] at HFS
            clear hany
            rw [if_neg (by decide)] at HFS
            skip
            go_upto_region 12 with fail
            go_wp2_with (at_builtin; refine wpList_append_H rfl (.tmp 47) (.tmp 49) 27 rfl elemI2 H.alloc 2 rfl rfl 3 rfl rfl rfl rfl (by decide) (by unfold maxLen; omega) (by omega) (fun g cap wz HZ => ?_); clear H C)
            go_roundw
            case rel =>
              refine ⟨k + 1, by go_num, by omega, ?_⟩
              rw [HFS.out, List.length_append, List.flatMap_append]
              exact HZ.less (by repeat (first | exact .slnil | refine .cons_cons _ ?_ | refine .cons _ ?_))
            case measure => simp [intOf]; omega
    · have hkN : k = N := by omega
      subst hkN
      obtain ⟨sb, d, rfl⟩ := ownsRow_slice (H.at 2 rfl)
      have q3 : ¬ R - n + (k : Int) < R := by have := HNn.out; omega
      skip
      go_wp2_with fail
      refine (HR.out _).mono ?_
      rintro _ w9 ⟨rfl, hb⟩
      replace H := H.below hb
      clear hb
      try clear C
      try simp only [World.size_alloc, List.nil_append, List.cons_append, List.append_assoc] at H
      try clear wr
      have C := H.cells
      try simp only [cellsOf, apartOf, and_true] at C
      dsimp only
      go_wp2_with fail
      go_ret
      exact H.givesS 2 (mk := fun v => v) rfl
end Go.Proofs.Ytcacgmfihhpliaa
