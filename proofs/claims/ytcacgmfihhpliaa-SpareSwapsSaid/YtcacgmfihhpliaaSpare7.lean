/- Package spare: Reserved, Turn. -/
import Derived.Test.YtcacgmfihhpliaaSpare6
import Derived.Test.YtcacgmfihhpliaaNum
namespace Go.Proofs.Ytcacgmfihhpliaa
set_option linter.unusedSimpArgs false
set_option linter.unusedVariables false
open Go.RowKit
set_option maxRecDepth 100000
attribute [local go_sem] lt_more ne_more ne_more'
attribute [local irreducible] wpX wpF Calls

@[reducible] def v6P (p : P6) : Value := v6 p.a p.b p.c p.d p.e p.f
theorem at_is {a0 a1 a2 a3 a4 a5 i : Int} (h : SV a0 a1 a2 a3 a4 a5) (hi0 : 0 ≤ i) (hi1 : i < 2 ^ (a0 + a1 + a2 + a3 + a4 + a5).toNat) (w : World) :
    Calls Try.prog 67 #[v6 a0 a1 a2 a3 a4 a5, .int .i64 i] w (Gives (.tuple #[v6P (atF a0 a1 a2 a3 a4 a5 i), .int .i64 0]) w) := by
  obtain ⟨x1, x2, x3, x4, x5, x6, h5, h4, h3, h2, h1, h0, hall⟩ := atF_steps h hi0 hi1
  exact at_yes h hi0 hi1 h5 h4 h3 h2 h1 h0 w
/-- Valid spares, whose slice lies there. -/
structure SpV (a0 a1 a2 a3 a4 a5 n : Int) (xs : List S8) (c : Nat) : Prop where
  sv : SV a0 a1 a2 a3 a4 a5
  n0 : 0 ≤ n ∧ n < rwz a4
  len : xs.length ≤ 16
  cap : xs.length ≤ c
  all : allR a0 a1 a2 a3 a4 a5 n xs = true
theorem SpV.valid {a0 a1 a2 a3 a4 a5 n : Int} {xs : List S8} {c : Nat} (h : SpV a0 a1 a2 a3 a4 a5 n xs c) {sa : Option Addr} (w : World) (hl : Lies w w.heap.size sa 8 xs.length (fun j => sC xs[j]!)) : Calls Try.prog 24 #[vSp a0 a1 a2 a3 a4 a5 n (.slice sa xs.length c)] w (Gives (.bool true) w) := by
  have := svalid_of h.sv h.n0 (sa := sa) c (xs := xs) (by have := h.len; omega) h.cap w hl
  rw [h.all, decide_eq_true h.len] at this
  exact this
theorem sreserved_of {a0 a1 a2 a3 a4 a5 n i : Int} {xs : List S8} {c : Nat} (h : SpV a0 a1 a2 a3 a4 a5 n xs c) (hi0 : 0 ≤ i) (hi1 : i < 2 ^ (a0 + a1 + a2 + a3 + a4 + a5).toNat) {sa : Option Addr} (w : World) (hl : Lies w w.heap.size sa 8 xs.length (fun j => sC xs[j]!)) :
    Calls Try.prog 34 #[vSp a0 a1 a2 a3 a4 a5 n (.slice sa xs.length c), .int .i64 i] w (Gives (.bool (decide (rwz a4 - n ≤ (atF a0 a1 a2 a3 a4 a5 i).e))) w) := by
  have HL := Lib.hid hl
  clear hl
  have HV := Lib.hid (fun w hl => h.valid (sa := sa) w hl)
  have HA := Lib.hid (fun w => at_is h.sv hi0 hi1 w)
  generalize atF a0 a1 a2 a3 a4 a5 i = q at *
  obtain ⟨q0, q1, q2, q3, q4, q5⟩ := q
  have HR := Lib.hid (fun w => reserved_of h.sv h.n0 sa xs.length c q4 w)
  clear hi1
  go_enter Try.func34, Try.ntmps34
  have H := HS.start NoD w
  go_wp2_with fail
  refine (HV.out _ (H.alloc.liesUp HL.out)).mono ?_
  rintro _ w1 ⟨rfl, hb⟩
  replace H := H.alloc.below hb
  clear hb
  try clear C
  try simp only [World.size_alloc, List.nil_append, List.cons_append, List.append_assoc] at H
  generalize w.heap.size = bX at H ⊢
  have C := H.cells
  try simp only [cellsOf, apartOf, and_true] at C
  dsimp only
  go_wp2_with fail
  refine (HA.out _).mono ?_
  rintro _ w2 ⟨rfl, hb⟩
  replace H := H.below hb
  clear hb
  try clear C
  try simp only [World.size_alloc, List.nil_append, List.cons_append, List.append_assoc] at H
  try clear w1
  have C := H.cells
  try simp only [cellsOf, apartOf, and_true] at C
  dsimp only
  go_wp2_with fail
  refine (HR.out _).mono ?_
  rintro _ w3 ⟨rfl, hb⟩
  replace H := H.alloc.below hb
  clear hb
  try clear C
  try simp only [World.size_alloc, List.nil_append, List.cons_append, List.append_assoc] at H
  generalize w2.heap.size = bP at H ⊢
  try clear w2
  have C := H.cells
  try simp only [cellsOf, apartOf, and_true] at C
  dsimp only
  go_wp2_with fail
  go_ret
  exact ⟨rfl, H.done⟩
/-- Does the swap t turn the row e of the bank of q? -/
def hitS (q : P6) (t : S8) : Bool := decide (t.p0 = q.a ∧ t.p1 = q.b ∧ t.p2 = q.c ∧ t.p3 = q.d ∧ t.p4 = 0 ∧ t.p5 = 0) && (decide (t.r = q.e) || decide (t.s = q.e))
/-- The row to which a row is turned. -/
def turnR (xs : List S8) (q : P6) : Int := match xs.find? (hitS q) with
  | some t => if t.r = q.e then t.s else t.r
  | none => q.e
theorem PV.row {a0 a1 a2 a3 a4 a5 p0 p1 p2 p3 p4 p5 r z : Int} (h : PV a0 a1 a2 a3 a4 a5 p0 p1 p2 p3 p4 p5) (h2 : PV a0 a1 a2 a3 a4 a5 p0 p1 p2 p3 r z) : PV a0 a1 a2 a3 a4 a5 p0 p1 p2 p3 r p5 := ⟨h.h0, h.h1, h.h2, h.h3, h2.h4, h.h5⟩
theorem SpV.ok {a0 a1 a2 a3 a4 a5 n : Int} {xs : List S8} {c : Nat} (h : SpV a0 a1 a2 a3 a4 a5 n xs c) {j : Nat} (hj : j < xs.length) : rightB a0 a1 a2 a3 a4 a5 n xs j = true ∧ okS a0 a1 a2 a3 a4 a5 n xs[j]! = true := by
  have h1 := List.all_eq_true.1 h.all j (List.mem_range.2 hj)
  refine ⟨h1, ?_⟩
  unfold rightB at h1
  exact (Bool.and_eq_true_iff.1 h1).1
theorem find_at {α : Type} [Inhabited α] {p : α → Bool} : ∀ {xs : List α} {j : Nat}, j < xs.length → (∀ k, k < j → p xs[k]! = false) → p xs[j]! = true → xs.find? p = some xs[j]!
  | [], j, h, _, _ => by simp at h
  | x :: xs, 0, _, _, h => by simpa [List.find?_cons] using by rw [show p x = true by simpa using h]
  | x :: xs, j + 1, hj, h1, h2 => by
    have hx : p x = false := by simpa using h1 0 (by omega)
    have := find_at (xs := xs) (j := j) (by simpa using hj) (fun k hk => by simpa using h1 (k + 1) (by omega)) (by simpa using h2)
    rw [List.find?_cons, hx]
    simpa using this
theorem find_none {α : Type} [Inhabited α] {p : α → Bool} {xs : List α} (h : ∀ k, k < xs.length → p xs[k]! = false) : xs.find? p = none := by
  rw [List.find?_eq_none]
  intro x hx
  obtain ⟨k, hk, rfl⟩ := List.getElem_of_mem hx
  have := h k hk
  rw [getElem!_pos xs k hk] at this
  simp [this]
set_option maxHeartbeats 4000000 in
theorem turn_of {a0 a1 a2 a3 a4 a5 n i : Int} {xs : List S8} {c : Nat} (h : SpV a0 a1 a2 a3 a4 a5 n xs c) (hi0 : 0 ≤ i) (hi1 : i < 2 ^ (a0 + a1 + a2 + a3 + a4 + a5).toNat) {q : P6} (hq : q = atF a0 a1 a2 a3 a4 a5 i) (hpv : PV a0 a1 a2 a3 a4 a5 q.a q.b q.c q.d q.e q.f) {sa : Option Addr} (w : World) (hl : Lies w w.heap.size sa 8 xs.length (fun j => sC xs[j]!)) :
    Calls Try.prog 32 #[vSp a0 a1 a2 a3 a4 a5 n (.slice sa xs.length c), .int .i64 i] w (Gives (.tuple #[.int .i64 (idx a1 a2 a3 a4 a5 q.a q.b q.c q.d (turnR xs q) q.f), .int .i64 0]) w) := by
  have HL := Lib.hid hl
  clear hl
  have HV := Lib.hid (fun w hl => h.valid (sa := sa) w hl)
  have HA := Lib.hid (fun w => by have := at_is h.sv hi0 hi1 w; rw [← hq] at this; exact this : ∀ w, Calls Try.prog 67 #[v6 a0 a1 a2 a3 a4 a5, .int .i64 i] w (Gives (.tuple #[v6P q, .int .i64 0]) w))
  obtain ⟨q0, q1, q2, q3, q4, q5⟩ := q
  dsimp only at hpv ⊢
  have HPV := Lib.hid hpv
  have HBK := Lib.hid (fun (row : Int) w => sbank_of q0 q1 q2 q3 row q5 w)
  have hlen := h.len
  clear hi0 hi1 hq hpv
  go_enter Try.func32, Try.ntmps32
  have H := HS.start NoD w
  go_wp2_with fail
  refine (HV.out _ (H.alloc.liesUp HL.out)).mono ?_
  rintro _ w1 ⟨rfl, hb⟩
  replace H := H.alloc.below hb
  clear hb
  try clear C
  try simp only [World.size_alloc, List.nil_append, List.cons_append, List.append_assoc] at H
  generalize w.heap.size = bX at H ⊢
  have C := H.cells
  try simp only [cellsOf, apartOf, and_true] at C
  dsimp only
  go_wp2_with fail
  refine (HA.out _).mono ?_
  rintro _ w2 ⟨rfl, hb⟩
  replace H := H.below hb
  clear hb
  try clear C
  try simp only [World.size_alloc, List.nil_append, List.cons_append, List.append_assoc] at H
  try clear w1
  have C := H.cells
  try simp only [cellsOf, apartOf, and_true] at C
  dsimp only
  go_wp2_with fail
  generalize hwb : w2.alloc _ = w3
  replace H := HS.eqW hwb H.alloc
  try simp only [World.size_alloc, List.nil_append, List.cons_append, List.append_assoc] at H
  clear hwb
  generalize w2.heap.size = bP at H ⊢
  try clear C
  try clear w2
  have C := H.cells
  try simp only [cellsOf, apartOf, and_true] at C
  go_loopw [25] (fun i wr => ∃ (j : Nat), i = .int .i64 j ∧ j ≤ xs.length ∧ Hid (∀ k, k < j → hitS ⟨q0, q1, q2, q3, q4, q5⟩ xs[k]! = false) ∧ HS NoD w [.blk bX #[.int .i64 a0, .int .i64 a1, .int .i64 a2, .int .i64 a3, .int .i64 a4, .int .i64 a5, .int .i64 n, .slice sa xs.length c] 26, .blk bP #[.int .i64 q0, .int .i64 q1, .int .i64 q2, .int .i64 q3, .int .i64 q4, .int .i64 q5] 28] wr) (fun i _ => xs.length - (intOf i).toNat)
  case atStart => exact ⟨0, rfl, Nat.zero_le _, fun k hk => absurd hk (Nat.not_lt_zero _), H⟩
  case round =>
    clear H C w3
    obtain ⟨j, rfl, hj, HF, H⟩ := hrel
    skip
    try clear C
    try simp only [World.size_alloc, List.nil_append, List.cons_append, List.append_assoc] at H
    have C := H.cells
    try simp only [cellsOf, apartOf, and_true] at C
    by_cases hlt : j < xs.length
    · obtain ⟨b, o, rfl, hb, hc⟩ := (H.lies HL.out).at hlt
      obtain ⟨hrt, hok⟩ := h.ok hlt
      obtain ⟨x, hxj⟩ : ∃ x, x = xs[j]! := ⟨_, rfl⟩
      rw [← hxj] at hc hok
      have HX := Lib.hid hxj
      obtain ⟨t0, t1, t2, t3, t4, t5, r, s⟩ := x
      have c0 : wr.cell? ⟨b, o + j * 8, none⟩ = some (.int .i64 t0) := hc 0 _ rfl
      have c1 : wr.cell? ⟨b, o + j * 8 + 1, none⟩ = some (.int .i64 t1) := hc 1 _ rfl
      have c2 : wr.cell? ⟨b, o + j * 8 + 2, none⟩ = some (.int .i64 t2) := hc 2 _ rfl
      have c3 : wr.cell? ⟨b, o + j * 8 + 3, none⟩ = some (.int .i64 t3) := hc 3 _ rfl
      have c4 : wr.cell? ⟨b, o + j * 8 + 4, none⟩ = some (.int .i64 t4) := hc 4 _ rfl
      have c5 : wr.cell? ⟨b, o + j * 8 + 5, none⟩ = some (.int .i64 t5) := hc 5 _ rfl
      have c6 : wr.cell? ⟨b, o + j * 8 + 6, none⟩ = some (.int .i64 r) := hc 6 _ rfl
      have c7 : wr.cell? ⟨b, o + j * 8 + 7, none⟩ = some (.int .i64 s) := hc 7 _ rfl
      have HOK := Lib.hid hok
      clear hc hxj hok hrt
      go_upto_region 9 with fail
      clear c0 c1 c2 c3 c4 c5 c6 c7
      skip
      by_cases hbk : t0 = q0 ∧ t1 = q1 ∧ t2 = q2 ∧ t3 = q3 ∧ t4 = 0 ∧ t5 = 0
      · have hq : ∀ w, (binOp .neq 28 (v6 t0 t1 t2 t3 t4 t5) (v6 q0 q1 q2 q3 0 0)).run Try.prog w = .ok (.bool false) w := fun w => by rw [neq6, decide_eq_true hbk]; rfl
        have HBE := Lib.hid hbk
        clear hbk
        refine wp_region_xH (by kernel_rfl) (by kernel_rfl) (by kernel_rfl) (by kernel_rfl) (fun _ => False) (H.alloc) ?_
        clear H; intro w4 H hz0 hs0
        try clear C
        try simp only [World.size_alloc, List.nil_append, List.cons_append, List.append_assoc] at H hz0
        generalize wr.heap.size = bT at H hz0 ⊢
        clear hz0
        try clear wr
        have C := H.cells
        try simp only [cellsOf, apartOf, and_true] at C
        have Z := H.zs
        try simp only [ltsOf, and_true] at Z
        have hz0 := Nat.le_refl w4.heap.size
        repeat (first | (refine wpX_skip rfl ?_; go_simp) | (refine wpX_free rfl rfl rfl (fun K hK => ?_); go_step; refine hK _ _ ?_; clear hK K) | (refine wpX_load rfl rfl rfl (by simp [Stay, OneD, NoD, *]) hs0 (by simp [*]) (fun K hK => ?_); go_step; refine hK _ _ ?_; clear hK K))
        refine wpX_eff rfl rfl (fun _ _ => ?_)
        go_step
        refine (HBK.out _ _).mono ?_
        rintro _ w5 ⟨rfl, hb⟩
        replace hs0 := hs0.belowS hz0 hb
        replace hz0 := Nat.le_trans hz0 hb.size
        replace H := H.below hb
        clear hb
        try clear C
        have C := H.cells
        try simp only [cellsOf, apartOf, and_true] at C
        try clear w4
        dsimp only
        go_step
        refine ⟨hs0, ?_⟩
        repeat (first | (refine wpX_skip rfl ?_; go_simp) | (refine wpX_free rfl rfl rfl (fun K hK => ?_); go_step; refine hK _ _ ?_; clear hK K) | (refine wpX_load rfl rfl rfl (by simp [Stay, OneD, NoD, *]) hs0 (by simp [*]) (fun K hK => ?_); go_step; refine hK _ _ ?_; clear hK K))
        (refine wpX_yield rfl rfl ((.bool false)) (fun w hw => by go_simp) ?_; go_simp)
        repeat (first | (refine wpX_skip rfl ?_; go_simp) | (refine wpX_free rfl rfl rfl (fun K hK => ?_); go_step; refine hK _ _ ?_; clear hK K) | (refine wpX_load rfl rfl rfl (by simp [Stay, OneD, NoD, *]) hs0 (by simp [*]) (fun K hK => ?_); go_step; refine hK _ _ ?_; clear hK K))
        (refine wpX_nil ?_; go_step)
        clear hq
        obtain ⟨rfl, rfl, rfl, rfl, rfl, rfl⟩ := HBE.out
        have hok := HOK.out
        simp only [okS, Bool.and_eq_true, decide_eq_true_eq] at hok
        obtain ⟨-, hpr, hps, -⟩ := hok
        skip
        by_cases hr : r = q4
        · have hpz := hps
          have HI := Lib.hid (fun w => index_yes h.sv (HPV.out.row hpz) w : ∀ w, Calls Try.prog 68 #[v6 a0 a1 a2 a3 a4 a5, v6 t0 t1 t2 t3 s q5] w (Gives (.tuple #[.int .i64 (idx a1 a2 a3 a4 a5 t0 t1 t2 t3 s q5), .int .i64 0]) w))
          have ht : turnR xs ⟨t0, t1, t2, t3, q4, q5⟩ = s := by
            unfold turnR
            rw [find_at hlt HF.out (by rw [← HX.out]; simp [hitS, hr]), ← HX.out]
            dsimp only
            rw [if_pos hr]
          have HT := Lib.hid ht
          clear hpz hpr hps ht
          go_wp2_with fail
          replace H := H.setTo (o := 4) (v := .int .i64 s) 1 rfl rfl
          refine (HI.out _).mono ?_
          rintro _ w6 ⟨rfl, hb⟩
          replace H := H.below hb
          clear hb
          try clear C
          try simp only [World.size_alloc, List.nil_append, List.cons_append, List.append_assoc] at H
          try clear w5
          have C := H.cells
          try simp only [cellsOf, apartOf, and_true] at C
          dsimp only
          go_wp2_with fail
          go_ret2
          exact ⟨by rw [HT.out]; rfl, H.done⟩
        · by_cases hs : s = q4
          · have hpz := hpr
            have HI := Lib.hid (fun w => index_yes h.sv (HPV.out.row hpz) w : ∀ w, Calls Try.prog 68 #[v6 a0 a1 a2 a3 a4 a5, v6 t0 t1 t2 t3 r q5] w (Gives (.tuple #[.int .i64 (idx a1 a2 a3 a4 a5 t0 t1 t2 t3 r q5), .int .i64 0]) w))
            have ht : turnR xs ⟨t0, t1, t2, t3, q4, q5⟩ = r := by
              unfold turnR
              rw [find_at hlt HF.out (by rw [← HX.out]; simp [hitS, hs]), ← HX.out]
              dsimp only
              rw [if_neg hr]
            have HT := Lib.hid ht
            clear hpz hpr hps ht
            skip
            go_wp2_with fail
            replace H := H.setTo (o := 4) (v := .int .i64 r) 1 rfl rfl
            refine (HI.out _).mono ?_
            rintro _ w7 ⟨rfl, hb⟩
            replace H := H.below hb
            clear hb
            try clear C
            try simp only [World.size_alloc, List.nil_append, List.cons_append, List.append_assoc] at H
            try clear w5
            have C := H.cells
            try simp only [cellsOf, apartOf, and_true] at C
            dsimp only
            go_wp2_with fail
            go_ret2
            exact ⟨by rw [HT.out]; rfl, H.done⟩
          · have hh : hitS ⟨t0, t1, t2, t3, q4, q5⟩ ⟨t0, t1, t2, t3, 0, 0, r, s⟩ = false := by simp [hitS, hr, hs]
            have HH := Lib.hid hh
            clear hpr hps hh
            skip
            go_wp2_with fail
            go_roundw
            case rel =>
              refine ⟨j + 1, by go_num, by omega, (show Hid _ from fun k hk => ?_), H.less (by repeat (first | exact .slnil | refine .cons_cons _ ?_ | refine .cons _ ?_))⟩
              by_cases e : k = j
              · rw [e, ← HX.out]; exact HH.out
              · exact HF.out k (by omega)
            case measure => simp [intOf]; omega
      · have hq : ∀ w, (binOp .neq 28 (v6 t0 t1 t2 t3 t4 t5) (v6 q0 q1 q2 q3 0 0)).run Try.prog w = .ok (.bool true) w := fun w => by rw [neq6, decide_eq_false hbk]; rfl
        have HBE := Lib.hid hbk
        clear hbk
        skip
        refine wp_region_xH (by kernel_rfl) (by kernel_rfl) (by kernel_rfl) (by kernel_rfl) (fun _ => False) (H.alloc) ?_
        clear H; intro w8 H hz0 hs0
        try clear C
        try simp only [World.size_alloc, List.nil_append, List.cons_append, List.append_assoc] at H hz0
        generalize wr.heap.size = bT at H hz0 ⊢
        clear hz0
        try clear wr
        have C := H.cells
        try simp only [cellsOf, apartOf, and_true] at C
        have Z := H.zs
        try simp only [ltsOf, and_true] at Z
        have hz0 := Nat.le_refl w8.heap.size
        repeat (first | (refine wpX_skip rfl ?_; go_simp) | (refine wpX_free rfl rfl rfl (fun K hK => ?_); go_step; refine hK _ _ ?_; clear hK K) | (refine wpX_load rfl rfl rfl (by simp [Stay, OneD, NoD, *]) hs0 (by simp [*]) (fun K hK => ?_); go_step; refine hK _ _ ?_; clear hK K))
        refine wpX_eff rfl rfl (fun _ _ => ?_)
        go_step
        refine (HBK.out _ _).mono ?_
        rintro _ w9 ⟨rfl, hb⟩
        replace hs0 := hs0.belowS hz0 hb
        replace hz0 := Nat.le_trans hz0 hb.size
        replace H := H.below hb
        clear hb
        try clear C
        have C := H.cells
        try simp only [cellsOf, apartOf, and_true] at C
        try clear w8
        dsimp only
        go_step
        refine ⟨hs0, ?_⟩
        repeat (first | (refine wpX_skip rfl ?_; go_simp) | (refine wpX_free rfl rfl rfl (fun K hK => ?_); go_step; refine hK _ _ ?_; clear hK K) | (refine wpX_load rfl rfl rfl (by simp [Stay, OneD, NoD, *]) hs0 (by simp [*]) (fun K hK => ?_); go_step; refine hK _ _ ?_; clear hK K))
        (refine wpX_yield rfl rfl ((.bool true)) (fun w hw => by go_simp) ?_; go_simp)
        repeat (first | (refine wpX_skip rfl ?_; go_simp) | (refine wpX_free rfl rfl rfl (fun K hK => ?_); go_step; refine hK _ _ ?_; clear hK K) | (refine wpX_load rfl rfl rfl (by simp [Stay, OneD, NoD, *]) hs0 (by simp [*]) (fun K hK => ?_); go_step; refine hK _ _ ?_; clear hK K))
        (refine wpX_nil ?_; go_step)
        clear hq
        go_wp2_with fail
        go_roundw
        case rel =>
          refine ⟨j + 1, by go_num, by omega, (show Hid _ from fun k hk => ?_), H.less (by repeat (first | exact .slnil | refine .cons_cons _ ?_ | refine .cons _ ?_))⟩
          by_cases e : k = j
          · rw [e, ← HX.out]; unfold hitS; dsimp only; rw [decide_eq_false HBE.out]; rfl
          · exact HF.out k (by omega)
        case measure => simp [intOf]; omega
    · have ht : turnR xs ⟨q0, q1, q2, q3, q4, q5⟩ = q4 := by
        unfold turnR
        rw [find_none (fun k hk => HF.out k (by omega))]
      have HI := Lib.hid (fun w => index_yes h.sv HPV.out w)
      have HT := Lib.hid ht
      clear ht
      skip
      go_wp2_with fail
      refine (HI.out _).mono ?_
      rintro _ w10 ⟨rfl, hb⟩
      replace H := H.below hb
      clear hb
      try clear C
      try simp only [World.size_alloc, List.nil_append, List.cons_append, List.append_assoc] at H
      try clear wr
      have C := H.cells
      try simp only [cellsOf, apartOf, and_true] at C
      dsimp only
      go_wp2_with fail
      go_ret2
      exact ⟨by rw [HT.out]; rfl, H.done⟩
end Go.Proofs.Ytcacgmfihhpliaa
