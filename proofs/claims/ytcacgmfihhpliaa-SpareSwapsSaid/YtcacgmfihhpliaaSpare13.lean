/- The document's answer for spares: Valid. (Written by gen13.py.) -/
import Derived.Test.YtcacgmfihhpliaaSpare12
namespace Go.Proofs.Ytcacgmfihhpliaa
set_option linter.unusedSimpArgs false
set_option linter.unusedVariables false
open Go.RowKit
set_option maxRecDepth 100000
attribute [local go_sem] lt_more ne_more ne_more'
attribute [local irreducible] wpX wpF Calls

theorem okS_iff {a0 a1 a2 a3 a4 a5 n : Int} (hn : 0 ≤ n ∧ n < rwz a4) {p0 p1 p2 p3 p4 p5 r s : Int} :
    okS a0 a1 a2 a3 a4 a5 n ⟨p0, p1, p2, p3, p4, p5, r, s⟩ = true ↔ PV a0 a1 a2 a3 a4 a5 p0 p1 p2 p3 p4 p5 ∧ p4 = 0 ∧ p5 = 0 ∧ 0 ≤ r ∧ r < rwz a4 - n ∧ rwz a4 - n ≤ s ∧ s < rwz a4 := by
  have q : rwz a4 = 2 ^ a4.toNat := rfl
  simp only [okS, Bool.and_eq_true, decide_eq_true_eq]
  constructor
  · rintro ⟨⟨rfl, rfl⟩, h1, h2, h3, h4⟩
    have e1 := h1.h4
    have e2 := h2.h4
    exact ⟨⟨h1.h0, h1.h1, h1.h2, h1.h3, by omega, h1.h5⟩, rfl, rfl, e1.1, by omega, h4, by omega⟩
  · rintro ⟨h1, rfl, rfl, h2, h3, h4, h5⟩
    exact ⟨⟨rfl, rfl⟩, ⟨h1.h0, h1.h1, h1.h2, h1.h3, by omega, h1.h5⟩, ⟨h1.h0, h1.h1, h1.h2, h1.h3, by omega, h1.h5⟩, by omega, h4⟩
theorem allR_no {a0 a1 a2 a3 a4 a5 n : Int} {xs : List S8} {j : Nat} (hj : j < xs.length) (h : rightB a0 a1 a2 a3 a4 a5 n xs j = false) : allR a0 a1 a2 a3 a4 a5 n xs = false := by
  unfold allR
  rw [List.all_eq_false]
  exact ⟨j, List.mem_range.2 hj, by rw [h]; decide⟩
theorem take_any {α : Type} [Inhabited α] {p : α → Bool} {xs : List α} {j m : Nat} (hj : j ≤ xs.length) (hm : m < j) (h : p xs[m]! = true) : (xs.take j).any p = true := by
  rw [List.any_eq_true]
  have h1 : m < (xs.take j).length := by rw [List.length_take]; omega
  refine ⟨(xs.take j)[m], List.getElem_mem h1, ?_⟩
  rw [List.getElem_take]
  rwa [getElem!_pos xs m (by omega)] at h
theorem take_none {α : Type} [Inhabited α] {p : α → Bool} {xs : List α} {j : Nat} (hj : j ≤ xs.length) (h : ∀ k, k < j → p xs[k]! = false) : (xs.take j).any p = false := by
  rw [List.any_eq_false]
  intro x hx
  obtain ⟨k, hk, rfl⟩ := List.getElem_of_mem hx
  rw [List.length_take] at hk
  have := h k (by omega)
  rw [List.getElem_take]
  rw [getElem!_pos xs k (by omega)] at this
  simp [this]
theorem qvalid_bad {a0 a1 a2 a3 a4 a5 : Int} (h : ¬ SV a0 a1 a2 a3 a4 a5) (n : Int) (sa : Option Addr) (m c : Nat) (w : World) : Calls Try.prog 25 #[vSp a0 a1 a2 a3 a4 a5 n (.slice sa m c)] w (Gives (.bool false) w) := by
  have HV := Lib.hid (fun w => qnew_bad h n w)
  go_enter Try.func25, Try.ntmps25
  have H := HS.start NoD w
  go_wp2_with fail
  refine (HV.out _).mono ?_
  rintro _ w1 ⟨rfl, hb⟩
  replace H := H.alloc.below hb
  clear hb
  try clear C
  try simp only [World.size_alloc, List.nil_append, List.cons_append, List.append_assoc] at H
  generalize w.heap.size = bX at H ⊢
  have C := H.cells
  try simp only [cellsOf, apartOf, and_true] at C
  dsimp only
  go_wp2_with fail
  go_ret
  exact ⟨rfl, by first | exact H.done | exact H.alloc.done | exact H.skipAlloc.done⟩
theorem qvalid_sized {a0 a1 a2 a3 a4 a5 n : Int} (h : SV a0 a1 a2 a3 a4 a5) (hn : ¬ (0 ≤ n ∧ n < rwz a4)) (sa : Option Addr) (m c : Nat) (w : World) : Calls Try.prog 25 #[vSp a0 a1 a2 a3 a4 a5 n (.slice sa m c)] w (Gives (.bool false) w) := by
  have HV := Lib.hid (fun w => qnew_range h hn w)
  go_enter Try.func25, Try.ntmps25
  have H := HS.start NoD w
  go_wp2_with fail
  refine (HV.out _).mono ?_
  rintro _ w1 ⟨rfl, hb⟩
  replace H := H.alloc.below hb
  clear hb
  try clear C
  try simp only [World.size_alloc, List.nil_append, List.cons_append, List.append_assoc] at H
  generalize w.heap.size = bX at H ⊢
  have C := H.cells
  try simp only [cellsOf, apartOf, and_true] at C
  dsimp only
  go_wp2_with fail
  go_ret
  exact ⟨rfl, by first | exact H.done | exact H.alloc.done | exact H.skipAlloc.done⟩
set_option maxHeartbeats 8000000 in
theorem qvalid_of {a0 a1 a2 a3 a4 a5 n : Int} (h : SV a0 a1 a2 a3 a4 a5) (hn : 0 ≤ n ∧ n < rwz a4) {sa : Option Addr} (c : Nat) {xs : List S8} (hx : xs.length ≤ 1000) (hcap : xs.length ≤ c) (w : World) (hl : Lies w w.heap.size sa 8 xs.length (fun j => sC xs[j]!)) :
    Calls Try.prog 25 #[vSp a0 a1 a2 a3 a4 a5 n (.slice sa xs.length c)] w (Gives (.bool (decide (xs.length ≤ 16) && allR a0 a1 a2 a3 a4 a5 n xs)) w) := by
  have HL := Lib.hid hl
  clear hl
  have HNW := Lib.hid (fun w => qnew_yes h hn w)
  have HRW := Lib.hid (fun w => qrows_of h w)
  have hz := rwz_in h
  have HVP := Lib.hid (fun p0 p1 p2 p3 p4 p5 w => rvalidPlace_any (p0 := p0) (p1 := p1) (p2 := p2) (p3 := p3) (p4 := p4) (p5 := p5) h w)
  have hok : ∀ p0 p1 p2 p3 p4 p5 r s, okS a0 a1 a2 a3 a4 a5 n ⟨p0, p1, p2, p3, p4, p5, r, s⟩ = true ↔ PV a0 a1 a2 a3 a4 a5 p0 p1 p2 p3 p4 p5 ∧ p4 = 0 ∧ p5 = 0 ∧ 0 ≤ r ∧ r < rwz a4 - n ∧ rwz a4 - n ≤ s ∧ s < rwz a4 := fun _ _ _ _ _ _ _ _ => okS_iff hn
  have HOK := Lib.hid hok
  clear hok
  generalize rwz a4 = R at *
  go_enter Try.func25, Try.ntmps25
  have H := HS.start NoD w
  go_wp2_with fail
  refine (HNW.out _).mono ?_
  rintro _ w1 ⟨rfl, hb⟩
  replace H := H.alloc.below hb
  clear hb
  try clear C
  try simp only [World.size_alloc, List.nil_append, List.cons_append, List.append_assoc] at H
  generalize w.heap.size = bX at H ⊢
  have C := H.cells
  try simp only [cellsOf, apartOf, and_true] at C
  dsimp only
  go_wp2_with fail
  go_upto_region 4 with fail
  refine wp_region_xH (by kernel_rfl) (by kernel_rfl) (by kernel_rfl) (by kernel_rfl) (fun _ => False) (H.alloc) ?_
  clear H; intro w2 H hz0 hs0
  try clear C
  try simp only [World.size_alloc, List.nil_append, List.cons_append, List.append_assoc] at H hz0
  generalize w1.heap.size = bN at H hz0 ⊢
  clear hz0
  try clear w1
  have C := H.cells
  try simp only [cellsOf, apartOf, and_true] at C
  have Z := H.zs
  try simp only [ltsOf, and_true] at Z
  have hz0 := Nat.le_refl w2.heap.size
  repeat (first | (refine wpX_skip rfl ?_; go_simp) | (refine wpX_free rfl rfl rfl (fun K hK => ?_); go_step; refine hK _ _ ?_; clear hK K) | (refine wpX_load rfl rfl rfl (by simp [Stay, OneD, NoD, *]) hs0 (by simp [*]) (fun K hK => ?_); go_step; refine hK _ _ ?_; clear hK K))
  refine wpX_eff rfl rfl (fun _ _ => ?_)
  go_step
  refine (HRW.out _).mono ?_
  rintro _ w3 ⟨rfl, hb⟩
  replace hs0 := hs0.belowS hz0 hb
  replace hz0 := Nat.le_trans hz0 hb.size
  replace H := H.below hb
  clear hb
  try clear C
  have C := H.cells
  try simp only [cellsOf, apartOf, and_true] at C
  try clear w2
  dsimp only
  go_step
  refine ⟨hs0, ?_⟩
  repeat (first | (refine wpX_skip rfl ?_; go_simp) | (refine wpX_free rfl rfl rfl (fun K hK => ?_); go_step; refine hK _ _ ?_; clear hK K) | (refine wpX_load rfl rfl rfl (by simp [Stay, OneD, NoD, *]) hs0 (by simp [*]) (fun K hK => ?_); go_step; refine hK _ _ ?_; clear hK K))
  (refine wpX_nil ?_; go_step)
  go_wp2_with fail
  have hq0 : R - n ≤ R := by omega
  go_loopw [29] (fun i wr => ∃ (j : Nat), i = .int .i64 j ∧ j ≤ xs.length ∧ Hid (∀ k, k < j → rightB a0 a1 a2 a3 a4 a5 n xs k = true) ∧ HS NoD w [.blk bX #[.int .i64 a0, .int .i64 a1, .int .i64 a2, .int .i64 a3, .int .i64 a4, .int .i64 a5, .int .i64 n, .slice sa xs.length c] 26] wr) (fun i _ => xs.length - (intOf i).toNat)
  case atStart => exact ⟨0, rfl, Nat.zero_le _, fun k hk => absurd hk (Nat.not_lt_zero _), H.less (by repeat (first | exact .slnil | refine .cons_cons _ ?_ | refine .cons _ ?_))⟩
  case round =>
    clear H C
    try clear hs0
    try clear hz0
    try clear Z
    clear w3
    obtain ⟨j, rfl, hj, HF, H⟩ := hrel
    skip
    try clear C
    try simp only [World.size_alloc, List.nil_append, List.cons_append, List.append_assoc] at H
    have C := H.cells
    try simp only [cellsOf, apartOf, and_true] at C
    by_cases hlt : j < xs.length
    · obtain ⟨b, o, rfl, hb, hc⟩ := (H.lies HL.out).at hlt
      have hrb : rightB a0 a1 a2 a3 a4 a5 n xs j = (okS a0 a1 a2 a3 a4 a5 n xs[j]! && !((xs.take j).any (clash xs[j]!))) := rfl
      obtain ⟨x, hxj⟩ : ∃ x, x = xs[j]! := ⟨_, rfl⟩
      rw [← hxj] at hc hrb
      have HX := Lib.hid hxj
      have HRB := Lib.hid hrb
      obtain ⟨p0, p1, p2, p3, p4, p5, r, s⟩ := x
      have c0 : wr.cell? ⟨b, o + j * 8, none⟩ = some (.int .i64 p0) := hc 0 _ rfl
      have c1 : wr.cell? ⟨b, o + j * 8 + 1, none⟩ = some (.int .i64 p1) := hc 1 _ rfl
      have c2 : wr.cell? ⟨b, o + j * 8 + 2, none⟩ = some (.int .i64 p2) := hc 2 _ rfl
      have c3 : wr.cell? ⟨b, o + j * 8 + 3, none⟩ = some (.int .i64 p3) := hc 3 _ rfl
      have c4 : wr.cell? ⟨b, o + j * 8 + 4, none⟩ = some (.int .i64 p4) := hc 4 _ rfl
      have c5 : wr.cell? ⟨b, o + j * 8 + 5, none⟩ = some (.int .i64 p5) := hc 5 _ rfl
      have c6 : wr.cell? ⟨b, o + j * 8 + 6, none⟩ = some (.int .i64 r) := hc 6 _ rfl
      have c7 : wr.cell? ⟨b, o + j * 8 + 7, none⟩ = some (.int .i64 s) := hc 7 _ rfl
      clear hc hxj hrb
      go_upto_region 8 with fail
      clear c0 c1 c2 c3 c4 c5 c6 c7
      have HO := Lib.hid (HOK.out p0 p1 p2 p3 p4 p5 r s)
      have HVJ := Lib.hid (HVP.out p0 p1 p2 p3 p4 p5)
      have HBK := Lib.hid (fun w => qbank_of p0 p1 p2 p3 p4 p5 w)
      skip
      by_cases hc0 : PV a0 a1 a2 a3 a4 a5 p0 p1 p2 p3 p4 p5
      · skip
        have HV1 := Lib.hid (fun w => by have := HVJ.out w; rw [decide_eq_true hc0] at this; exact this : ∀ w, Calls Try.prog 56 #[v6 a0 a1 a2 a3 a4 a5, v6 p0 p1 p2 p3 p4 p5] w (Gives (.bool true) w))
        by_cases hc1 : p4 = 0 ∧ p5 = 0
        · skip
          obtain ⟨rfl, rfl⟩ := hc1
          have hq : ∀ w, (binOp .neq 28 (v6 p0 p1 p2 p3 0 0) (v6 p0 p1 p2 p3 0 0)).run Try.prog w = .ok (.bool false) w := fun w => by rw [neq6, decide_eq_true ⟨rfl, rfl, rfl, rfl, rfl, rfl⟩]; rfl
          by_cases hc2 : ¬ r < 0
          · skip
            by_cases hc3 : ¬ R - n ≤ r
            · skip
              by_cases hc4 : ¬ s < R - n
              · skip
                by_cases hc5 : ¬ R ≤ s
                · skip
                  skip
                  refine wp_region_xH (by kernel_rfl) (by kernel_rfl) (by kernel_rfl) (by kernel_rfl) (fun _ => False) (H.alloc) ?_
                  clear H; intro w4 H hz0 hs0
                  try clear C
                  try simp only [World.size_alloc, List.nil_append, List.cons_append, List.append_assoc] at H hz0
                  generalize wr.heap.size = bW at H hz0 ⊢
                  clear hz0
                  try clear wr
                  have C := H.cells
                  try simp only [cellsOf, apartOf, and_true] at C
                  have Z := H.zs
                  try simp only [ltsOf, and_true] at Z
                  have hz0 := Nat.le_refl w4.heap.size
                  repeat (first | (refine wpX_skip rfl ?_; go_simp) | (refine wpX_free rfl rfl rfl (fun K hK => ?_); go_step; refine hK _ _ ?_; clear hK K) | (refine wpX_load rfl rfl rfl (by simp [Stay, OneD, NoD, *]) hs0 (by simp [*]) (fun K hK => ?_); go_step; refine hK _ _ ?_; clear hK K))
                  refine wpX_eff rfl rfl (fun _ _ => ?_)
                  go_step
                  refine (HV1.out _).mono ?_
                  rintro _ w5 ⟨rfl, hb⟩
                  replace hs0 := hs0.belowS hz0 hb
                  replace hz0 := Nat.le_trans hz0 hb.size
                  replace H := H.below hb
                  clear hb
                  try clear C
                  have C := H.cells
                  try simp only [cellsOf, apartOf, and_true] at C
                  try clear w4
                  dsimp only
                  go_step
                  refine ⟨hs0, ?_⟩
                  repeat (first | (refine wpX_skip rfl ?_; go_simp) | (refine wpX_free rfl rfl rfl (fun K hK => ?_); go_step; refine hK _ _ ?_; clear hK K) | (refine wpX_load rfl rfl rfl (by simp [Stay, OneD, NoD, *]) hs0 (by simp [*]) (fun K hK => ?_); go_step; refine hK _ _ ?_; clear hK K))
                  refine wpX_eff rfl rfl (fun _ _ => ?_)
                  go_step
                  refine (HBK.out _).mono ?_
                  rintro _ w6 ⟨rfl, hb⟩
                  replace hs0 := hs0.belowS hz0 hb
                  replace hz0 := Nat.le_trans hz0 hb.size
                  replace H := H.below hb
                  clear hb
                  try clear C
                  have C := H.cells
                  try simp only [cellsOf, apartOf, and_true] at C
                  try clear w5
                  dsimp only
                  go_step
                  refine ⟨hs0, ?_⟩
                  repeat (first | (refine wpX_skip rfl ?_; go_simp) | (refine wpX_free rfl rfl rfl (fun K hK => ?_); go_step; refine hK _ _ ?_; clear hK K) | (refine wpX_load rfl rfl rfl (by simp [Stay, OneD, NoD, *]) hs0 (by simp [*]) (fun K hK => ?_); go_step; refine hK _ _ ?_; clear hK K))
                  (refine wpX_yield rfl rfl ((.bool false)) (fun w hw => by go_simp) ?_; go_simp)
                  repeat (first | (refine wpX_skip rfl ?_; go_simp) | (refine wpX_free rfl rfl rfl (fun K hK => ?_); go_step; refine hK _ _ ?_; clear hK K) | (refine wpX_load rfl rfl rfl (by simp [Stay, OneD, NoD, *]) hs0 (by simp [*]) (fun K hK => ?_); go_step; refine hK _ _ ?_; clear hK K))
                  refine wpX_eff rfl rfl (fun _ _ => ?_)
                  go_step
                  refine (HRW.out _).mono ?_
                  rintro _ w7 ⟨rfl, hb⟩
                  replace hs0 := hs0.belowS hz0 hb
                  replace hz0 := Nat.le_trans hz0 hb.size
                  replace H := H.below hb
                  clear hb
                  try clear C
                  have C := H.cells
                  try simp only [cellsOf, apartOf, and_true] at C
                  try clear w6
                  dsimp only
                  go_step
                  refine ⟨hs0, ?_⟩
                  repeat (first | (refine wpX_skip rfl ?_; go_simp) | (refine wpX_free rfl rfl rfl (fun K hK => ?_); go_step; refine hK _ _ ?_; clear hK K) | (refine wpX_load rfl rfl rfl (by simp [Stay, OneD, NoD, *]) hs0 (by simp [*]) (fun K hK => ?_); go_step; refine hK _ _ ?_; clear hK K))
                  (refine wpX_nil ?_; go_step)
                  have hyes : okS a0 a1 a2 a3 a4 a5 n ⟨p0, p1, p2, p3, 0, 0, r, s⟩ = true := HO.out.2 ⟨hc0, rfl, rfl, by omega, by omega, by omega, by omega⟩
                  have HYES := Lib.hid hyes
                  clear hq hyes
                  have hjc : j ≤ c := by omega
                  go_wp2_with fail
                  go_loopw [78] (fun cc wr => ∃ (m : Nat), cc = .int .i64 m ∧ m ≤ j ∧ Hid (∀ k, k < m → clash ⟨p0, p1, p2, p3, 0, 0, r, s⟩ xs[k]! = false) ∧ HS NoD w [.blk bX #[.int .i64 a0, .int .i64 a1, .int .i64 a2, .int .i64 a3, .int .i64 a4, .int .i64 a5, .int .i64 n, .slice (some ⟨b, o, none⟩) xs.length c] 26, .blk bW #[.int .i64 p0, .int .i64 p1, .int .i64 p2, .int .i64 p3, .int .i64 0, .int .i64 0, .int .i64 r, .int .i64 s] 38] wr) (fun cc _ => j - (intOf cc).toNat)
                  case atStart => exact ⟨0, rfl, Nat.zero_le _, fun k hk => absurd hk (Nat.not_lt_zero _), H⟩
                  case round =>
                    clear H C
                    try clear hs0
                    try clear hz0
                    try clear Z
                    clear w7
                    obtain ⟨m, rfl, hm, HFC, H⟩ := hrel
                    skip
                    try clear C
                    try simp only [World.size_alloc, List.nil_append, List.cons_append, List.append_assoc] at H
                    have C := H.cells
                    try simp only [cellsOf, apartOf, and_true] at C
                    by_cases hml : m < j
                    · have hmx : m < xs.length := by omega
                      obtain ⟨b', o', hbo, -, hc⟩ := (H.lies HL.out).at hmx
                      obtain ⟨rfl, rfl⟩ : b' = b ∧ o' = o := by simpa [eq_comm] using hbo
                      clear hbo
                      obtain ⟨y, hyj⟩ : ∃ y, y = xs[m]! := ⟨_, rfl⟩
                      rw [← hyj] at hc
                      have HY := Lib.hid hyj
                      obtain ⟨t0, t1, t2, t3, t4, t5, u, v⟩ := y
                      have c0 : wr.cell? ⟨b', o' + m * 8, none⟩ = some (.int .i64 t0) := hc 0 _ rfl
                      have c1 : wr.cell? ⟨b', o' + m * 8 + 1, none⟩ = some (.int .i64 t1) := hc 1 _ rfl
                      have c2 : wr.cell? ⟨b', o' + m * 8 + 2, none⟩ = some (.int .i64 t2) := hc 2 _ rfl
                      have c3 : wr.cell? ⟨b', o' + m * 8 + 3, none⟩ = some (.int .i64 t3) := hc 3 _ rfl
                      have c4 : wr.cell? ⟨b', o' + m * 8 + 4, none⟩ = some (.int .i64 t4) := hc 4 _ rfl
                      have c5 : wr.cell? ⟨b', o' + m * 8 + 5, none⟩ = some (.int .i64 t5) := hc 5 _ rfl
                      have c6 : wr.cell? ⟨b', o' + m * 8 + 6, none⟩ = some (.int .i64 u) := hc 6 _ rfl
                      have c7 : wr.cell? ⟨b', o' + m * 8 + 7, none⟩ = some (.int .i64 v) := hc 7 _ rfl
                      clear hc hyj
                      go_upto_region 13 with fail
                      generalize hwb : wr.alloc _ = w8
                      replace H := HS.eqW hwb H.alloc
                      try simp only [World.size_alloc, List.nil_append, List.cons_append, List.append_assoc] at H
                      clear hwb
                      generalize wr.heap.size = bY at H ⊢
                      try clear C
                      try clear wr
                      have C := H.cells
                      try simp only [cellsOf, apartOf, and_true] at C
                      clear c0 c1 c2 c3 c4 c5 c6 c7
                      skip
                      by_cases hbk : t0 = p0 ∧ t1 = p1 ∧ t2 = p2 ∧ t3 = p3 ∧ t4 = 0 ∧ t5 = 0
                      · have hq : ∀ w, (binOp .eql 28 (v6 t0 t1 t2 t3 t4 t5) (v6 p0 p1 p2 p3 0 0)).run Try.prog w = .ok (.bool true) w := fun w => by rw [eql6, decide_eq_true hbk]
                        have HBE := Lib.hid hbk
                        clear hbk
                        by_cases hur : u = r
                        · skip
                          go_wp2_with fail
                          clear hq
                          go_ret
                          refine ⟨?_, H.done⟩
                          have hcl : clash ⟨p0, p1, p2, p3, 0, 0, r, s⟩ xs[m]! = true := by rw [← HY.out]; unfold clash; rw [decide_eq_true HBE.out]; simp [hur]
                          rw [allR_no hlt (by rw [HRB.out, take_any (Nat.le_of_lt hlt) hml hcl]; simp), Bool.and_false]
                          rfl
                        · have hub : (u == r) = false := beq_eq_false_iff_ne.2 hur
                          by_cases hvs : v = s
                          · skip
                            go_wp2_with fail
                            clear hq
                            go_ret
                            refine ⟨?_, H.done⟩
                            have hcl : clash ⟨p0, p1, p2, p3, 0, 0, r, s⟩ xs[m]! = true := by rw [← HY.out]; unfold clash; rw [decide_eq_true HBE.out]; simp [hvs]
                            rw [allR_no hlt (by rw [HRB.out, take_any (Nat.le_of_lt hlt) hml hcl]; simp), Bool.and_false]
                            rfl
                          · skip
                            go_wp2_with fail
                            clear hq
                            go_roundw
                            case rel =>
                              refine ⟨m + 1, by go_num, by omega, (show Hid _ from fun k hk => ?_), H.less (by repeat (first | exact .slnil | refine .cons_cons _ ?_ | refine .cons _ ?_))⟩
                              by_cases e : k = m
                              · rw [e, ← HY.out]; unfold clash; simp [hur, hvs]
                              · exact HFC.out k (by omega)
                            case measure => simp [intOf]; omega
                      · have hq : ∀ w, (binOp .eql 28 (v6 t0 t1 t2 t3 t4 t5) (v6 p0 p1 p2 p3 0 0)).run Try.prog w = .ok (.bool false) w := fun w => by rw [eql6, decide_eq_false hbk]
                        have HBE := Lib.hid hbk
                        clear hbk
                        skip
                        go_wp2_with fail
                        clear hq
                        go_roundw
                        case rel =>
                          refine ⟨m + 1, by go_num, by omega, (show Hid _ from fun k hk => ?_), H.less (by repeat (first | exact .slnil | refine .cons_cons _ ?_ | refine .cons _ ?_))⟩
                          by_cases e : k = m
                          · rw [e, ← HY.out]; unfold clash; rw [decide_eq_false HBE.out]; rfl
                          · exact HFC.out k (by omega)
                        case measure => simp [intOf]; omega
                    · have hmj : m = j := by omega
                      have HRJ := Lib.hid (show rightB a0 a1 a2 a3 a4 a5 n xs j = true by rw [HRB.out, HYES.out, take_none (Nat.le_of_lt hlt) (fun k hk => HFC.out k (by omega))]; rfl)
                      clear hmj
                      skip
                      go_wp2_with fail
                      go_roundw
                      case rel =>
                        refine ⟨j + 1, by go_num, by omega, (show Hid _ from fun k hk => ?_), H.less (by repeat (first | exact .slnil | refine .cons_cons _ ?_ | refine .cons _ ?_))⟩
                        by_cases e : k = j
                        · rw [e]; exact HRJ.out
                        · exact HF.out k (by omega)
                      case measure => simp [intOf]; omega
                · skip
                  replace hc5 : R ≤ s := by omega
                  skip
                  refine wp_region_xH (by kernel_rfl) (by kernel_rfl) (by kernel_rfl) (by kernel_rfl) (fun _ => False) (H.alloc) ?_
                  clear H; intro w9 H hz0 hs0
                  try clear C
                  try simp only [World.size_alloc, List.nil_append, List.cons_append, List.append_assoc] at H hz0
                  generalize wr.heap.size = bW at H hz0 ⊢
                  clear hz0
                  try clear wr
                  have C := H.cells
                  try simp only [cellsOf, apartOf, and_true] at C
                  have Z := H.zs
                  try simp only [ltsOf, and_true] at Z
                  have hz0 := Nat.le_refl w9.heap.size
                  repeat (first | (refine wpX_skip rfl ?_; go_simp) | (refine wpX_free rfl rfl rfl (fun K hK => ?_); go_step; refine hK _ _ ?_; clear hK K) | (refine wpX_load rfl rfl rfl (by simp [Stay, OneD, NoD, *]) hs0 (by simp [*]) (fun K hK => ?_); go_step; refine hK _ _ ?_; clear hK K))
                  refine wpX_eff rfl rfl (fun _ _ => ?_)
                  go_step
                  refine (HV1.out _).mono ?_
                  rintro _ w10 ⟨rfl, hb⟩
                  replace hs0 := hs0.belowS hz0 hb
                  replace hz0 := Nat.le_trans hz0 hb.size
                  replace H := H.below hb
                  clear hb
                  try clear C
                  have C := H.cells
                  try simp only [cellsOf, apartOf, and_true] at C
                  try clear w9
                  dsimp only
                  go_step
                  refine ⟨hs0, ?_⟩
                  repeat (first | (refine wpX_skip rfl ?_; go_simp) | (refine wpX_free rfl rfl rfl (fun K hK => ?_); go_step; refine hK _ _ ?_; clear hK K) | (refine wpX_load rfl rfl rfl (by simp [Stay, OneD, NoD, *]) hs0 (by simp [*]) (fun K hK => ?_); go_step; refine hK _ _ ?_; clear hK K))
                  refine wpX_eff rfl rfl (fun _ _ => ?_)
                  go_step
                  refine (HBK.out _).mono ?_
                  rintro _ w11 ⟨rfl, hb⟩
                  replace hs0 := hs0.belowS hz0 hb
                  replace hz0 := Nat.le_trans hz0 hb.size
                  replace H := H.below hb
                  clear hb
                  try clear C
                  have C := H.cells
                  try simp only [cellsOf, apartOf, and_true] at C
                  try clear w10
                  dsimp only
                  go_step
                  refine ⟨hs0, ?_⟩
                  repeat (first | (refine wpX_skip rfl ?_; go_simp) | (refine wpX_free rfl rfl rfl (fun K hK => ?_); go_step; refine hK _ _ ?_; clear hK K) | (refine wpX_load rfl rfl rfl (by simp [Stay, OneD, NoD, *]) hs0 (by simp [*]) (fun K hK => ?_); go_step; refine hK _ _ ?_; clear hK K))
                  (refine wpX_yield rfl rfl ((.bool false)) (fun w hw => by go_simp) ?_; go_simp)
                  repeat (first | (refine wpX_skip rfl ?_; go_simp) | (refine wpX_free rfl rfl rfl (fun K hK => ?_); go_step; refine hK _ _ ?_; clear hK K) | (refine wpX_load rfl rfl rfl (by simp [Stay, OneD, NoD, *]) hs0 (by simp [*]) (fun K hK => ?_); go_step; refine hK _ _ ?_; clear hK K))
                  refine wpX_eff rfl rfl (fun _ _ => ?_)
                  go_step
                  refine (HRW.out _).mono ?_
                  rintro _ w12 ⟨rfl, hb⟩
                  replace hs0 := hs0.belowS hz0 hb
                  replace hz0 := Nat.le_trans hz0 hb.size
                  replace H := H.below hb
                  clear hb
                  try clear C
                  have C := H.cells
                  try simp only [cellsOf, apartOf, and_true] at C
                  try clear w11
                  dsimp only
                  go_step
                  refine ⟨hs0, ?_⟩
                  repeat (first | (refine wpX_skip rfl ?_; go_simp) | (refine wpX_free rfl rfl rfl (fun K hK => ?_); go_step; refine hK _ _ ?_; clear hK K) | (refine wpX_load rfl rfl rfl (by simp [Stay, OneD, NoD, *]) hs0 (by simp [*]) (fun K hK => ?_); go_step; refine hK _ _ ?_; clear hK K))
                  (refine wpX_nil ?_; go_step)
                  go_wp2_with fail
                  go_ret
                  refine ⟨?_, H.done⟩
                  have hno : okS a0 a1 a2 a3 a4 a5 n ⟨p0, p1, p2, p3, 0, 0, r, s⟩ = false := by
                    rw [Bool.eq_false_iff]
                    intro e
                    have e := HO.out.1 e
                    exact absurd e (by omega)
                  rw [allR_no hlt (by rw [HRB.out, hno]; rfl), Bool.and_false]
                  rfl
              · skip
                replace hc4 : s < R - n := by omega
                skip
                refine wp_region_xH (by kernel_rfl) (by kernel_rfl) (by kernel_rfl) (by kernel_rfl) (fun _ => False) (H.alloc) ?_
                clear H; intro w13 H hz0 hs0
                try clear C
                try simp only [World.size_alloc, List.nil_append, List.cons_append, List.append_assoc] at H hz0
                generalize wr.heap.size = bW at H hz0 ⊢
                clear hz0
                try clear wr
                have C := H.cells
                try simp only [cellsOf, apartOf, and_true] at C
                have Z := H.zs
                try simp only [ltsOf, and_true] at Z
                have hz0 := Nat.le_refl w13.heap.size
                repeat (first | (refine wpX_skip rfl ?_; go_simp) | (refine wpX_free rfl rfl rfl (fun K hK => ?_); go_step; refine hK _ _ ?_; clear hK K) | (refine wpX_load rfl rfl rfl (by simp [Stay, OneD, NoD, *]) hs0 (by simp [*]) (fun K hK => ?_); go_step; refine hK _ _ ?_; clear hK K))
                refine wpX_eff rfl rfl (fun _ _ => ?_)
                go_step
                refine (HV1.out _).mono ?_
                rintro _ w14 ⟨rfl, hb⟩
                replace hs0 := hs0.belowS hz0 hb
                replace hz0 := Nat.le_trans hz0 hb.size
                replace H := H.below hb
                clear hb
                try clear C
                have C := H.cells
                try simp only [cellsOf, apartOf, and_true] at C
                try clear w13
                dsimp only
                go_step
                refine ⟨hs0, ?_⟩
                repeat (first | (refine wpX_skip rfl ?_; go_simp) | (refine wpX_free rfl rfl rfl (fun K hK => ?_); go_step; refine hK _ _ ?_; clear hK K) | (refine wpX_load rfl rfl rfl (by simp [Stay, OneD, NoD, *]) hs0 (by simp [*]) (fun K hK => ?_); go_step; refine hK _ _ ?_; clear hK K))
                refine wpX_eff rfl rfl (fun _ _ => ?_)
                go_step
                refine (HBK.out _).mono ?_
                rintro _ w15 ⟨rfl, hb⟩
                replace hs0 := hs0.belowS hz0 hb
                replace hz0 := Nat.le_trans hz0 hb.size
                replace H := H.below hb
                clear hb
                try clear C
                have C := H.cells
                try simp only [cellsOf, apartOf, and_true] at C
                try clear w14
                dsimp only
                go_step
                refine ⟨hs0, ?_⟩
                repeat (first | (refine wpX_skip rfl ?_; go_simp) | (refine wpX_free rfl rfl rfl (fun K hK => ?_); go_step; refine hK _ _ ?_; clear hK K) | (refine wpX_load rfl rfl rfl (by simp [Stay, OneD, NoD, *]) hs0 (by simp [*]) (fun K hK => ?_); go_step; refine hK _ _ ?_; clear hK K))
                (refine wpX_yield rfl rfl ((.bool false)) (fun w hw => by go_simp) ?_; go_simp)
                repeat (first | (refine wpX_skip rfl ?_; go_simp) | (refine wpX_free rfl rfl rfl (fun K hK => ?_); go_step; refine hK _ _ ?_; clear hK K) | (refine wpX_load rfl rfl rfl (by simp [Stay, OneD, NoD, *]) hs0 (by simp [*]) (fun K hK => ?_); go_step; refine hK _ _ ?_; clear hK K))
                (refine wpX_nil ?_; go_step)
                go_wp2_with fail
                go_ret
                refine ⟨?_, H.done⟩
                have hno : okS a0 a1 a2 a3 a4 a5 n ⟨p0, p1, p2, p3, 0, 0, r, s⟩ = false := by
                  rw [Bool.eq_false_iff]
                  intro e
                  have e := HO.out.1 e
                  exact absurd e (by omega)
                rw [allR_no hlt (by rw [HRB.out, hno]; rfl), Bool.and_false]
                rfl
            · skip
              replace hc3 : R - n ≤ r := by omega
              skip
              refine wp_region_xH (by kernel_rfl) (by kernel_rfl) (by kernel_rfl) (by kernel_rfl) (fun _ => False) (H.alloc) ?_
              clear H; intro w16 H hz0 hs0
              try clear C
              try simp only [World.size_alloc, List.nil_append, List.cons_append, List.append_assoc] at H hz0
              generalize wr.heap.size = bW at H hz0 ⊢
              clear hz0
              try clear wr
              have C := H.cells
              try simp only [cellsOf, apartOf, and_true] at C
              have Z := H.zs
              try simp only [ltsOf, and_true] at Z
              have hz0 := Nat.le_refl w16.heap.size
              repeat (first | (refine wpX_skip rfl ?_; go_simp) | (refine wpX_free rfl rfl rfl (fun K hK => ?_); go_step; refine hK _ _ ?_; clear hK K) | (refine wpX_load rfl rfl rfl (by simp [Stay, OneD, NoD, *]) hs0 (by simp [*]) (fun K hK => ?_); go_step; refine hK _ _ ?_; clear hK K))
              refine wpX_eff rfl rfl (fun _ _ => ?_)
              go_step
              refine (HV1.out _).mono ?_
              rintro _ w17 ⟨rfl, hb⟩
              replace hs0 := hs0.belowS hz0 hb
              replace hz0 := Nat.le_trans hz0 hb.size
              replace H := H.below hb
              clear hb
              try clear C
              have C := H.cells
              try simp only [cellsOf, apartOf, and_true] at C
              try clear w16
              dsimp only
              go_step
              refine ⟨hs0, ?_⟩
              repeat (first | (refine wpX_skip rfl ?_; go_simp) | (refine wpX_free rfl rfl rfl (fun K hK => ?_); go_step; refine hK _ _ ?_; clear hK K) | (refine wpX_load rfl rfl rfl (by simp [Stay, OneD, NoD, *]) hs0 (by simp [*]) (fun K hK => ?_); go_step; refine hK _ _ ?_; clear hK K))
              refine wpX_eff rfl rfl (fun _ _ => ?_)
              go_step
              refine (HBK.out _).mono ?_
              rintro _ w18 ⟨rfl, hb⟩
              replace hs0 := hs0.belowS hz0 hb
              replace hz0 := Nat.le_trans hz0 hb.size
              replace H := H.below hb
              clear hb
              try clear C
              have C := H.cells
              try simp only [cellsOf, apartOf, and_true] at C
              try clear w17
              dsimp only
              go_step
              refine ⟨hs0, ?_⟩
              repeat (first | (refine wpX_skip rfl ?_; go_simp) | (refine wpX_free rfl rfl rfl (fun K hK => ?_); go_step; refine hK _ _ ?_; clear hK K) | (refine wpX_load rfl rfl rfl (by simp [Stay, OneD, NoD, *]) hs0 (by simp [*]) (fun K hK => ?_); go_step; refine hK _ _ ?_; clear hK K))
              (refine wpX_yield rfl rfl ((.bool false)) (fun w hw => by go_simp) ?_; go_simp)
              repeat (first | (refine wpX_skip rfl ?_; go_simp) | (refine wpX_free rfl rfl rfl (fun K hK => ?_); go_step; refine hK _ _ ?_; clear hK K) | (refine wpX_load rfl rfl rfl (by simp [Stay, OneD, NoD, *]) hs0 (by simp [*]) (fun K hK => ?_); go_step; refine hK _ _ ?_; clear hK K))
              (refine wpX_nil ?_; go_step)
              go_wp2_with fail
              go_ret
              refine ⟨?_, H.done⟩
              have hno : okS a0 a1 a2 a3 a4 a5 n ⟨p0, p1, p2, p3, 0, 0, r, s⟩ = false := by
                rw [Bool.eq_false_iff]
                intro e
                have e := HO.out.1 e
                exact absurd e (by omega)
              rw [allR_no hlt (by rw [HRB.out, hno]; rfl), Bool.and_false]
              rfl
          · skip
            replace hc2 : r < 0 := by omega
            skip
            refine wp_region_xH (by kernel_rfl) (by kernel_rfl) (by kernel_rfl) (by kernel_rfl) (fun _ => False) (H.alloc) ?_
            clear H; intro w19 H hz0 hs0
            try clear C
            try simp only [World.size_alloc, List.nil_append, List.cons_append, List.append_assoc] at H hz0
            generalize wr.heap.size = bW at H hz0 ⊢
            clear hz0
            try clear wr
            have C := H.cells
            try simp only [cellsOf, apartOf, and_true] at C
            have Z := H.zs
            try simp only [ltsOf, and_true] at Z
            have hz0 := Nat.le_refl w19.heap.size
            repeat (first | (refine wpX_skip rfl ?_; go_simp) | (refine wpX_free rfl rfl rfl (fun K hK => ?_); go_step; refine hK _ _ ?_; clear hK K) | (refine wpX_load rfl rfl rfl (by simp [Stay, OneD, NoD, *]) hs0 (by simp [*]) (fun K hK => ?_); go_step; refine hK _ _ ?_; clear hK K))
            refine wpX_eff rfl rfl (fun _ _ => ?_)
            go_step
            refine (HV1.out _).mono ?_
            rintro _ w20 ⟨rfl, hb⟩
            replace hs0 := hs0.belowS hz0 hb
            replace hz0 := Nat.le_trans hz0 hb.size
            replace H := H.below hb
            clear hb
            try clear C
            have C := H.cells
            try simp only [cellsOf, apartOf, and_true] at C
            try clear w19
            dsimp only
            go_step
            refine ⟨hs0, ?_⟩
            repeat (first | (refine wpX_skip rfl ?_; go_simp) | (refine wpX_free rfl rfl rfl (fun K hK => ?_); go_step; refine hK _ _ ?_; clear hK K) | (refine wpX_load rfl rfl rfl (by simp [Stay, OneD, NoD, *]) hs0 (by simp [*]) (fun K hK => ?_); go_step; refine hK _ _ ?_; clear hK K))
            refine wpX_eff rfl rfl (fun _ _ => ?_)
            go_step
            refine (HBK.out _).mono ?_
            rintro _ w21 ⟨rfl, hb⟩
            replace hs0 := hs0.belowS hz0 hb
            replace hz0 := Nat.le_trans hz0 hb.size
            replace H := H.below hb
            clear hb
            try clear C
            have C := H.cells
            try simp only [cellsOf, apartOf, and_true] at C
            try clear w20
            dsimp only
            go_step
            refine ⟨hs0, ?_⟩
            repeat (first | (refine wpX_skip rfl ?_; go_simp) | (refine wpX_free rfl rfl rfl (fun K hK => ?_); go_step; refine hK _ _ ?_; clear hK K) | (refine wpX_load rfl rfl rfl (by simp [Stay, OneD, NoD, *]) hs0 (by simp [*]) (fun K hK => ?_); go_step; refine hK _ _ ?_; clear hK K))
            (refine wpX_yield rfl rfl ((.bool false)) (fun w hw => by go_simp) ?_; go_simp)
            repeat (first | (refine wpX_skip rfl ?_; go_simp) | (refine wpX_free rfl rfl rfl (fun K hK => ?_); go_step; refine hK _ _ ?_; clear hK K) | (refine wpX_load rfl rfl rfl (by simp [Stay, OneD, NoD, *]) hs0 (by simp [*]) (fun K hK => ?_); go_step; refine hK _ _ ?_; clear hK K))
            (refine wpX_nil ?_; go_step)
            go_wp2_with fail
            go_ret
            refine ⟨?_, H.done⟩
            have hno : okS a0 a1 a2 a3 a4 a5 n ⟨p0, p1, p2, p3, 0, 0, r, s⟩ = false := by
              rw [Bool.eq_false_iff]
              intro e
              have e := HO.out.1 e
              exact absurd e (by omega)
            rw [allR_no hlt (by rw [HRB.out, hno]; rfl), Bool.and_false]
            rfl
        · skip
          have hq : ∀ w, (binOp .neq 28 (v6 p0 p1 p2 p3 0 0) (v6 p0 p1 p2 p3 p4 p5)).run Try.prog w = .ok (.bool true) w := fun w => by rw [neq6, decide_eq_false (fun e => hc1 ⟨e.2.2.2.2.1.symm, e.2.2.2.2.2.symm⟩)]; rfl
          skip
          refine wp_region_xH (by kernel_rfl) (by kernel_rfl) (by kernel_rfl) (by kernel_rfl) (fun _ => False) (H.alloc) ?_
          clear H; intro w22 H hz0 hs0
          try clear C
          try simp only [World.size_alloc, List.nil_append, List.cons_append, List.append_assoc] at H hz0
          generalize wr.heap.size = bW at H hz0 ⊢
          clear hz0
          try clear wr
          have C := H.cells
          try simp only [cellsOf, apartOf, and_true] at C
          have Z := H.zs
          try simp only [ltsOf, and_true] at Z
          have hz0 := Nat.le_refl w22.heap.size
          repeat (first | (refine wpX_skip rfl ?_; go_simp) | (refine wpX_free rfl rfl rfl (fun K hK => ?_); go_step; refine hK _ _ ?_; clear hK K) | (refine wpX_load rfl rfl rfl (by simp [Stay, OneD, NoD, *]) hs0 (by simp [*]) (fun K hK => ?_); go_step; refine hK _ _ ?_; clear hK K))
          refine wpX_eff rfl rfl (fun _ _ => ?_)
          go_step
          refine (HV1.out _).mono ?_
          rintro _ w23 ⟨rfl, hb⟩
          replace hs0 := hs0.belowS hz0 hb
          replace hz0 := Nat.le_trans hz0 hb.size
          replace H := H.below hb
          clear hb
          try clear C
          have C := H.cells
          try simp only [cellsOf, apartOf, and_true] at C
          try clear w22
          dsimp only
          go_step
          refine ⟨hs0, ?_⟩
          repeat (first | (refine wpX_skip rfl ?_; go_simp) | (refine wpX_free rfl rfl rfl (fun K hK => ?_); go_step; refine hK _ _ ?_; clear hK K) | (refine wpX_load rfl rfl rfl (by simp [Stay, OneD, NoD, *]) hs0 (by simp [*]) (fun K hK => ?_); go_step; refine hK _ _ ?_; clear hK K))
          refine wpX_eff rfl rfl (fun _ _ => ?_)
          go_step
          refine (HBK.out _).mono ?_
          rintro _ w24 ⟨rfl, hb⟩
          replace hs0 := hs0.belowS hz0 hb
          replace hz0 := Nat.le_trans hz0 hb.size
          replace H := H.below hb
          clear hb
          try clear C
          have C := H.cells
          try simp only [cellsOf, apartOf, and_true] at C
          try clear w23
          dsimp only
          go_step
          refine ⟨hs0, ?_⟩
          repeat (first | (refine wpX_skip rfl ?_; go_simp) | (refine wpX_free rfl rfl rfl (fun K hK => ?_); go_step; refine hK _ _ ?_; clear hK K) | (refine wpX_load rfl rfl rfl (by simp [Stay, OneD, NoD, *]) hs0 (by simp [*]) (fun K hK => ?_); go_step; refine hK _ _ ?_; clear hK K))
          (refine wpX_yield rfl rfl ((.bool true)) (fun w hw => by go_simp) ?_; go_simp)
          repeat (first | (refine wpX_skip rfl ?_; go_simp) | (refine wpX_free rfl rfl rfl (fun K hK => ?_); go_step; refine hK _ _ ?_; clear hK K) | (refine wpX_load rfl rfl rfl (by simp [Stay, OneD, NoD, *]) hs0 (by simp [*]) (fun K hK => ?_); go_step; refine hK _ _ ?_; clear hK K))
          (refine wpX_nil ?_; go_step)
          go_wp2_with fail
          go_ret
          refine ⟨?_, H.done⟩
          have hno : okS a0 a1 a2 a3 a4 a5 n ⟨p0, p1, p2, p3, p4, p5, r, s⟩ = false := by
            rw [Bool.eq_false_iff]
            intro e
            have e := HO.out.1 e
            exact hc1 ⟨e.2.1, e.2.2.1⟩
          rw [allR_no hlt (by rw [HRB.out, hno]; rfl), Bool.and_false]
          rfl
      · skip
        have HV1 := Lib.hid (fun w => by have := HVJ.out w; rw [decide_eq_false hc0] at this; exact this : ∀ w, Calls Try.prog 56 #[v6 a0 a1 a2 a3 a4 a5, v6 p0 p1 p2 p3 p4 p5] w (Gives (.bool false) w))
        skip
        refine wp_region_xH (by kernel_rfl) (by kernel_rfl) (by kernel_rfl) (by kernel_rfl) (fun _ => False) (H.alloc) ?_
        clear H; intro w25 H hz0 hs0
        try clear C
        try simp only [World.size_alloc, List.nil_append, List.cons_append, List.append_assoc] at H hz0
        generalize wr.heap.size = bW at H hz0 ⊢
        clear hz0
        try clear wr
        have C := H.cells
        try simp only [cellsOf, apartOf, and_true] at C
        have Z := H.zs
        try simp only [ltsOf, and_true] at Z
        have hz0 := Nat.le_refl w25.heap.size
        repeat (first | (refine wpX_skip rfl ?_; go_simp) | (refine wpX_free rfl rfl rfl (fun K hK => ?_); go_step; refine hK _ _ ?_; clear hK K) | (refine wpX_load rfl rfl rfl (by simp [Stay, OneD, NoD, *]) hs0 (by simp [*]) (fun K hK => ?_); go_step; refine hK _ _ ?_; clear hK K))
        refine wpX_eff rfl rfl (fun _ _ => ?_)
        go_step
        refine (HV1.out _).mono ?_
        rintro _ w26 ⟨rfl, hb⟩
        replace hs0 := hs0.belowS hz0 hb
        replace hz0 := Nat.le_trans hz0 hb.size
        replace H := H.below hb
        clear hb
        try clear C
        have C := H.cells
        try simp only [cellsOf, apartOf, and_true] at C
        try clear w25
        dsimp only
        go_step
        refine ⟨hs0, ?_⟩
        repeat (first | (refine wpX_skip rfl ?_; go_simp) | (refine wpX_free rfl rfl rfl (fun K hK => ?_); go_step; refine hK _ _ ?_; clear hK K) | (refine wpX_load rfl rfl rfl (by simp [Stay, OneD, NoD, *]) hs0 (by simp [*]) (fun K hK => ?_); go_step; refine hK _ _ ?_; clear hK K))
        (refine wpX_nil ?_; go_step)
        go_wp2_with fail
        go_ret
        refine ⟨?_, H.done⟩
        have hno : okS a0 a1 a2 a3 a4 a5 n ⟨p0, p1, p2, p3, p4, p5, r, s⟩ = false := by
          rw [Bool.eq_false_iff]
          intro e
          have e := HO.out.1 e
          exact hc0 e.1
        rw [allR_no hlt (by rw [HRB.out, hno]; rfl), Bool.and_false]
        rfl
    · skip
      have hje : j = xs.length := by omega
      have hal : allR a0 a1 a2 a3 a4 a5 n xs = true := by
        unfold allR
        rw [List.all_eq_true]
        exact fun k hk => HF.out k (by have := List.mem_range.1 hk; omega)
      go_wp2_with fail
      go_ret
      refine ⟨?_, H.done⟩
      rw [hal, Bool.and_true]
      exact congrArg (fun b => Ending.returned (.bool b)) (decide_eq_decide.2 (by omega))
end Go.Proofs.Ytcacgmfihhpliaa
