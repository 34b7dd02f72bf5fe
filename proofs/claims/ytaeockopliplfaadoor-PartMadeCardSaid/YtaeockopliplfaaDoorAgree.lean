/- The statements PartRaw and PartMade: sameInts, agree. -/
import Derived.Test.YtaeockopliplfaaDoorCovA
namespace Go.Proofs.YtaeockopliplfaaDoor
set_option linter.unusedSimpArgs false
set_option linter.unusedVariables false
open Go.RowKit
set_option maxRecDepth 100000
attribute [local go_sem] lt_more ne_more ne_more'
attribute [local irreducible] wpX

/-- A slice in memory holds these numbers. -/
def IntsF (w : World) (sa : Option Addr) (len : Nat) (f : Nat → Int) : Prop := ∀ j, j < len → ∃ a, sa = some a ∧ w.cell? (a.add j) = some (.int .i64 (f j))
theorem IntsF.hs {D : Nat → Prop} {W w : World} {L : List Item} {sa : Option Addr} {len : Nat} {f : Nat → Int} (h : IntsF W sa len f) (H : HS NoD W L w) : IntsF w sa len f := fun j hj => by
  obtain ⟨a, e, hc⟩ := h j hj
  exact ⟨a, e, (H.was (World.block_lt_of_cell? (w := W) (a := a.add j) hc) id).trans hc⟩
/-- A row of one's own is such a slice. -/
theorem rowF {w : World} {v : Value} {l : List Nat} (h : (rowI v l).ok w) : ∃ sa cap, v = .slice sa l.length cap ∧ IntsF w sa l.length (fun j => ((l.getD j 0 : Nat) : Int)) := by
  obtain ⟨h1, h2⟩ := (show w.ownsRow 0 3 1 v l.length (l.map intV) from h)
  rcases h2 with ⟨h2, h3⟩ | ⟨g, cap, cur, hv, hg, hh, hn, hc, hz, ht⟩
  · exact ⟨none, 0, by rw [h2, h3], fun j hj => by omega⟩
  · refine ⟨_, cap, hv, fun j hj => ⟨_, rfl, ?_⟩⟩
    have hadd : (⟨g, 0, none⟩ : Addr).add j = ⟨g, j, none⟩ := by unfold Addr.add; split <;> simp_all
    rw [hadd]
    have h3 : (cur.toList.take (l.length * 1))[j]? = some (intV (l.getD j 0)) := by
      rw [ht, List.getElem?_map, List.getElem?_eq_getElem hj]
      simp [List.getD, List.getElem?_eq_getElem hj]
    simp only [Nat.mul_one, List.getElem?_take, if_pos hj] at h3
    simp [World.cell?, hh]
    simpa [intV] using h3

set_option maxHeartbeats 4000000 in
theorem sameInts_yes {sa sb : Option Addr} {len ca cb : Nat} {f : Nat → Int} (hl : len ≤ maxLen) (w : World) (hA : IntsF w sa len f) (hB : IntsF w sb len f) :
    Calls Tryd.prog 55 #[.slice sa len ca, .slice sb len cb] w (Gives (.bool true) w) := by
  unfold maxLen at hl
  have HA := Lib.hid hA
  have HB := Lib.hid hB
  clear hA hB
  go_enter Tryd.func55, Tryd.ntmps55
  have H := HS.start NoD w
  go_wp2_with fail
  go_loopw [5] (fun c wr => ∃ i : Nat, i ≤ len ∧ c = .int .i64 i ∧ HS NoD w [] wr) (fun c _ => len - (intOf c).toNat)
  case atStart => exact ⟨0, Nat.zero_le _, rfl, H⟩
  case round =>
    clear H
    obtain ⟨i, hi, rfl, H⟩ := hrel
    by_cases hil : i < len
    · obtain ⟨a, rfl, cA⟩ := HA.out i hil
      obtain ⟨b, rfl, cB⟩ := HB.out i hil
      have zA := World.block_lt_of_cell? (w := w) (a := a.add i) cA
      have zB := World.block_lt_of_cell? (w := w) (a := b.add i) cB
      skip
      go_wp2_with fail
      refine wp_region_xH (by kernel_rfl) (by kernel_rfl) (by kernel_rfl) (by kernel_rfl) (fun _ => False) (H) ?_
      clear H; intro w1 H hz0 hs0
      try clear C
      try simp only [World.size_alloc, List.nil_append, List.cons_append, List.append_assoc] at H hz0
      clear hz0
      try clear wr
      have C := H.cells
      try simp only [cellsOf, apartOf, and_true] at C
      have Z := H.zs
      try simp only [ltsOf, and_true] at Z
      have hz0 := Nat.le_refl w1.heap.size
      rw [← H.was zA id] at cA
      rw [← H.was zB id] at cB
      have yA := World.block_lt_of_cell? _ _ cA
      have yB := World.block_lt_of_cell? _ _ cB
      clear C zA zB
      repeat (first | (refine wpX_skip rfl ?_; go_simp) | (refine wpX_free rfl rfl rfl (fun K hK => ?_); go_step; refine hK _ _ ?_; clear hK K) | (refine wpX_load rfl rfl rfl (by simp [Stay, OneD, NoD, *]) hs0 (by simp [*]) (fun K hK => ?_); go_step; refine hK _ _ ?_; clear hK K))
      (refine wpX_nil ?_; go_step)
      go_wp2_with fail
      go_roundw
      case rel => exact ⟨i + 1, by omega, by go_num, H⟩
      case measure => simp [intOf]; omega
    · have hil' : i = len := by omega
      subst hil'
      go_wp2_with fail
      go_ret
      exact ⟨rfl, H.done⟩

/-! ### What both give -/
theorem both_index (a0 a1 a2 a3 a4 a5 p0 p1 p2 p3 p4 p5 : Int) : ∃ x e : Int, (∀ w, Calls Tryd.prog 18 #[v6 a0 a1 a2 a3 a4 a5, v6 p0 p1 p2 p3 p4 p5] w (Gives (.tuple #[.int .i64 x, .int .i64 e]) w)) ∧ (∀ w, Calls Tryd.prog 50 #[v6 a0 a1 a2 a3 a4 a5, v6 p0 p1 p2 p3 p4 p5] w (Gives (.tuple #[.int .i64 x, .int .i64 e]) w)) := by
  by_cases h : SV a0 a1 a2 a3 a4 a5
  · by_cases hp : PV a0 a1 a2 a3 a4 a5 p0 p1 p2 p3 p4 p5
    · exact ⟨_, _, fun w => index_yes h hp w, fun w => rindex_yes h hp w⟩
    · exact ⟨_, _, fun w => index_out h hp w, fun w => rindex_out h hp w⟩
  · exact ⟨_, _, fun w => index_bad h w, fun w => rindex_bad h w⟩
theorem both_at (a0 a1 a2 a3 a4 a5 i : Int) : ∃ x0 x1 x2 x3 x4 x5 e : Int, (∀ w, Calls Tryd.prog 17 #[v6 a0 a1 a2 a3 a4 a5, .int .i64 i] w (Gives (.tuple #[v6 x0 x1 x2 x3 x4 x5, .int .i64 e]) w)) ∧ (∀ w, Calls Tryd.prog 41 #[v6 a0 a1 a2 a3 a4 a5, .int .i64 i] w (Gives (.tuple #[v6 x0 x1 x2 x3 x4 x5, .int .i64 e]) w)) := by
  by_cases h : SV a0 a1 a2 a3 a4 a5
  · by_cases hi : 0 ≤ i ∧ i < 2 ^ (a0 + a1 + a2 + a3 + a4 + a5).toNat
    · exact ⟨_, _, _, _, _, _, _, fun w => at_is h hi.1 hi.2 w, fun w => rat_is h hi.1 hi.2 w⟩
    · exact ⟨_, _, _, _, _, _, _, fun w => at_out h hi w, fun w => rat_out h hi w⟩
  · exact ⟨_, _, _, _, _, _, _, fun w => at_bad h w, fun w => rat_bad h w⟩
theorem both_valid (a0 a1 a2 a3 a4 a5 : Int) : ∃ b : Bool, (∀ w, Calls Tryd.prog 45 #[v6 a0 a1 a2 a3 a4 a5] w (Gives (.bool b) w)) ∧ (∀ w, Calls Tryd.prog 51 #[v6 a0 a1 a2 a3 a4 a5] w (Gives (.bool b) w)) :=
  ⟨_, fun w => valid_any _ _ _ _ _ _ w, fun w => rvalid_any _ _ _ _ _ _ w⟩
theorem both_size (a0 a1 a2 a3 a4 a5 : Int) : ∃ n : Int, (∀ w, Calls Tryd.prog 16 #[v6 a0 a1 a2 a3 a4 a5] w (Gives (.int .i64 n) w)) ∧ (∀ w, Calls Tryd.prog 32 #[v6 a0 a1 a2 a3 a4 a5] w (Gives (.int .i64 n) w)) :=
  ⟨_, fun w => size_all _ _ _ _ _ _ w, fun w => rsize_all _ _ _ _ _ _ w⟩
theorem both_validPlace (a0 a1 a2 a3 a4 a5 p0 p1 p2 p3 p4 p5 : Int) : ∃ b : Bool, (∀ w, Calls Tryd.prog 20 #[v6 a0 a1 a2 a3 a4 a5, v6 p0 p1 p2 p3 p4 p5] w (Gives (.bool b) w)) ∧ (∀ w, Calls Tryd.prog 52 #[v6 a0 a1 a2 a3 a4 a5, v6 p0 p1 p2 p3 p4 p5] w (Gives (.bool b) w)) :=
  ⟨_, fun w => validPlace_all _ _ _ _ _ _ _ _ _ _ _ _ w, fun w => rvalidPlace_all _ _ _ _ _ _ _ _ _ _ _ _ w⟩
theorem both_vfault (a0 a1 a2 a3 a4 a5 n k p0 p1 p2 p3 p4 p5 ch ms vl : Int) (hd : Bool) : ∃ b : Bool, (∀ w, Nm w → Calls Tryd.prog 53 #[v6 a0 a1 a2 a3 a4 a5, .int .i64 n, vF k p0 p1 p2 p3 p4 p5 ch ms vl hd] w (Gives (.bool b) w)) ∧ (∀ w, Calls Tryd.prog 54 #[v6 a0 a1 a2 a3 a4 a5, .int .i64 n, vF k p0 p1 p2 p3 p4 p5 ch ms vl hd] w (Gives (.bool b) w)) :=
  ⟨_, fun w h => vfault_any _ _ _ _ _ _ _ _ _ _ _ _ _ _ _ _ _ _ w h, fun w => rvfault_any _ _ _ _ _ _ _ _ _ _ _ _ _ _ _ _ _ _ w⟩
theorem both_covers (k p0 p1 p2 p3 p4 p5 ch ms vl q0 q1 q2 q3 q4 q5 : Int) (hd : Bool) : ∃ b : Bool, (∀ w, Nm w → Calls Tryd.prog 22 #[vF k p0 p1 p2 p3 p4 p5 ch ms vl hd, v6 q0 q1 q2 q3 q4 q5] w (Gives (.bool b) w)) ∧ (∀ w, Calls Tryd.prog 42 #[vF k p0 p1 p2 p3 p4 p5 ch ms vl hd, v6 q0 q1 q2 q3 q4 q5] w (Gives (.bool b) w)) :=
  ⟨_, fun w h => covers_all _ _ _ _ _ _ _ _ _ _ _ _ _ _ _ _ _ w h, fun w => rcovers_all _ _ _ _ _ _ _ _ _ _ _ _ _ _ _ _ _ w⟩
theorem both_covered (a0 a1 a2 a3 a4 a5 k p0 p1 p2 p3 p4 p5 ch ms vl : Int) (hd : Bool) : ∃ l : List Nat, l.length ≤ 4096 ∧ (∀ w, Nm w → Calls Tryd.prog 21 #[v6 a0 a1 a2 a3 a4 a5, vF k p0 p1 p2 p3 p4 p5 ch ms vl hd] w (GivesRow l w)) ∧ (∀ w, Calls Tryd.prog 44 #[v6 a0 a1 a2 a3 a4 a5, vF k p0 p1 p2 p3 p4 p5 ch ms vl hd] w (GivesRow l w)) :=
  ⟨_, Nat.le_trans (cvL_len ..) (sizeN_le ..), fun w h => covered_any _ _ _ _ _ _ _ _ _ _ _ _ _ _ _ _ _ w h, fun w => rcovered_any _ _ _ _ _ _ _ _ _ _ _ _ _ _ _ _ _ w⟩

set_option maxHeartbeats 16000000 in
theorem agree_yes (a0 a1 a2 a3 a4 a5 p0 p1 p2 p3 p4 p5 k f0 f1 f2 f3 f4 f5 ch ms vl n0 n1 : Int) (hd : Bool) (w : World) (hN : Nm w) :
    Calls Tryd.prog 23 #[v6 a0 a1 a2 a3 a4 a5, v6 p0 p1 p2 p3 p4 p5, vF k f0 f1 f2 f3 f4 f5 ch ms vl hd, .agg #[.int .i64 n0, .int .i64 n1]] w (Gives (.bool true) w) := by
  have HN := Lib.hid hN
  obtain ⟨ix, ie, hI, hI'⟩ := both_index a0 a1 a2 a3 a4 a5 p0 p1 p2 p3 p4 p5
  obtain ⟨x0, x1, x2, x3, x4, x5, xe, hA, hA'⟩ := both_at a0 a1 a2 a3 a4 a5 n0
  obtain ⟨bv, hV, hV'⟩ := both_valid a0 a1 a2 a3 a4 a5
  obtain ⟨sz, hS, hS'⟩ := both_size a0 a1 a2 a3 a4 a5
  obtain ⟨bp, hP, hP'⟩ := both_validPlace a0 a1 a2 a3 a4 a5 p0 p1 p2 p3 p4 p5
  obtain ⟨bf, hF, hF'⟩ := both_vfault a0 a1 a2 a3 a4 a5 n1 k f0 f1 f2 f3 f4 f5 ch ms vl hd
  obtain ⟨bc, hC, hC'⟩ := both_covers k f0 f1 f2 f3 f4 f5 ch ms vl p0 p1 p2 p3 p4 p5 hd
  obtain ⟨l, hll, hD, hD'⟩ := both_covered a0 a1 a2 a3 a4 a5 k f0 f1 f2 f3 f4 f5 ch ms vl hd
  have HI := Lib.hid hI
  have HI' := Lib.hid hI'
  have HA := Lib.hid hA
  have HA' := Lib.hid hA'
  have HV := Lib.hid hV
  have HV' := Lib.hid hV'
  have HSz := Lib.hid hS
  have HSz' := Lib.hid hS'
  have HP := Lib.hid hP
  have HP' := Lib.hid hP'
  have HF := Lib.hid hF
  have HF' := Lib.hid hF'
  have HC := Lib.hid hC
  have HC' := Lib.hid hC'
  have HD := Lib.hid hD
  have HD' := Lib.hid hD'
  clear hN hI hI' hA hA' hV hV' hS hS' hP hP' hF hF' hC hC' hD hD'
  go_enter Tryd.func23, Tryd.ntmps23
  have H := HS.start NoD w
  go_wp2_with fail
  refine (HI.out _).mono ?_
  rintro _ w1 ⟨rfl, hb⟩
  replace H := H.alloc.alloc.alloc.alloc.below hb
  clear hb
  try clear C
  try simp only [World.size_alloc, List.nil_append, List.cons_append, List.append_assoc] at H
  generalize w.heap.size + 3 = bn at H ⊢
  generalize w.heap.size + 2 = bF at H ⊢
  generalize w.heap.size + 1 = bP at H ⊢
  generalize w.heap.size = bS at H ⊢
  have C := H.cells
  try simp only [cellsOf, apartOf, and_true] at C
  dsimp only
  go_wp2_with fail
  refine (HI'.out _).mono ?_
  rintro _ w2 ⟨rfl, hb⟩
  replace H := H.below hb
  clear hb
  try clear C
  try simp only [World.size_alloc, List.nil_append, List.cons_append, List.append_assoc] at H
  try clear w1
  have C := H.cells
  try simp only [cellsOf, apartOf, and_true] at C
  dsimp only
  go_wp2_with fail
  refine (HA.out _).mono ?_
  rintro _ w3 ⟨rfl, hb⟩
  replace H := H.below hb
  clear hb
  try clear C
  try simp only [World.size_alloc, List.nil_append, List.cons_append, List.append_assoc] at H
  try clear w2
  have C := H.cells
  try simp only [cellsOf, apartOf, and_true] at C
  dsimp only
  go_wp2_with fail
  refine (HA'.out _).mono ?_
  rintro _ w4 ⟨rfl, hb⟩
  replace H := H.alloc.below hb
  clear hb
  try clear C
  try simp only [World.size_alloc, List.nil_append, List.cons_append, List.append_assoc] at H
  generalize w3.heap.size = bX at H ⊢
  try clear w3
  have C := H.cells
  try simp only [cellsOf, apartOf, and_true] at C
  dsimp only
  go_wp2_with fail
  refine wp_region_xH (by kernel_rfl) (by kernel_rfl) (by kernel_rfl) (by kernel_rfl) (fun _ => False) (H.alloc) ?_
  clear H; intro w5 H hz0 hs0
  try clear C
  try simp only [World.size_alloc, List.nil_append, List.cons_append, List.append_assoc] at H hz0
  generalize w4.heap.size = bY at H hz0 ⊢
  clear hz0
  try clear w4
  have C := H.cells
  try simp only [cellsOf, apartOf, and_true] at C
  have Z := H.zs
  try simp only [ltsOf, and_true] at Z
  have hz0 := Nat.le_refl w5.heap.size
  repeat (first | (refine wpX_skip rfl ?_; go_simp) | (refine wpX_free rfl rfl rfl (fun K hK => ?_); go_step; refine hK _ _ ?_; clear hK K) | (refine wpX_load rfl rfl rfl (by simp [Stay, OneD, NoD, *]) hs0 (by simp [*]) (fun K hK => ?_); go_step; refine hK _ _ ?_; clear hK K))
  refine wpX_eff rfl rfl (fun _ _ => ?_)
  go_step
  refine (HV.out _).mono ?_
  rintro _ w6 ⟨rfl, hb⟩
  replace hs0 := hs0.belowS hz0 hb
  replace hz0 := Nat.le_trans hz0 hb.size
  replace H := H.below hb
  clear hb
  try clear C
  have C := H.cells
  try simp only [cellsOf, apartOf, and_true] at C
  try clear w5
  dsimp only
  go_step
  refine ⟨hs0, ?_⟩
  repeat (first | (refine wpX_skip rfl ?_; go_simp) | (refine wpX_free rfl rfl rfl (fun K hK => ?_); go_step; refine hK _ _ ?_; clear hK K) | (refine wpX_load rfl rfl rfl (by simp [Stay, OneD, NoD, *]) hs0 (by simp [*]) (fun K hK => ?_); go_step; refine hK _ _ ?_; clear hK K))
  refine wpX_eff rfl rfl (fun _ _ => ?_)
  go_step
  refine (HV'.out _).mono ?_
  rintro _ w7 ⟨rfl, hb⟩
  replace hs0 := hs0.belowS hz0 hb
  replace hz0 := Nat.le_trans hz0 hb.size
  replace H := H.below hb
  clear hb
  try clear C
  have C := H.cells
  try simp only [cellsOf, apartOf, and_true] at C
  try clear w6
  dsimp only
  go_step
  refine ⟨hs0, ?_⟩
  repeat (first | (refine wpX_skip rfl ?_; go_simp) | (refine wpX_free rfl rfl rfl (fun K hK => ?_); go_step; refine hK _ _ ?_; clear hK K) | (refine wpX_load rfl rfl rfl (by simp [Stay, OneD, NoD, *]) hs0 (by simp [*]) (fun K hK => ?_); go_step; refine hK _ _ ?_; clear hK K))
  refine wpX_eff rfl rfl (fun _ _ => ?_)
  go_step
  refine (HSz.out _).mono ?_
  rintro _ w8 ⟨rfl, hb⟩
  replace hs0 := hs0.belowS hz0 hb
  replace hz0 := Nat.le_trans hz0 hb.size
  replace H := H.below hb
  clear hb
  try clear C
  have C := H.cells
  try simp only [cellsOf, apartOf, and_true] at C
  try clear w7
  dsimp only
  go_step
  refine ⟨hs0, ?_⟩
  repeat (first | (refine wpX_skip rfl ?_; go_simp) | (refine wpX_free rfl rfl rfl (fun K hK => ?_); go_step; refine hK _ _ ?_; clear hK K) | (refine wpX_load rfl rfl rfl (by simp [Stay, OneD, NoD, *]) hs0 (by simp [*]) (fun K hK => ?_); go_step; refine hK _ _ ?_; clear hK K))
  refine wpX_eff rfl rfl (fun _ _ => ?_)
  go_step
  refine (HSz'.out _).mono ?_
  rintro _ w9 ⟨rfl, hb⟩
  replace hs0 := hs0.belowS hz0 hb
  replace hz0 := Nat.le_trans hz0 hb.size
  replace H := H.below hb
  clear hb
  try clear C
  have C := H.cells
  try simp only [cellsOf, apartOf, and_true] at C
  try clear w8
  dsimp only
  go_step
  refine ⟨hs0, ?_⟩
  repeat (first | (refine wpX_skip rfl ?_; go_simp) | (refine wpX_free rfl rfl rfl (fun K hK => ?_); go_step; refine hK _ _ ?_; clear hK K) | (refine wpX_load rfl rfl rfl (by simp [Stay, OneD, NoD, *]) hs0 (by simp [*]) (fun K hK => ?_); go_step; refine hK _ _ ?_; clear hK K))
  refine wpX_eff rfl rfl (fun _ _ => ?_)
  go_step
  refine (HP.out _).mono ?_
  rintro _ w10 ⟨rfl, hb⟩
  replace hs0 := hs0.belowS hz0 hb
  replace hz0 := Nat.le_trans hz0 hb.size
  replace H := H.below hb
  clear hb
  try clear C
  have C := H.cells
  try simp only [cellsOf, apartOf, and_true] at C
  try clear w9
  dsimp only
  go_step
  refine ⟨hs0, ?_⟩
  repeat (first | (refine wpX_skip rfl ?_; go_simp) | (refine wpX_free rfl rfl rfl (fun K hK => ?_); go_step; refine hK _ _ ?_; clear hK K) | (refine wpX_load rfl rfl rfl (by simp [Stay, OneD, NoD, *]) hs0 (by simp [*]) (fun K hK => ?_); go_step; refine hK _ _ ?_; clear hK K))
  refine wpX_eff rfl rfl (fun _ _ => ?_)
  go_step
  refine (HP'.out _).mono ?_
  rintro _ w11 ⟨rfl, hb⟩
  replace hs0 := hs0.belowS hz0 hb
  replace hz0 := Nat.le_trans hz0 hb.size
  replace H := H.below hb
  clear hb
  try clear C
  have C := H.cells
  try simp only [cellsOf, apartOf, and_true] at C
  try clear w10
  dsimp only
  go_step
  refine ⟨hs0, ?_⟩
  repeat (first | (refine wpX_skip rfl ?_; go_simp) | (refine wpX_free rfl rfl rfl (fun K hK => ?_); go_step; refine hK _ _ ?_; clear hK K) | (refine wpX_load rfl rfl rfl (by simp [Stay, OneD, NoD, *]) hs0 (by simp [*]) (fun K hK => ?_); go_step; refine hK _ _ ?_; clear hK K))
  refine wpX_eff rfl rfl (fun _ _ => ?_)
  go_step
  refine (HF.out _ (HN.out.below H.done)).mono ?_
  rintro _ w12 ⟨rfl, hb⟩
  replace hs0 := hs0.belowS hz0 hb
  replace hz0 := Nat.le_trans hz0 hb.size
  replace H := H.below hb
  clear hb
  try clear C
  have C := H.cells
  try simp only [cellsOf, apartOf, and_true] at C
  try clear w11
  dsimp only
  go_step
  refine ⟨hs0, ?_⟩
  repeat (first | (refine wpX_skip rfl ?_; go_simp) | (refine wpX_free rfl rfl rfl (fun K hK => ?_); go_step; refine hK _ _ ?_; clear hK K) | (refine wpX_load rfl rfl rfl (by simp [Stay, OneD, NoD, *]) hs0 (by simp [*]) (fun K hK => ?_); go_step; refine hK _ _ ?_; clear hK K))
  refine wpX_eff rfl rfl (fun _ _ => ?_)
  go_step
  refine (HF'.out _).mono ?_
  rintro _ w13 ⟨rfl, hb⟩
  replace hs0 := hs0.belowS hz0 hb
  replace hz0 := Nat.le_trans hz0 hb.size
  replace H := H.below hb
  clear hb
  try clear C
  have C := H.cells
  try simp only [cellsOf, apartOf, and_true] at C
  try clear w12
  dsimp only
  go_step
  refine ⟨hs0, ?_⟩
  repeat (first | (refine wpX_skip rfl ?_; go_simp) | (refine wpX_free rfl rfl rfl (fun K hK => ?_); go_step; refine hK _ _ ?_; clear hK K) | (refine wpX_load rfl rfl rfl (by simp [Stay, OneD, NoD, *]) hs0 (by simp [*]) (fun K hK => ?_); go_step; refine hK _ _ ?_; clear hK K))
  refine wpX_eff rfl rfl (fun _ _ => ?_)
  go_step
  refine (HC.out _ (HN.out.below H.done)).mono ?_
  rintro _ w14 ⟨rfl, hb⟩
  replace hs0 := hs0.belowS hz0 hb
  replace hz0 := Nat.le_trans hz0 hb.size
  replace H := H.below hb
  clear hb
  try clear C
  have C := H.cells
  try simp only [cellsOf, apartOf, and_true] at C
  try clear w13
  dsimp only
  go_step
  refine ⟨hs0, ?_⟩
  repeat (first | (refine wpX_skip rfl ?_; go_simp) | (refine wpX_free rfl rfl rfl (fun K hK => ?_); go_step; refine hK _ _ ?_; clear hK K) | (refine wpX_load rfl rfl rfl (by simp [Stay, OneD, NoD, *]) hs0 (by simp [*]) (fun K hK => ?_); go_step; refine hK _ _ ?_; clear hK K))
  refine wpX_eff rfl rfl (fun _ _ => ?_)
  go_step
  refine (HC'.out _).mono ?_
  rintro _ w15 ⟨rfl, hb⟩
  replace hs0 := hs0.belowS hz0 hb
  replace hz0 := Nat.le_trans hz0 hb.size
  replace H := H.below hb
  clear hb
  try clear C
  have C := H.cells
  try simp only [cellsOf, apartOf, and_true] at C
  try clear w14
  dsimp only
  go_step
  refine ⟨hs0, ?_⟩
  repeat (first | (refine wpX_skip rfl ?_; go_simp) | (refine wpX_free rfl rfl rfl (fun K hK => ?_); go_step; refine hK _ _ ?_; clear hK K) | (refine wpX_load rfl rfl rfl (by simp [Stay, OneD, NoD, *]) hs0 (by simp [*]) (fun K hK => ?_); go_step; refine hK _ _ ?_; clear hK K))
  (refine wpX_yield rfl rfl (.bool true) (fun w hw => by go_simp) ?_; go_simp)
  repeat (first | (refine wpX_skip rfl ?_; go_simp) | (refine wpX_free rfl rfl rfl (fun K hK => ?_); go_step; refine hK _ _ ?_; clear hK K) | (refine wpX_load rfl rfl rfl (by simp [Stay, OneD, NoD, *]) hs0 (by simp [*]) (fun K hK => ?_); go_step; refine hK _ _ ?_; clear hK K))
  refine wpX_eff rfl rfl (fun _ _ => ?_)
  go_step
  refine (HD.out _ (HN.out.below H.done)).mono ?_
  rintro _ w16 ⟨v1, rfl, hr, hb⟩
  replace hs0 := hs0.belowS hz0 hb
  replace hz0 := Nat.le_trans hz0 hb.size
  replace H := H.getsRow hb hr
  clear hb hr
  try simp only [List.nil_append, List.cons_append, List.append_assoc] at H
  try clear C
  have C := H.cells
  try simp only [cellsOf, apartOf, and_true] at C
  try clear w15
  dsimp only
  go_step
  refine ⟨hs0, ?_⟩
  repeat (first | (refine wpX_skip rfl ?_; go_simp) | (refine wpX_free rfl rfl rfl (fun K hK => ?_); go_step; refine hK _ _ ?_; clear hK K) | (refine wpX_load rfl rfl rfl (by simp [Stay, OneD, NoD, *]) hs0 (by simp [*]) (fun K hK => ?_); go_step; refine hK _ _ ?_; clear hK K))
  refine wpX_eff rfl rfl (fun _ _ => ?_)
  go_step
  refine (HD'.out _).mono ?_
  rintro _ w17 ⟨v2, rfl, hr, hb⟩
  replace hs0 := hs0.belowS hz0 hb
  replace hz0 := Nat.le_trans hz0 hb.size
  replace H := H.getsRow hb hr
  clear hb hr
  try simp only [List.nil_append, List.cons_append, List.append_assoc] at H
  try clear C
  have C := H.cells
  try simp only [cellsOf, apartOf, and_true] at C
  try clear w16
  dsimp only
  go_step
  refine ⟨hs0, ?_⟩
  repeat (first | (refine wpX_skip rfl ?_; go_simp) | (refine wpX_free rfl rfl rfl (fun K hK => ?_); go_step; refine hK _ _ ?_; clear hK K) | (refine wpX_load rfl rfl rfl (by simp [Stay, OneD, NoD, *]) hs0 (by simp [*]) (fun K hK => ?_); go_step; refine hK _ _ ?_; clear hK K))
  obtain ⟨sa, ca, rfl, fA⟩ := rowF (H.at 6 rfl)
  obtain ⟨sb, cb, rfl, fB⟩ := rowF (H.at 7 rfl)
  refine wpX_eff rfl rfl (fun _ _ => ?_)
  go_step
  refine (sameInts_yes (by unfold maxLen; omega) _ fA fB).mono ?_
  rintro _ w18 ⟨rfl, hb⟩
  replace hs0 := hs0.belowS hz0 hb
  replace hz0 := Nat.le_trans hz0 hb.size
  replace H := H.below hb
  clear hb
  try clear C
  have C := H.cells
  try simp only [cellsOf, apartOf, and_true] at C
  try clear w17
  dsimp only
  go_step
  refine ⟨hs0, ?_⟩
  repeat (first | (refine wpX_skip rfl ?_; go_simp) | (refine wpX_free rfl rfl rfl (fun K hK => ?_); go_step; refine hK _ _ ?_; clear hK K) | (refine wpX_load rfl rfl rfl (by simp [Stay, OneD, NoD, *]) hs0 (by simp [*]) (fun K hK => ?_); go_step; refine hK _ _ ?_; clear hK K))
  (refine wpX_nil ?_; go_step)
  go_wp2_with fail
  go_ret
  exact ⟨rfl, H.done⟩
end Go.Proofs.YtaeockopliplfaaDoor
