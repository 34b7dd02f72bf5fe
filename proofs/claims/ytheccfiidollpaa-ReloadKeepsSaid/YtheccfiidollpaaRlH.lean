/- reload.Valid, reload.Put: of what is valid. -/
import Derived.Test.YtheccfiidollpaaRlF
import Derived.Test.YtheccfiidollpaaRlG
namespace Go.Proofs.Ytheccfiidollpaa
set_option linter.unusedSimpArgs false
set_option linter.unusedVariables false
open Go.RowKit
set_option maxRecDepth 100000
attribute [local irreducible] wpX wpF Calls

theorem storeCell {w : World} {x : Sv} {l : List Bm} (h : StoreAt w x l) : ∃ qs : List Bv, qs.length = l.length ∧ x.n = qs.length ∧ CapOk x ∧ Lies w w.heap.size x.sa 2 qs.length (fun j => bvC qs[j]!) ∧ (∀ j, j < l.length → BlobAt w qs[j]! l[j]!) := h
set_option maxHeartbeats 8000000 in
theorem rvalid34_any (size : Nat) (h1 : 1 ≤ size) (h32 : size ≤ 32) (x : Sv) (l : List Bm) (hg : GoodS size l) (w : World) (h : StoreAt w x l) : Calls Try.prog 17 #[.int .i64 size, x.v] w (Gives (.bool true) w) := by
  have hlen := hg.len
  obtain ⟨sa, n, c⟩ := x
  obtain ⟨q0, hql, hn, hcap, hl, hb⟩ := h
  dsimp only at hn hcap hl
  subst hn
  have HB := Lib.hid hb
  have HL := Lib.hid hl
  have HQL := Lib.hid hql
  have HG := Lib.hid hg
  have hs1 : (1 : Int) ≤ size := by omega
  have hs2 : (size : Int) ≤ 32 := by omega
  have hq64 : q0.length ≤ 64 := by omega
  have hq64i : (q0.length : Int) ≤ 64 := by omega
  have hcq : q0.length ≤ c := hcap.1
  clear hb hl hcap hql hg hlen
  show Calls Try.prog 17 #[.int .i64 size, .slice sa q0.length c] w _
  go_enter Try.func17, Try.ntmps17
  have H := HS.start NoD w
  go_wp2_with fail
  go_loopw [9] (fun jj wr => ∃ (j : Nat), jj = .int .i64 j ∧ j ≤ q0.length ∧ HS NoD w [] wr) (fun jj _ => q0.length - (intOf jj).toNat)
  case atStart => exact ⟨0, rfl, Nat.zero_le _, H⟩
  case round =>
    clear H
    obtain ⟨j, rfl, hj, H⟩ := hrel
    skip
    try clear C
    try simp only [World.size_alloc, List.nil_append, List.cons_append, List.append_assoc] at H
    have C := H.cells
    try simp only [cellsOf, cellsM, apartOf, apartM, and_true] at C
    by_cases hlt : j < q0.length
    · obtain ⟨b, o, rfl, hb, hc⟩ := (H.liesUp HL.out).at hlt
      have HBJ := Lib.hid (HB.out j (by rw [← HQL.out]; exact hlt))
      have HGJ := Lib.hid (HG.out.good j (by rw [← HQL.out]; exact hlt))
      have HWH := Lib.hid (fun wx hx => whole_any size q0[j]! l[j]! HGJ.out wx hx)
      have hid : (q0[j]!).id = (l[j]!).id := HBJ.out.1
      have HKN := Lib.hid (fun w => rknown_any (q0[j]!).id w)
      rw [decide_eq_true (show 1 ≤ (q0[j]!).id ∧ (q0[j]!).id ≤ 64 by rw [hid]; exact ⟨HGJ.out.1, HGJ.out.2.1⟩)] at HKN
      have HPV := Lib.hid (show 0 < j → (q0[j - 1]!).id < (q0[j]!).id from fun hj0 => by
        have h1 := (HB.out (j - 1) (by rw [← HQL.out]; omega)).1
        have h2 := HG.out.asc (j - 1) (by rw [← HQL.out]; omega)
        rw [show j - 1 + 1 = j by omega] at h2
        rw [h1, hid]; exact h2)
      generalize q0[j]! = x at hc HBJ HWH hid HKN HPV
      obtain ⟨xi, xa, xn, xc⟩ := x
      dsimp only at HPV HKN
      have HWH2 := Lib.hid (fun wx hx => (show Calls Try.prog 21 #[.int .i64 size, .agg #[.int .i64 xi, .slice xa xn xc]] wx (Gives (.bool true) wx) from HWH.out wx hx))
      have c0 : wr.cell? ⟨b, o + j * 2, none⟩ = some (.int .i64 xi) := hc 0 _ rfl
      have c1 : wr.cell? ⟨b, o + j * 2 + 1, none⟩ = some (.slice xa xn xc) := hc 1 _ rfl
      have n1 : (b = wr.heap.size) = False := eq_false (by omega)
      have n2 : (wr.heap.size = b) = False := eq_false (by omega)
      clear hc hid HWH
      go_upto_region 4 with fail
      clear c0 c1 n1 n2
      generalize hwb : wr.alloc _ = w1
      replace H := HS.eqW hwb H.alloc
      try simp only [World.size_alloc, List.nil_append, List.cons_append, List.append_assoc] at H
      clear hwb
      generalize wr.heap.size = bX at H ⊢
      try clear C
      try clear wr
      have C := H.cells
      try simp only [cellsOf, cellsM, apartOf, apartM, and_true] at C
      obtain ⟨b0, o0, e9, hbw, -⟩ := (H.liesUp HL.out).at hlt
      obtain ⟨rfl, rfl⟩ : b = b0 ∧ o = o0 := by simpa using e9
      clear e9
      skip
      by_cases hj0 : 0 < j
      · have hj0i : (0 : Int) < j := by omega
        have hjw : IntKind.i64.wrap ((j : Int) - 1) = ((j - 1 : Nat) : Int) := by rw [IntWalk.i64_in _ (by omega)]; omega
        have hj1 : j - 1 < q0.length := by omega
        have hj1i : ((j - 1 : Nat) : Int) < q0.length := by omega
        have hlp := HPV.out hj0
        have HP0 := Lib.hid (show ∀ wx, Lies wx wx.heap.size (some ⟨b, o, none⟩) 2 q0.length (fun j => bvC q0[j]!) → wx.cell? ⟨b, o + (j - 1) * 2, none⟩ = some (.int .i64 (q0[j - 1]!).id) ∧ b < wx.heap.size from fun wx hx => by
          obtain ⟨b', o', e9, hb', hc'⟩ := hx.at hj1
          obtain ⟨rfl, rfl⟩ : b = b' ∧ o = o' := by simpa using e9
          exact ⟨hc' 0 _ rfl, hb'⟩)
        generalize (q0[j - 1]!).id = p at HP0 hlp
        refine wp_region_xH (by kernel_rfl) (by kernel_rfl) (by kernel_rfl) (by kernel_rfl) (fun _ => False) (H) ?_
        clear H; intro w2 H hz0 hs0
        try clear C
        try simp only [World.size_alloc, List.nil_append, List.cons_append, List.append_assoc] at H hz0
        clear hz0
        try clear w1
        have C := H.cells
        try simp only [cellsOf, cellsM, apartOf, apartM, and_true] at C
        have Z := H.zs
        try simp only [ltsOf, ltsM, and_true] at Z
        have hz0 := Nat.le_refl w2.heap.size
        obtain ⟨p0, hb'⟩ := HP0.out _ (H.liesUp HL.out)
        have hpn : ¬ xi ≤ p := by omega
        repeat (first | (refine wpX_skip rfl ?_; go_simp) | (refine wpX_free rfl rfl rfl (fun K hK => ?_); go_step; refine hK _ _ ?_; clear hK K) | (refine wpX_load rfl rfl rfl (by simp [Stay, OneD, NoD, *]) hs0 (by simp [*]) (fun K hK => ?_); go_step; refine hK _ _ ?_; clear hK K))
        refine wpX_eff rfl rfl (fun _ _ => ?_)
        go_step
        refine (HKN.out _).mono ?_
        rintro _ w3 ⟨rfl, hb⟩
        replace hs0 := hs0.belowS hz0 hb
        replace hz0 := Nat.le_trans hz0 hb.size
        replace H := H.below hb
        clear hb
        try clear C
        have C := H.cells
        try simp only [cellsOf, cellsM, apartOf, apartM, and_true] at C
        try clear w2
        dsimp only
        go_step
        refine ⟨hs0, ?_⟩
        repeat (first | (refine wpX_skip rfl ?_; go_simp) | (refine wpX_free rfl rfl rfl (fun K hK => ?_); go_step; refine hK _ _ ?_; clear hK K) | (refine wpX_load rfl rfl rfl (by simp [Stay, OneD, NoD, *]) hs0 (by simp [*]) (fun K hK => ?_); go_step; refine hK _ _ ?_; clear hK K))
        refine wpX_eff rfl rfl (fun _ _ => ?_)
        go_step
        refine (HWH2.out _ (HBJ.out.up H.done)).mono ?_
        rintro _ w4 ⟨rfl, hb⟩
        replace hs0 := hs0.belowS hz0 hb
        replace hz0 := Nat.le_trans hz0 hb.size
        replace H := H.below hb
        clear hb
        try clear C
        have C := H.cells
        try simp only [cellsOf, cellsM, apartOf, apartM, and_true] at C
        try clear w3
        dsimp only
        go_step
        refine ⟨hs0, ?_⟩
        have p1 := (HP0.out _ (H.liesUp HL.out)).1
        repeat (first | (refine wpX_skip rfl ?_; go_simp) | (refine wpX_free rfl rfl rfl (fun K hK => ?_); go_step; refine hK _ _ ?_; clear hK K) | (refine wpX_load rfl rfl rfl (by simp [Stay, OneD, NoD, *]) hs0 (by simp [*]) (fun K hK => ?_); go_step; refine hK _ _ ?_; clear hK K))
        (refine wpX_nil ?_; go_step)
        go_wp2_with fail
        go_roundw
        case rel => exact ⟨j + 1, by go_num, by omega, HS.less H (by repeat (first | exact .slnil | refine .cons_cons _ ?_ | refine .cons _ ?_))⟩
        case measure => simp [intOf]; omega
      · obtain rfl : j = 0 := by omega
        skip
        refine wp_region_xH (by kernel_rfl) (by kernel_rfl) (by kernel_rfl) (by kernel_rfl) (fun _ => False) (H) ?_
        clear H; intro w5 H hz0 hs0
        try clear C
        try simp only [World.size_alloc, List.nil_append, List.cons_append, List.append_assoc] at H hz0
        clear hz0
        try clear w1
        have C := H.cells
        try simp only [cellsOf, cellsM, apartOf, apartM, and_true] at C
        have Z := H.zs
        try simp only [ltsOf, ltsM, and_true] at Z
        have hz0 := Nat.le_refl w5.heap.size
        repeat (first | (refine wpX_skip rfl ?_; go_simp) | (refine wpX_free rfl rfl rfl (fun K hK => ?_); go_step; refine hK _ _ ?_; clear hK K) | (refine wpX_load rfl rfl rfl (by simp [Stay, OneD, NoD, *]) hs0 (by simp [*]) (fun K hK => ?_); go_step; refine hK _ _ ?_; clear hK K))
        refine wpX_eff rfl rfl (fun _ _ => ?_)
        go_step
        refine (HKN.out _).mono ?_
        rintro _ w6 ⟨rfl, hb⟩
        replace hs0 := hs0.belowS hz0 hb
        replace hz0 := Nat.le_trans hz0 hb.size
        replace H := H.below hb
        clear hb
        try clear C
        have C := H.cells
        try simp only [cellsOf, cellsM, apartOf, apartM, and_true] at C
        try clear w5
        dsimp only
        go_step
        refine ⟨hs0, ?_⟩
        repeat (first | (refine wpX_skip rfl ?_; go_simp) | (refine wpX_free rfl rfl rfl (fun K hK => ?_); go_step; refine hK _ _ ?_; clear hK K) | (refine wpX_load rfl rfl rfl (by simp [Stay, OneD, NoD, *]) hs0 (by simp [*]) (fun K hK => ?_); go_step; refine hK _ _ ?_; clear hK K))
        refine wpX_eff rfl rfl (fun _ _ => ?_)
        go_step
        refine (HWH2.out _ (HBJ.out.up H.done)).mono ?_
        rintro _ w7 ⟨rfl, hb⟩
        replace hs0 := hs0.belowS hz0 hb
        replace hz0 := Nat.le_trans hz0 hb.size
        replace H := H.below hb
        clear hb
        try clear C
        have C := H.cells
        try simp only [cellsOf, cellsM, apartOf, apartM, and_true] at C
        try clear w6
        dsimp only
        go_step
        refine ⟨hs0, ?_⟩
        repeat (first | (refine wpX_skip rfl ?_; go_simp) | (refine wpX_free rfl rfl rfl (fun K hK => ?_); go_step; refine hK _ _ ?_; clear hK K) | (refine wpX_load rfl rfl rfl (by simp [Stay, OneD, NoD, *]) hs0 (by simp [*]) (fun K hK => ?_); go_step; refine hK _ _ ?_; clear hK K))
        (refine wpX_nil ?_; go_step)
        go_wp2_with fail
        go_roundw
        case rel => exact ⟨1, by go_num, by omega, HS.less H (by repeat (first | exact .slnil | refine .cons_cons _ ?_ | refine .cons _ ?_))⟩
        case measure => simp [intOf]; omega
    · obtain rfl : j = q0.length := by omega
      skip
      go_wp2_with fail
      go_ret
      exact ⟨rfl, H.done⟩
end Go.Proofs.Ytheccfiidollpaa
