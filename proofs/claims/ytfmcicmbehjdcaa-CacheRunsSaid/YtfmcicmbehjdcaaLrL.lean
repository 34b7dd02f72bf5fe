/- cache.touch: a slot made the youngest one of its set, in place. -/
import Derived.Test.YtfmcicmbehjdcaaLrK
namespace Go.Proofs.Ytfmcicmbehjdcaa
set_option linter.unusedSimpArgs false
set_option linter.unusedVariables false
open Go.RowKit
set_option maxRecDepth 100000
attribute [local irreducible] wpX wpF Calls

def touchQ (lo W r : Nat) (qs : List Sw) : List Sw := (bumpK lo (lo + W) (lo + r) (qs[lo + r]!).s.age qs).set (lo + r) (youngS qs[lo + r]!)
theorem touchQ_use (W s r : Nat) (qs : List Sw) : touchQ (s * W) W r qs = useQ W s r qs := rfl
theorem touchQ_len (lo W r : Nat) (qs : List Sw) : (touchQ lo W r qs).length = qs.length := by unfold touchQ; rw [List.length_set, bumpK_len]
set_option maxHeartbeats 16000000 in
theorem touch_any {qs : List Sw} {lo W r g c c' : Nat} (hin : lo + W ≤ qs.length) (hr : r < W) (hlen : qs.length ≤ 1000) (hab : ∀ j, j < qs.length → (qs[j]!).s.u = true → 0 ≤ (qs[j]!).s.age ∧ (qs[j]!).s.age < 1000) (w : World) (hrow : w.ownsRow 0 37 6 (.slice (some ⟨g, 0, none⟩) qs.length c) qs.length (qs.flatMap swC)) :
    Calls Try.prog 41 #[.slice (some ⟨g, lo * 6, none⟩) W c', .int .i64 (r : Int)] w (TurnsTo g qs.length c (touchQ lo W r qs) w) := by
  have HAB := Lib.hid hab
  have hil : lo + r < qs.length := by omega
  have HUQ := Lib.hid (show touchQ lo W r qs = (bumpK lo (lo + W) (lo + r) (qs[lo + r]!).s.age qs).set (lo + r) (youngS qs[lo + r]!) from rfl)
  have HR := Lib.hid hrow
  clear hrow hab
  go_enter Try.func41, Try.ntmps41
  have H := HS.start NoD w
  clear H
  have H := HS.startOwn HR.out
  have C := H.cells
  simp only [cellsOf, cellsM, apartOf, apartM, and_true] at C
  go_wp2_with fail
  obtain ⟨a, ha⟩ : ∃ a, a = (qs[lo + r]!).s.age := ⟨_, rfl⟩
  have HA := Lib.hid ha
  clear ha
  go_loopw [4, 7] (fun _ kk wr => ∃ (k : Nat), kk = .int .i64 k ∧ k ≤ W ∧ HS (OneD g) w [rowS (some ⟨g, 0, none⟩) qs.length c (bumpK lo (lo + k) (lo + r) a qs)] wr) (fun _ kk _ => W - (intOf kk).toNat)
  case atStart => exact ⟨0, rfl, Nat.zero_le _, by rw [Nat.add_zero, bumpK_zero]; exact H⟩
  case round =>
    clear H C
    obtain ⟨k, rfl, hk, H⟩ := hrel
    skip
    try clear C
    try simp only [World.size_alloc, List.nil_append, List.cons_append, List.append_assoc] at H
    have C := H.cells
    try simp only [cellsOf, cellsM, apartOf, apartM, and_true] at C
    have hcell : ∀ (k' : Nat), k' < qs.length → ∀ m u, (swC (bumpK lo (lo + k) (lo + r) a qs)[k']!)[m]? = some u → wr.cell? ⟨g, k' * 6 + m, none⟩ = some u ∧ wr.frozen? ⟨g, k' * 6 + m, none⟩ = false := fun k' hk' m u hu => by
      have hm : m < 6 := (List.getElem?_eq_some_iff.1 hu).1
      have h1 := H.rowCells 0 rfl (k' * 6 + m) (by omega)
      exact ⟨h1.1.trans (flat_get swC_len (bumpK lo (lo + k) (lo + r) a qs) k' m u (by rw [bumpK_len]; exact hk') hu), h1.2⟩
    have e2 := bumpK_out (lo := lo) (k := lo + k) (i := lo + r) (a := a) hil (.inl rfl)
    by_cases hlt : k < W
    · have hkl : lo + k < qs.length := by omega
      have hki : (k : Int) < W := by omega
      have hri : (r : Int) < W := by omega
      have e1 := bumpK_out (lo := lo) (k := lo + k) (i := lo + r) (a := a) hkl (.inr (Nat.le_refl _))
      have c1 := hcell (lo + k) hkl
      have c2 := hcell (lo + r) hil
      rw [e1] at c1
      rw [e2] at c2
      have HYES := Lib.hid (bumpK_yes (lo := lo) (i := lo + r) (a := a) hkl (Nat.le_add_right _ _))
      have HNO := Lib.hid (bumpK_no (lo := lo) (k := lo + k) (i := lo + r) (a := a) (qs := qs))
      have HABK := Lib.hid (HAB.out (lo + k) hkl)
      have HSW := Lib.hid (sw_age (bumpK lo (lo + k) (lo + r) a qs) (lo + k) ((qs[lo + k]!).s.age + 1) (by rw [bumpK_len]; exact hkl))
      rw [e1] at HSW
      have hof : ∀ t, (lo + t) * 6 = lo * 6 + t * 6 := fun t => Nat.add_mul _ _ _
      have i1 : wr.cell? ⟨g, lo * 6 + r * 6 + 1, none⟩ = some (.int .i64 a) := by rw [HA.out, ← hof]; exact (c2 1 _ rfl).1
      obtain ⟨q, hq⟩ : ∃ q, q = qs[lo + k]! := ⟨_, rfl⟩
      rw [← hq] at c1 HYES HNO HABK HSW
      have HNE := Lib.hid (show k = r → q.s.age = a from fun e => by rw [hq, HA.out, e])
      have EK := Lib.hid (e1.trans hq.symm)
      have EI := Lib.hid e2
      clear hq hcell e1 e2 c2
      obtain ⟨⟨u, age, ad, bs, d, p⟩, ⟨sa, sn, sc⟩⟩ := q
      have k0 : wr.cell? ⟨g, lo * 6 + k * 6, none⟩ = some (.bool u) := by rw [← hof]; exact (c1 0 _ rfl).1
      have k1 : wr.cell? ⟨g, lo * 6 + k * 6 + 1, none⟩ = some (.int .i64 age) := by rw [← hof]; exact (c1 1 _ rfl).1
      have hgl : g < wr.heap.size := Item.lt (H.at 0 rfl) (k := g) rfl
      have HCG := Lib.hid (show ∀ (m : Nat) (v : Value), (swC ⟨⟨u, age, ⟨ad, bs, d, p⟩⟩, ⟨sa, sn, sc⟩⟩)[m]? = some v → ((bumpK lo (lo + k) (lo + r) a qs).flatMap swC)[(lo + k) * 6 + m]? = some v from fun m v hu => flat_get swC_len (bumpK lo (lo + k) (lo + r) a qs) (lo + k) m v (by rw [bumpK_len]; exact hkl) (by rw [EK.out]; exact hu))
      have HIG := Lib.hid (show ((bumpK lo (lo + k) (lo + r) a qs).flatMap swC)[(lo + r) * 6 + 1]? = some (.int .i64 a) from flat_get swC_len (bumpK lo (lo + k) (lo + r) a qs) (lo + r) 1 _ (by rw [bumpK_len]; exact hil) (by rw [EI.out, HA.out]; rfl))
      have HOR := Lib.hid (hof r)
      have HOF := Lib.hid (hof k)
      clear c1 hof
      dsimp only at HYES HNO HABK HSW HNE
      skip
      cases u
      case false =>
        have HN2 := Lib.hid (HNO.out (fun h => nomatch h.2.1))
        go_upto_region 3 with fail
        refine wp_region_xH (by kernel_rfl) (by kernel_rfl) (by kernel_rfl) (by kernel_rfl) (fun _ => False) (H) ?_
        clear H; intro w1 H hz0 hs0
        try clear C
        try simp only [World.size_alloc, List.nil_append, List.cons_append, List.append_assoc] at H hz0
        clear hz0
        try clear wr
        have C := H.cells
        try simp only [cellsOf, cellsM, apartOf, apartM, and_true] at C
        have Z := H.zs
        try simp only [ltsOf, ltsM, and_true] at Z
        have hz0 := Nat.le_refl w1.heap.size
        have hgl : g < w1.heap.size := Item.lt (H.at 0 rfl) (k := g) rfl
        have k0 : w1.cell? ⟨g, lo * 6 + k * 6, none⟩ = some (.bool false) := by rw [← HOF.out]; exact (H.rowCells 0 rfl ((lo + k) * 6) (by omega)).1.trans (HCG.out 0 _ rfl)
        have k1 : w1.cell? ⟨g, lo * 6 + k * 6 + 1, none⟩ = some (.int .i64 age) := by rw [← HOF.out]; exact (H.rowCells 0 rfl ((lo + k) * 6 + 1) (by omega)).1.trans (HCG.out 1 _ rfl)
        have k1f : w1.frozen? ⟨g, lo * 6 + k * 6 + 1, none⟩ = false := by rw [← HOF.out]; exact (H.rowCells 0 rfl ((lo + k) * 6 + 1) (by omega)).2
        have i1 : w1.cell? ⟨g, lo * 6 + r * 6 + 1, none⟩ = some (.int .i64 a) := by rw [← HOR.out]; exact (H.rowCells 0 rfl ((lo + r) * 6 + 1) (by omega)).1.trans HIG.out
        repeat (first | (refine wpX_skip rfl ?_; go_simp) | (refine wpX_free rfl rfl rfl (fun K hK => ?_); go_step; refine hK _ _ ?_; clear hK K) | (refine wpX_load rfl rfl rfl (by simp [Stay, OneD, NoD, *]) hs0 (by simp [*]) (fun K hK => ?_); go_step; refine hK _ _ ?_; clear hK K))
        (refine wpX_nil ?_; go_step)
        go_wp2_with fail
        go_roundw
        case rel => exact ⟨k + 1, by go_num, by omega, by rw [← Nat.add_assoc, ← HN2.out]; exact H⟩
        case measure => simp [intOf]; omega
      case true =>
        have hab := HABK.out rfl
        by_cases hage : age < a
        · have HY2 := Lib.hid (HYES.out ⟨fun e => by have := HNE.out (by omega); omega, rfl, hage⟩)
          skip
          go_upto_region 3 with fail
          refine wp_region_xH (by kernel_rfl) (by kernel_rfl) (by kernel_rfl) (by kernel_rfl) (fun _ => False) (H) ?_
          clear H; intro w2 H hz0 hs0
          try clear C
          try simp only [World.size_alloc, List.nil_append, List.cons_append, List.append_assoc] at H hz0
          clear hz0
          try clear wr
          have C := H.cells
          try simp only [cellsOf, cellsM, apartOf, apartM, and_true] at C
          have Z := H.zs
          try simp only [ltsOf, ltsM, and_true] at Z
          have hz0 := Nat.le_refl w2.heap.size
          have hgl : g < w2.heap.size := Item.lt (H.at 0 rfl) (k := g) rfl
          have k0 : w2.cell? ⟨g, lo * 6 + k * 6, none⟩ = some (.bool true) := by rw [← HOF.out]; exact (H.rowCells 0 rfl ((lo + k) * 6) (by omega)).1.trans (HCG.out 0 _ rfl)
          have k1 : w2.cell? ⟨g, lo * 6 + k * 6 + 1, none⟩ = some (.int .i64 age) := by rw [← HOF.out]; exact (H.rowCells 0 rfl ((lo + k) * 6 + 1) (by omega)).1.trans (HCG.out 1 _ rfl)
          have k1f : w2.frozen? ⟨g, lo * 6 + k * 6 + 1, none⟩ = false := by rw [← HOF.out]; exact (H.rowCells 0 rfl ((lo + k) * 6 + 1) (by omega)).2
          have i1 : w2.cell? ⟨g, lo * 6 + r * 6 + 1, none⟩ = some (.int .i64 a) := by rw [← HOR.out]; exact (H.rowCells 0 rfl ((lo + r) * 6 + 1) (by omega)).1.trans HIG.out
          repeat (first | (refine wpX_skip rfl ?_; go_simp) | (refine wpX_free rfl rfl rfl (fun K hK => ?_); go_step; refine hK _ _ ?_; clear hK K) | (refine wpX_load rfl rfl rfl (by simp [Stay, OneD, NoD, *]) hs0 (by simp [*]) (fun K hK => ?_); go_step; refine hK _ _ ?_; clear hK K))
          (refine wpX_nil ?_; go_step)
          go_upto_region 5 with fail
          generalize hwb : World.setCell _ _ _ = w8
          rw [← HOF.out] at hwb
          have H9 := HS.eqW hwb (H.rowSet 0 rfl ((lo + k) * 6 + 1) (.int .i64 (age + 1)))
          simp only [List.set_cons_zero] at H9
          replace HSW := Lib.hid (HSW.out.trans (congrArg (fun z : List Sw => z.flatMap swC) HY2.out))
          rw [HSW.out] at H9
          clear H C k1 k1f hgl hwb
          go_wp2_with fail
          go_roundw
          case rel => exact ⟨k + 1, by go_num, by omega, H9⟩
          case measure => simp [intOf]; omega
        · have HN2 := Lib.hid (HNO.out (fun h => hage h.2.2))
          skip
          go_upto_region 3 with fail
          refine wp_region_xH (by kernel_rfl) (by kernel_rfl) (by kernel_rfl) (by kernel_rfl) (fun _ => False) (H) ?_
          clear H; intro w3 H hz0 hs0
          try clear C
          try simp only [World.size_alloc, List.nil_append, List.cons_append, List.append_assoc] at H hz0
          clear hz0
          try clear wr
          have C := H.cells
          try simp only [cellsOf, cellsM, apartOf, apartM, and_true] at C
          have Z := H.zs
          try simp only [ltsOf, ltsM, and_true] at Z
          have hz0 := Nat.le_refl w3.heap.size
          have hgl : g < w3.heap.size := Item.lt (H.at 0 rfl) (k := g) rfl
          have k0 : w3.cell? ⟨g, lo * 6 + k * 6, none⟩ = some (.bool true) := by rw [← HOF.out]; exact (H.rowCells 0 rfl ((lo + k) * 6) (by omega)).1.trans (HCG.out 0 _ rfl)
          have k1 : w3.cell? ⟨g, lo * 6 + k * 6 + 1, none⟩ = some (.int .i64 age) := by rw [← HOF.out]; exact (H.rowCells 0 rfl ((lo + k) * 6 + 1) (by omega)).1.trans (HCG.out 1 _ rfl)
          have k1f : w3.frozen? ⟨g, lo * 6 + k * 6 + 1, none⟩ = false := by rw [← HOF.out]; exact (H.rowCells 0 rfl ((lo + k) * 6 + 1) (by omega)).2
          have i1 : w3.cell? ⟨g, lo * 6 + r * 6 + 1, none⟩ = some (.int .i64 a) := by rw [← HOR.out]; exact (H.rowCells 0 rfl ((lo + r) * 6 + 1) (by omega)).1.trans HIG.out
          repeat (first | (refine wpX_skip rfl ?_; go_simp) | (refine wpX_free rfl rfl rfl (fun K hK => ?_); go_step; refine hK _ _ ?_; clear hK K) | (refine wpX_load rfl rfl rfl (by simp [Stay, OneD, NoD, *]) hs0 (by simp [*]) (fun K hK => ?_); go_step; refine hK _ _ ?_; clear hK K))
          (refine wpX_nil ?_; go_step)
          go_wp2_with fail
          go_roundw
          case rel => exact ⟨k + 1, by go_num, by omega, by rw [← Nat.add_assoc, ← HN2.out]; exact H⟩
          case measure => simp [intOf]; omega
    · obtain rfl : k = W := by omega
      have hri : (r : Int) < k := by omega
      have c2 := hcell (lo + r) hil
      rw [e2] at c2
      have HSW := Lib.hid (sw_age (bumpK lo (lo + k) (lo + r) a qs) (lo + r) 0 (by rw [bumpK_len]; exact hil))
      rw [e2] at HSW
      have hof : (lo + r) * 6 = lo * 6 + r * 6 := Nat.add_mul _ _ _
      have i1 : wr.cell? ⟨g, lo * 6 + r * 6 + 1, none⟩ = some (.int .i64 a) := by rw [HA.out, ← hof]; exact (c2 1 _ rfl).1
      have i1f : wr.frozen? ⟨g, lo * 6 + r * 6 + 1, none⟩ = false := by rw [← hof]; exact (c2 1 _ rfl).2
      have hgl : g < wr.heap.size := Item.lt (H.at 0 rfl) (k := g) rfl
      have HOF := Lib.hid hof
      clear hcell e2 c2 hof
      go_wp2_with fail
      generalize hwb : World.setCell _ _ _ = w8
      rw [← HOF.out] at hwb
      have H9 := HS.eqW hwb (H.rowSet 0 rfl ((lo + r) * 6 + 1) (.int .i64 0))
      simp only [List.set_cons_zero] at H9
      rw [HSW.out] at H9
      go_end0
      exact ⟨rfl, by rw [HUQ.out, ← HA.out]; exact H9⟩
end Go.Proofs.Ytfmcicmbehjdcaa
