/- cache.Copy and the reference's: copies that share nothing. -/
import Derived.Test.YtfmcicmbehjdcaaLrB
namespace Go.Proofs.Ytfmcicmbehjdcaa
set_option linter.unusedSimpArgs false
set_option linter.unusedVariables false
open Go.RowKit
set_option maxRecDepth 100000
attribute [local irreducible] wpX wpF Calls

def caV (sets ways size : Int) (x : Sv) : Value := .agg #[.int .i64 sets, .int .i64 ways, .int .i64 size, .slice x.sa x.n x.c]
/-- A call that hands back a cache that shares nothing. -/
def GivesCache (sets ways size : Int) (l : List Sm) (w : World) (e : Ending) (w' : World) : Prop := ∃ (s : Option Addr) (c : Nat) (qs : List Sw) (F : Nat → Prop), qs.map Sw.s = l ∧ e = .returned (caV sets ways size ⟨s, qs.length, c⟩) ∧ HS NoD w [rowS s qs.length c qs, anyS F qs] w'
def SmallL (l : List Sm) : Prop := l.length ≤ 1000 ∧ ∀ j, j < l.length → (l[j]!).ln.bs.length ≤ 1000
theorem SmallL.q {qs : List Sw} (h : SmallL (qs.map Sw.s)) : qs.length ≤ 1000 ∧ ∀ j, j < qs.length → (qs[j]!).s.ln.bs.length ≤ 1000 := by
  obtain ⟨h1, h2⟩ := h
  rw [List.length_map] at h1
  refine ⟨h1, fun j hj => ?_⟩
  have := h2 j (by rw [List.length_map]; exact hj)
  rwa [map_get _ _ _ hj] at this
theorem map_mid {ys q0 : List Sw} {j : Nat} (hj : j < q0.length) (hm : ys.map Sw.s = (q0.take j).map Sw.s) (x : Sv) : (ys ++ [(⟨(q0[j]!).s, x⟩ : Sw)]).map Sw.s = (q0.take (j + 1)).map Sw.s := by
  rw [List.map_append, hm, List.take_add_one, List.map_append, List.getElem?_eq_getElem hj, getElem!_pos q0 j hj]
  rfl
theorem slotsOk_mid {w : World} {ys : List Sw} (h : SlotsOk w ys) {s : Sm} {x : Sv} (hb : BytesAt w x s.ln.bs) : SlotsOk w (ys ++ [(⟨s, x⟩ : Sw)]) := fun i hi => by
  rw [List.length_append] at hi
  simp at hi
  by_cases e : i < ys.length
  · rw [app_get1 e]; exact h i e
  · obtain rfl : i = ys.length := by omega
    rw [app_get2]; exact hb
set_option maxHeartbeats 8000000 in
theorem ccopy_any (sets ways size : Int) (x : Sv) (l : List Sm) (hs : SmallL l) (w : World) (h : SlotsAt w x l) : Calls Try.prog 38 #[caV sets ways size x] w (GivesCache sets ways size l w) := by
  obtain ⟨sa, n, c⟩ := x
  obtain ⟨q0, rfl, hn, hcap, hl, hb⟩ := h
  dsimp only at hn hcap hl
  subst hn
  obtain ⟨hq1000, hsm⟩ := hs.q
  have HB := Lib.hid hb
  have HSM := Lib.hid hsm
  have HL := Lib.hid hl
  have HCP := Lib.hid hcap
  have HCL := Lib.hid (fun wx hx => cloneSw (sa := sa) c (xs := q0) hq1000 (swC_one q0) wx hx)
  clear hb hsm hs hcap hl
  show Calls Try.prog 38 #[.agg #[.int .i64 sets, .int .i64 ways, .int .i64 size, .slice sa q0.length c]] w _
  go_enter Try.func38, Try.ntmps38
  have H := HS.start NoD w
  go_upto_region 1 with fail
  generalize hwb : (w.alloc _).alloc _ = w1
  replace H := HS.eqW hwb H.alloc.alloc
  try simp only [World.size_alloc, List.nil_append, List.cons_append, List.append_assoc] at H
  clear hwb
  generalize w.heap.size + 1 = bR at H ⊢
  generalize w.heap.size = bX at H ⊢
  try clear C
  have C := H.cells
  try simp only [cellsOf, cellsM, apartOf, apartM, and_true] at C
  go_wp2_with fail
  refine (HCL.out _ (H.liesUp HL.out)).mono ?_
  rintro _ w2 ⟨s2, c2, rfl, hr, hb2⟩
  replace H := H.getsRow hb2 hr
  clear hr hb2 HCL
  try simp only [List.nil_append, List.cons_append] at H
  skip
  try clear C
  try simp only [World.size_alloc, List.nil_append, List.cons_append, List.append_assoc] at H
  have C := H.cells
  try simp only [cellsOf, cellsM, apartOf, apartM, and_true] at C
  dsimp only
  go_upto_region 2 with fail
  generalize hwb : World.setCell _ _ _ = w3
  replace H := HS.eqW hwb (H.setTo (o := 3) (v := .slice s2 q0.length c2) 0 rfl rfl)
  clear hwb
  simp only [List.set_cons_succ, List.set_cons_zero] at H
  have hn1 := H.anyNil
  clear H
  have H := hn1
  clear hn1
  try simp only [List.nil_append, List.cons_append] at H
  skip
  try clear C
  try simp only [World.size_alloc, List.nil_append, List.cons_append, List.append_assoc] at H
  have C := H.cells
  try simp only [cellsOf, cellsM, apartOf, apartM, and_true] at C
  go_wp2_with fail
  go_loopw [3, 11] (fun _ jj wr => ∃ (j : Nat) (ys : List Sw) (F : Nat → Prop), jj = .int .i64 j ∧ j ≤ q0.length ∧ ys.length = j ∧ Hid (ys.map Sw.s = (q0.take j).map Sw.s) ∧ HS NoD w [.blk bX #[.int .i64 sets, .int .i64 ways, .int .i64 size, .slice s2 q0.length c2] 24, .blk bR #[.int .i64 0, .int .i64 0, .int .i64 0, .slice none 0 0] 24, rowS s2 q0.length c2 (ys ++ q0.drop j), anyS F ys] wr) (fun _ jj _ => q0.length - (intOf jj).toNat)
  case atStart =>
    refine ⟨0, [], fun _ => False, rfl, Nat.zero_le _, rfl, rfl, ?_⟩
    rw [List.drop_zero, List.nil_append]
    exact HS.weak (L := [_, _, _]) H (fun _ _ i hi => absurd hi (Nat.not_lt_zero _))
  case round =>
    clear H C
    obtain ⟨j, ys, F, rfl, hj, hyl, HMP, H⟩ := hrel
    skip
    try clear C
    try simp only [World.size_alloc, List.nil_append, List.cons_append, List.append_assoc] at H
    have C := H.cells
    try simp only [cellsOf, cellsM, apartOf, apartM, and_true] at C
    by_cases hlt : j < q0.length
    · obtain ⟨g, cap, hv, -, -⟩ := World.ownsRow.form (H.at 2 rfl) (by omega)
      obtain ⟨rfl, -, rfl⟩ := Value.slice.inj hv
      clear hv
      have HYL := Lib.hid hyl
      have HLN := Lib.hid (show (ys ++ q0.drop j).length = q0.length by rw [List.length_append, List.length_drop]; omega)
      have HMG := Lib.hid (mid_get hlt hyl)
      have HMS := Lib.hid (fun x => mid_set hlt hyl x)
      have HSL := Lib.hid (fun (m : Lm) (x : Sv) => sw_line (ys ++ q0.drop j) j m x (by rw [HLN.out]; exact hlt))
      have hcells : ∀ m u, (swC q0[j]!)[m]? = some u → wr.cell? ⟨g, j * 6 + m, none⟩ = some u ∧ wr.frozen? ⟨g, j * 6 + m, none⟩ = false := fun m u hu => by
        have hm : m < 6 := (List.getElem?_eq_some_iff.1 hu).1
        have h1 := H.rowCells 2 rfl (j * 6 + m) (by omega)
        refine ⟨h1.1.trans (flat_get swC_len (ys ++ q0.drop j) j m u (by rw [List.length_append, List.length_drop]; omega) ?_), h1.2⟩
        rw [mid_get hlt hyl]; exact hu
      have HBJ := Lib.hid (HB.out j hlt)
      have HMM := Lib.hid (fun x => map_mid hlt HMP.out x)
      have LCP := Lib.hid (fun wx hx => lcopy_any (q0[j]!).s.ln (q0[j]!).x (HSM.out j hlt) wx hx)
      generalize hqj : q0[j]! = q at hcells HBJ LCP HMM HMG
      have HMG2 := Lib.hid (HMG.out)
      clear hqj HMG
      obtain ⟨⟨u0, age, ad, bs, d, p⟩, ⟨xa, xn, xc⟩⟩ := q
      have k2 : wr.cell? ⟨g, j * 6 + 2, none⟩ = some (.int .i64 ad) := (hcells 2 _ rfl).1
      have k3 : wr.cell? ⟨g, j * 6 + 3, none⟩ = some (.slice xa xn xc) := (hcells 3 _ rfl).1
      have k4 : wr.cell? ⟨g, j * 6 + 4, none⟩ = some (.bool d) := (hcells 4 _ rfl).1
      have k5 : wr.cell? ⟨g, j * 6 + 5, none⟩ = some (.bool p) := (hcells 5 _ rfl).1
      replace LCP := Lib.hid (fun wx hx => (show Calls Try.prog 42 #[.agg #[.int .i64 ad, .slice xa xn xc, .bool d, .bool p]] wx (GivesLine ⟨ad, bs, d, p⟩ wx) from LCP.out wx hx))
      have hgl : g < wr.heap.size := Item.lt (H.at 2 rfl) (k := g) rfl
      have q1 : (g = wr.heap.size) = False := eq_false (by omega)
      have q2 : (wr.heap.size = g) = False := eq_false (by omega)
      have HCJ := Lib.hid (fun m u (hu : (swC ⟨⟨u0, age, ⟨ad, bs, d, p⟩⟩, ⟨xa, xn, xc⟩⟩)[m]? = some u) => flat_get swC_len (ys ++ q0.drop j) j m u (by rw [HLN.out]; exact hlt) (by rw [HMG2.out]; exact hu))
      have HFL := Lib.hid (show ((ys ++ q0.drop j).flatMap swC).length = q0.length * 6 by rw [flat_len swC_len, HLN.out])
      have HKF := Lib.hid (show ∀ w, (fun w => SlotsOk w ys) w → SlotsOk w ys from fun _ h => h)
      have HAL := Lib.hid (fun (x' : Sv) => show ((((((ys ++ q0.drop j).flatMap swC).set (j * 6 + 2) (.int .i64 ad)).set (j * 6 + 3) (.slice x'.sa x'.n x'.c)).set (j * 6 + 4) (.bool d)).set (j * 6 + 5) (.bool p)) = (ys ++ [(⟨⟨u0, age, ⟨ad, bs, d, p⟩⟩, x'⟩ : Sw)] ++ q0.drop (j + 1)).flatMap swC by
        have h1 := HSL.out ⟨ad, bs, d, p⟩ x'
        rw [HMG2.out, HMS.out] at h1
        exact h1)
      clear hyl hcells HSL HMS HMG2
      go_upto_region 5 with fail
      dsimp only [rowS, anyS] at H
      generalize (ys ++ q0.drop j).flatMap swC = cj at H HFL HAL HCJ
      generalize (fun w => SlotsOk w ys) = KF at H HKF
      clear k2 k3 k4 k5
      refine wp_region_hz (by kernel_rfl) [0, 1, 2, 3, 4, 5, 6, 7, 8, 9, 10, 11] (by kernel_rfl) (by kernel_rfl) (by kernel_rfl) rfl (fun _ => False) (H) ?_
      clear H; intro w2 H hz0
      try clear C
      try simp only [World.size_alloc, List.nil_append, List.cons_append, List.append_assoc] at H hz0 ⊢
      clear hz0
      try clear wr
      have C := H.cells
      try simp only [cellsOf, cellsM, apartOf, apartM, and_true] at C
      have Z := H.zs
      try simp only [ltsOf, ltsM, and_true] at Z
      simp only [List.filterMap_cons, List.filterMap_nil, List.getElem?_toArray, List.getElem?_cons_zero, List.getElem?_cons_succ]
      have hg9 : g < w2.heap.size := Item.lt (H.at 2 rfl) (k := g) rfl
      have k2 : w2.cell? ⟨g, j * 6 + 2, none⟩ = some (.int .i64 ad) := (H.rowCells 2 rfl (j * 6 + 2) (by omega)).1.trans (HCJ.out 2 _ rfl)
      have k3 : w2.cell? ⟨g, j * 6 + 3, none⟩ = some (.slice xa xn xc) := (H.rowCells 2 rfl (j * 6 + 3) (by omega)).1.trans (HCJ.out 3 _ rfl)
      have k4 : w2.cell? ⟨g, j * 6 + 4, none⟩ = some (.bool d) := (H.rowCells 2 rfl (j * 6 + 4) (by omega)).1.trans (HCJ.out 4 _ rfl)
      have k5 : w2.cell? ⟨g, j * 6 + 5, none⟩ = some (.bool p) := (H.rowCells 2 rfl (j * 6 + 5) (by omega)).1.trans (HCJ.out 5 _ rfl)
      (refine wpH_free rfl rfl rfl (fun _ _ => ?_); go_step; go_step)
      (refine wpH_load rfl rfl rfl (by simp [Stay, OneD, NoD, *]) (by simp [*]) (fun _ _ => ?_); go_step; go_step)
      (refine wpH_free rfl rfl rfl (fun _ _ => ?_); go_step; go_step)
      (refine wpH_free rfl rfl rfl (fun _ _ => ?_); go_step; go_step)
      (refine wpH_load rfl rfl rfl (by simp [Stay, OneD, NoD, *]) (by simp [*]) (fun _ _ => ?_); go_step; go_step)
      (refine wpH_free rfl rfl rfl (fun _ _ => ?_); go_step; go_step)
      (refine wpH_yield rfl rfl (.pointer (some ⟨g, j * 6, none⟩)) (fun w _ => by go_simp) ?_; go_simp)
      (refine wpH_free rfl rfl rfl (fun _ _ => ?_); go_step; go_step)
      (refine wpH_load rfl rfl rfl (by simp [Stay, OneD, NoD, *]) (by simp [*]) (fun _ _ => ?_); go_step; go_step)
      (refine wpH_call rfl rfl (fun wc hc _ _ => ?_); go_step; refine (LCP.out _ (HBJ.out.up hc.hs.done)).mono ?_; rintro _ wd ⟨⟨ra, rn, rc⟩, G, rfl, K⟩; dsimp only; go_step; refine ⟨_, (hc.joinH (fun _ h => h.1) (K) (one_low rfl)).1, (hc.joinH (fun _ h => h.1) (K) (one_low rfl)).2, ?_⟩; clear hc; try clear wc wd)
      (refine wpH_yield rfl rfl (.pointer (some ⟨g, j * 6, none⟩)) (fun w _ => by go_simp) ?_; go_simp)
      (refine wpH_free rfl rfl rfl (fun _ _ => ?_); go_step; go_step)
      refine wpH_nil ?_
      intro w3 hC
      replace H := hC.hs
      clear hC
      try clear C
      try clear Z
      try simp only [List.nil_append, List.cons_append, List.append_assoc, List.set_cons_succ, List.set_cons_zero] at H
      try clear w2
      have C := H.cells
      try simp only [cellsOf, cellsM, apartOf, apartM, and_true] at C
      clear k2 k3 k4 k5 q1 q2 hgl
      have hk : ∀ m, m < 6 → ∃ u, w3.cell? ⟨g, j * 6 + m, none⟩ = some u ∧ w3.frozen? ⟨g, j * 6 + m, none⟩ = false := fun m hm => by
        have h1 := H.rowCells 2 rfl (j * 6 + m) (by omega)
        exact ⟨_, h1.1.trans (List.getElem?_eq_getElem (by rw [HFL.out]; omega)), h1.2⟩
      obtain ⟨u2, k2, k2f⟩ : ∃ u, w3.cell? ⟨g, j * 6 + 2, none⟩ = some u ∧ w3.frozen? ⟨g, j * 6 + 2, none⟩ = false := hk 2 (by omega)
      obtain ⟨u3, k3, k3f⟩ : ∃ u, w3.cell? ⟨g, j * 6 + 3, none⟩ = some u ∧ w3.frozen? ⟨g, j * 6 + 3, none⟩ = false := hk 3 (by omega)
      obtain ⟨u4, k4, k4f⟩ : ∃ u, w3.cell? ⟨g, j * 6 + 4, none⟩ = some u ∧ w3.frozen? ⟨g, j * 6 + 4, none⟩ = false := hk 4 (by omega)
      obtain ⟨u5, k5, k5f⟩ : ∃ u, w3.cell? ⟨g, j * 6 + 5, none⟩ = some u ∧ w3.frozen? ⟨g, j * 6 + 5, none⟩ = false := hk 5 (by omega)
      clear hk
      have hgl : g < w3.heap.size := Item.lt (H.at 2 rfl) (k := g) rfl
      try dsimp only [lnV]
      go_upto_region 6 with fail
      generalize hwb : World.setCell _ _ _ = w8
      have H9 := HS.eqW hwb ((((H.rowSet 2 rfl (j * 6 + 2) (.int .i64 ad)).rowSet 2 rfl (j * 6 + 3) (.slice ra rn rc)).rowSet 2 rfl (j * 6 + 4) (.bool d)).rowSet 2 rfl (j * 6 + 5) (.bool p))
      clear H C hwb k2 k3 k4 k5 k2f k3f k4f k5f hgl hg9
      simp only [List.set_cons_succ, List.set_cons_zero] at H9
      rw [HAL.out ⟨ra, rn, rc⟩] at H9
      have H7 := HS.merge (L := [_, _, _]) H9
      have H6 := HS.weak (L := [_, _, _]) H7 (K' := fun w => SlotsOk w (ys ++ [(⟨⟨u0, age, ⟨ad, bs, d, p⟩⟩, ⟨ra, rn, rc⟩⟩ : Sw)])) (fun w' ⟨a1, a2⟩ => slotsOk_mid (HKF.out w' a1) a2)
      obtain ⟨F6, H6⟩ : ∃ F6, HS NoD w [.blk bX #[.int .i64 sets, .int .i64 ways, .int .i64 size, .slice (some ⟨g, 0, none⟩) q0.length c2] 24, .blk bR #[.int .i64 0, .int .i64 0, .int .i64 0, .slice none 0 0] 24, rowS (some ⟨g, 0, none⟩) q0.length c2 (ys ++ [(⟨⟨u0, age, ⟨ad, bs, d, p⟩⟩, ⟨ra, rn, rc⟩⟩ : Sw)] ++ q0.drop (j + 1)), anyS F6 (ys ++ [(⟨⟨u0, age, ⟨ad, bs, d, p⟩⟩, ⟨ra, rn, rc⟩⟩ : Sw)])] w8 := ⟨_, H6⟩
      go_wp2_with fail
      go_roundw
      case rel =>
        exact ⟨j + 1, ys ++ [(⟨⟨u0, age, ⟨ad, bs, d, p⟩⟩, ⟨ra, rn, rc⟩⟩ : Sw)], F6, by go_num, by omega, by rw [List.length_append, HYL.out]; rfl, HMM.out ⟨ra, rn, rc⟩, H6⟩
      case measure => simp [intOf]; omega
    · obtain rfl : j = q0.length := by omega
      rw [List.drop_length, List.append_nil] at H
      have HYL := Lib.hid hyl
      clear hyl
      skip
      go_wp2_with fail
      generalize hwb : (((wr.setCell _ _).setCell _ _).setCell _ _).setCell _ _ = w4
      replace H := HS.eqW hwb (H.putAll (i := 1) rfl (vs := [.int .i64 sets, .int .i64 ways, .int .i64 size, .slice s2 q0.length c2]) rfl rfl)
      simp only [List.nil_append, List.cons_append, List.append_assoc, List.set_cons_succ, List.set_cons_zero] at H
      clear hwb
      try clear C
      try clear wr
      have C := H.cells
      try simp only [cellsOf, cellsM, apartOf, apartM, and_true] at C
      refine bodyPost_ret (by simp [results, Try.results38, go_sem, C]; try rfl) rfl ?_
      have H9 := HS.less (L' := [rowS s2 q0.length c2 ys, anyS F ys]) H (by repeat (first | exact .slnil | refine .cons_cons _ ?_ | refine .cons _ ?_))
      rw [← HYL.out] at H9 ⊢
      exact ⟨s2, c2, ys, F, by rw [HMP.out, List.take_of_length_le (Nat.le_refl _)], rfl, H9⟩
set_option maxHeartbeats 8000000 in
theorem r31copy_any (sets ways size : Int) (x : Sv) (l : List Sm) (hs : SmallL l) (w : World) (h : SlotsAt w x l) : Calls Try.prog 12 #[caV sets ways size x] w (GivesCache sets ways size l w) := by
  obtain ⟨sa, n, c⟩ := x
  obtain ⟨q0, rfl, hn, hcap, hl, hb⟩ := h
  dsimp only at hn hcap hl
  subst hn
  obtain ⟨hq1000, hsm⟩ := hs.q
  have HB := Lib.hid hb
  have HSM := Lib.hid hsm
  have HL := Lib.hid hl
  have HCP := Lib.hid hcap
  clear hb hsm hs hcap hl
  show Calls Try.prog 12 #[.agg #[.int .i64 sets, .int .i64 ways, .int .i64 size, .slice sa q0.length c]] w _
  go_enter Try.func12, Try.ntmps12
  have H := HS.start NoD w
  go_upto_region 1 with fail
  generalize hwb : (w.alloc _).alloc _ = w1
  replace H := HS.eqW hwb H.alloc.alloc
  try simp only [World.size_alloc, List.nil_append, List.cons_append, List.append_assoc] at H
  clear hwb
  generalize w.heap.size + 1 = bR at H ⊢
  generalize w.heap.size = bX at H ⊢
  try clear C
  have C := H.cells
  try simp only [cellsOf, cellsM, apartOf, apartM, and_true] at C
  have hn1 := H.nilRow 37 6
  clear H
  have H := hn1
  clear hn1
  try simp only [List.nil_append, List.cons_append] at H
  try clear C
  try simp only [World.size_alloc, List.nil_append, List.cons_append, List.append_assoc] at H
  have C := H.cells
  try simp only [cellsOf, cellsM, apartOf, apartM, and_true] at C
  go_upto_region 2 with (at_builtin; refine wpList_apX rfl (.const (.slice none 0 0)) (.tmp 6) 22 rfl elemSw H 2 rfl rfl rfl (Lies.srcX swC_len (by decide) HCP.out.1 (H.liesUp HL.out) HCP.out.2) (flat_len swC_len q0) (swC_one q0) (by unfold maxLen; omega) (by omega) (N := q0.length) (by omega) (fun s2 c2 w3 HZ hg => ?_); clear H C hg; replace HZ := HZ; simp only [List.nil_append, List.cons_append, List.append_assoc, List.set_cons_succ, List.set_cons_zero] at HZ; have H := HZ; clear HZ; have C := H.cells; simp only [cellsOf, cellsM, apartOf, apartM, and_true] at C)
  have hn1 := H.anyNil
  clear H C
  have H := hn1
  clear hn1
  try simp only [List.nil_append, List.cons_append] at H
  skip
  try clear C
  try simp only [World.size_alloc, List.nil_append, List.cons_append, List.append_assoc] at H
  have C := H.cells
  try simp only [cellsOf, cellsM, apartOf, apartM, and_true] at C
  go_wp2_with fail
  go_loopw [4, 10] (fun _ jj wr => ∃ (j : Nat) (ys : List Sw) (F : Nat → Prop), jj = .int .i64 j ∧ j ≤ q0.length ∧ ys.length = j ∧ Hid (ys.map Sw.s = (q0.take j).map Sw.s) ∧ HS NoD w [.blk bX #[.int .i64 sets, .int .i64 ways, .int .i64 size, .slice sa q0.length c] 24, .blk bR #[.int .i64 0, .int .i64 0, .int .i64 0, .slice none 0 0] 24, rowS s2 q0.length c2 (ys ++ q0.drop j), anyS F ys] wr) (fun _ jj _ => q0.length - (intOf jj).toNat)
  case atStart =>
    refine ⟨0, [], fun _ => False, rfl, Nat.zero_le _, rfl, rfl, ?_⟩
    rw [List.drop_zero, List.nil_append]
    exact HS.weak (L := [_, _, _]) H (fun _ _ i hi => absurd hi (Nat.not_lt_zero _))
  case round =>
    clear H C
    obtain ⟨j, ys, F, rfl, hj, hyl, HMP, H⟩ := hrel
    skip
    try clear C
    try simp only [World.size_alloc, List.nil_append, List.cons_append, List.append_assoc] at H
    have C := H.cells
    try simp only [cellsOf, cellsM, apartOf, apartM, and_true] at C
    by_cases hlt : j < q0.length
    · obtain ⟨g, cap, hv, -, -⟩ := World.ownsRow.form (H.at 2 rfl) (by omega)
      obtain ⟨rfl, -, rfl⟩ := Value.slice.inj hv
      clear hv
      have HYL := Lib.hid hyl
      have HLN := Lib.hid (show (ys ++ q0.drop j).length = q0.length by rw [List.length_append, List.length_drop]; omega)
      have HMG := Lib.hid (mid_get hlt hyl)
      have HMS := Lib.hid (fun x => mid_set hlt hyl x)
      have HSL := Lib.hid (fun (m : Lm) (x : Sv) => sw_line (ys ++ q0.drop j) j m x (by rw [HLN.out]; exact hlt))
      have hcells : ∀ m u, (swC q0[j]!)[m]? = some u → wr.cell? ⟨g, j * 6 + m, none⟩ = some u ∧ wr.frozen? ⟨g, j * 6 + m, none⟩ = false := fun m u hu => by
        have hm : m < 6 := (List.getElem?_eq_some_iff.1 hu).1
        have h1 := H.rowCells 2 rfl (j * 6 + m) (by omega)
        refine ⟨h1.1.trans (flat_get swC_len (ys ++ q0.drop j) j m u (by rw [List.length_append, List.length_drop]; omega) ?_), h1.2⟩
        rw [mid_get hlt hyl]; exact hu
      have HBJ := Lib.hid (HB.out j hlt)
      have HMM := Lib.hid (fun x => map_mid hlt HMP.out x)
      have LCP := Lib.hid (fun wx hx => l30copy_any (q0[j]!).s.ln (q0[j]!).x (HSM.out j hlt) wx hx)
      generalize hqj : q0[j]! = q at hcells HBJ LCP HMM HMG
      have HMG2 := Lib.hid (HMG.out)
      clear hqj HMG
      obtain ⟨⟨u0, age, ad, bs, d, p⟩, ⟨xa, xn, xc⟩⟩ := q
      have k2 : wr.cell? ⟨g, j * 6 + 2, none⟩ = some (.int .i64 ad) := (hcells 2 _ rfl).1
      have k3 : wr.cell? ⟨g, j * 6 + 3, none⟩ = some (.slice xa xn xc) := (hcells 3 _ rfl).1
      have k4 : wr.cell? ⟨g, j * 6 + 4, none⟩ = some (.bool d) := (hcells 4 _ rfl).1
      have k5 : wr.cell? ⟨g, j * 6 + 5, none⟩ = some (.bool p) := (hcells 5 _ rfl).1
      replace LCP := Lib.hid (fun wx hx => (show Calls Try.prog 33 #[.agg #[.int .i64 ad, .slice xa xn xc, .bool d, .bool p]] wx (GivesLine ⟨ad, bs, d, p⟩ wx) from LCP.out wx hx))
      have hgl : g < wr.heap.size := Item.lt (H.at 2 rfl) (k := g) rfl
      have q1 : (g = wr.heap.size) = False := eq_false (by omega)
      have q2 : (wr.heap.size = g) = False := eq_false (by omega)
      have HCJ := Lib.hid (fun m u (hu : (swC ⟨⟨u0, age, ⟨ad, bs, d, p⟩⟩, ⟨xa, xn, xc⟩⟩)[m]? = some u) => flat_get swC_len (ys ++ q0.drop j) j m u (by rw [HLN.out]; exact hlt) (by rw [HMG2.out]; exact hu))
      have HFL := Lib.hid (show ((ys ++ q0.drop j).flatMap swC).length = q0.length * 6 by rw [flat_len swC_len, HLN.out])
      have HKF := Lib.hid (show ∀ w, (fun w => SlotsOk w ys) w → SlotsOk w ys from fun _ h => h)
      have HAL := Lib.hid (fun (x' : Sv) => show ((((((ys ++ q0.drop j).flatMap swC).set (j * 6 + 2) (.int .i64 ad)).set (j * 6 + 3) (.slice x'.sa x'.n x'.c)).set (j * 6 + 4) (.bool d)).set (j * 6 + 5) (.bool p)) = (ys ++ [(⟨⟨u0, age, ⟨ad, bs, d, p⟩⟩, x'⟩ : Sw)] ++ q0.drop (j + 1)).flatMap swC by
        have h1 := HSL.out ⟨ad, bs, d, p⟩ x'
        rw [HMG2.out, HMS.out] at h1
        exact h1)
      clear hyl hcells HSL HMS HMG2
      go_upto_region 5 with fail
      dsimp only [rowS, anyS] at H
      generalize (ys ++ q0.drop j).flatMap swC = cj at H HFL HAL HCJ
      generalize (fun w => SlotsOk w ys) = KF at H HKF
      go_wp2_with fail
      refine (LCP.out _ (HBJ.out.up H.done)).mono ?_
      rintro _ w6 ⟨⟨ra, rn, rc⟩, G, rfl, K⟩
      replace H := H.join K (one_low rfl)
      clear K LCP C
      try simp only [List.nil_append, List.cons_append] at H
      skip
      try clear C
      try simp only [World.size_alloc, List.nil_append, List.cons_append, List.append_assoc] at H
      have C := H.cells
      try simp only [cellsOf, cellsM, apartOf, apartM, and_true] at C
      dsimp only [lnV]
      have hg9 : g < w6.heap.size := Item.lt (H.at 2 rfl) (k := g) rfl
      clear k2 k3 k4 k5 q1 q2 hgl
      have hk : ∀ m, m < 6 → ∃ u, w6.cell? ⟨g, j * 6 + m, none⟩ = some u ∧ w6.frozen? ⟨g, j * 6 + m, none⟩ = false := fun m hm => by
        have h1 := H.rowCells 2 rfl (j * 6 + m) (by omega)
        exact ⟨_, h1.1.trans (List.getElem?_eq_getElem (by rw [HFL.out]; omega)), h1.2⟩
      obtain ⟨u2, k2, k2f⟩ : ∃ u, w6.cell? ⟨g, j * 6 + 2, none⟩ = some u ∧ w6.frozen? ⟨g, j * 6 + 2, none⟩ = false := hk 2 (by omega)
      obtain ⟨u3, k3, k3f⟩ : ∃ u, w6.cell? ⟨g, j * 6 + 3, none⟩ = some u ∧ w6.frozen? ⟨g, j * 6 + 3, none⟩ = false := hk 3 (by omega)
      obtain ⟨u4, k4, k4f⟩ : ∃ u, w6.cell? ⟨g, j * 6 + 4, none⟩ = some u ∧ w6.frozen? ⟨g, j * 6 + 4, none⟩ = false := hk 4 (by omega)
      obtain ⟨u5, k5, k5f⟩ : ∃ u, w6.cell? ⟨g, j * 6 + 5, none⟩ = some u ∧ w6.frozen? ⟨g, j * 6 + 5, none⟩ = false := hk 5 (by omega)
      clear hk
      have hgl : g < w6.heap.size := Item.lt (H.at 2 rfl) (k := g) rfl
      try dsimp only [lnV]
      go_upto_region 6 with fail
      generalize hwb : World.setCell _ _ _ = w8
      have H9 := HS.eqW hwb ((((H.rowSet 2 rfl (j * 6 + 2) (.int .i64 ad)).rowSet 2 rfl (j * 6 + 3) (.slice ra rn rc)).rowSet 2 rfl (j * 6 + 4) (.bool d)).rowSet 2 rfl (j * 6 + 5) (.bool p))
      clear H C hwb k2 k3 k4 k5 k2f k3f k4f k5f hgl hg9
      simp only [List.set_cons_succ, List.set_cons_zero] at H9
      rw [HAL.out ⟨ra, rn, rc⟩] at H9
      have H7 := HS.merge (L := [_, _, _]) H9
      have H6 := HS.weak (L := [_, _, _]) H7 (K' := fun w => SlotsOk w (ys ++ [(⟨⟨u0, age, ⟨ad, bs, d, p⟩⟩, ⟨ra, rn, rc⟩⟩ : Sw)])) (fun w' ⟨a1, a2⟩ => slotsOk_mid (HKF.out w' a1) a2)
      obtain ⟨F6, H6⟩ : ∃ F6, HS NoD w [.blk bX #[.int .i64 sets, .int .i64 ways, .int .i64 size, .slice sa q0.length c] 24, .blk bR #[.int .i64 0, .int .i64 0, .int .i64 0, .slice none 0 0] 24, rowS (some ⟨g, 0, none⟩) q0.length c2 (ys ++ [(⟨⟨u0, age, ⟨ad, bs, d, p⟩⟩, ⟨ra, rn, rc⟩⟩ : Sw)] ++ q0.drop (j + 1)), anyS F6 (ys ++ [(⟨⟨u0, age, ⟨ad, bs, d, p⟩⟩, ⟨ra, rn, rc⟩⟩ : Sw)])] w8 := ⟨_, H6⟩
      go_wp2_with fail
      go_roundw
      case rel =>
        exact ⟨j + 1, ys ++ [(⟨⟨u0, age, ⟨ad, bs, d, p⟩⟩, ⟨ra, rn, rc⟩⟩ : Sw)], F6, by go_num, by omega, by rw [List.length_append, HYL.out]; rfl, HMM.out ⟨ra, rn, rc⟩, H6⟩
      case measure => simp [intOf]; omega
    · obtain rfl : j = q0.length := by omega
      rw [List.drop_length, List.append_nil] at H
      have HYL := Lib.hid hyl
      clear hyl
      skip
      go_upto_region 8 with fail
      generalize hwb : World.setCell _ _ _ = w5
      replace H := HS.eqW hwb (H.setTo (o := 3) (v := .slice s2 q0.length c2) 0 rfl rfl)
      clear hwb
      simp only [List.set_cons_succ, List.set_cons_zero] at H
      skip
      try clear C
      try simp only [World.size_alloc, List.nil_append, List.cons_append, List.append_assoc] at H
      have C := H.cells
      try simp only [cellsOf, cellsM, apartOf, apartM, and_true] at C
      go_wp2_with fail
      generalize hwb : (((w5.setCell _ _).setCell _ _).setCell _ _).setCell _ _ = w2
      replace H := HS.eqW hwb (H.putAll (i := 1) rfl (vs := [.int .i64 sets, .int .i64 ways, .int .i64 size, .slice s2 q0.length c2]) rfl rfl)
      simp only [List.nil_append, List.cons_append, List.append_assoc, List.set_cons_succ, List.set_cons_zero] at H
      clear hwb
      try clear C
      try clear w5
      have C := H.cells
      try simp only [cellsOf, cellsM, apartOf, apartM, and_true] at C
      refine bodyPost_ret (by simp [results, Try.results12, go_sem, C]; try rfl) rfl ?_
      have H9 := HS.less (L' := [rowS s2 q0.length c2 ys, anyS F ys]) H (by repeat (first | exact .slnil | refine .cons_cons _ ?_ | refine .cons _ ?_))
      rw [← HYL.out] at H9 ⊢
      exact ⟨s2, c2, ys, F, by rw [HMP.out, List.take_of_length_le (Nat.le_refl _)], rfl, H9⟩
end Go.Proofs.Ytfmcicmbehjdcaa
