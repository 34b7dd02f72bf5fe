/- core.Set: a word put at its place in a memory of the caller's own. -/
import Derived.Test.YtplflpmkomeadaaDoorCeTn
import Derived.Test.YtplflpmkomeadaaDoorCeL
namespace Go.Proofs.YtplflpmkomeadaaDoor
set_option linter.unusedSimpArgs false
set_option linter.unusedVariables false
open Go.RowKit
set_option maxRecDepth 100000
attribute [local irreducible] wpX wpF Calls

abbrev meI (b : Nat) (M : Mm) (x y : Sv) : Item := .blk b #[.int .i64 M.s0, .int .i64 M.s1, .int .i64 M.s2, .int .i64 M.s3, .int .i64 M.s4, .int .i64 M.s5, .int .i64 M.kd, .int .i64 M.dt, .int .i64 M.ck, .int .i64 M.fx, .slice x.sa x.n x.c, .slice y.sa y.n y.c] 34
def SetPost (M : Mm) (b : Nat) (s : Option Addr) (c : Nat) (y : Sv) (qs : List (Wm × Sv)) (F : Nat → Prop) (m : Wm) (x : Sv) (G : Nat → Prop) (w : World) (e : Ending) (w' : World) : Prop :=
  ∃ s' c' zs, e = .returned (.tuple #[]) ∧ zs.map Prod.fst = putW M.ws m ∧ (∀ q ∈ zs, q ∈ qs ∨ q = (m, x)) ∧ HS (FpOf [meI b M ⟨s, qs.length, c⟩ y, rowCw s qs.length c qs, anyCw F qs, .any G (fun w => BytesAt w x m.bs)]) w [meI b M ⟨s', zs.length, c'⟩ y, rowCw s' zs.length c' zs, anyCw F qs, .any G (fun w => BytesAt w x m.bs)] w'
theorem set_low {A B C E : Item} (hA : A.low = 0) (hB : B.low = 0) (hC : C.low = 0) (hE : E.low = 0) : ∀ X ∈ [A, B, C, E], X.low = 0 := fun X hX => by
  simp only [List.mem_cons, List.mem_nil_iff, or_false] at hX
  rcases hX with rfl | rfl | rfl | rfl <;> assumption
set_option maxHeartbeats 8000000 in
theorem cset_any (M : Mm) (b : Nat) (s : Option Addr) (c : Nat) (y : Sv) (qs : List (Wm × Sv)) (F : Nat → Prop) (m : Wm) (x : Sv) (G : Nat → Prop) (hqm : qs.map Prod.fst = M.ws) (hql : qs.length ≤ 1000) (hso : M.ws.Pairwise (fun x y => x.ix < y.ix)) (hbl : m.bs.length ≤ 1000) (w : World)
    (h : HS (FpOf [meI b M ⟨s, qs.length, c⟩ y, rowCw s qs.length c qs, anyCw F qs, .any G (fun w => BytesAt w x m.bs)]) w [meI b M ⟨s, qs.length, c⟩ y, rowCw s qs.length c qs, anyCw F qs, .any G (fun w => BytesAt w x m.bs)] w) :
    Calls Tryd.prog 63 #[.pointer (some ⟨b, 0, none⟩), cwV m x] w (SetPost M b s c y qs F m x G w) := by
  have hpw : qs.Pairwise fun x y => x.1.ix < y.1.ix := pw_pair (by rw [hqm]; exact hso)
  have HPW := Lib.hid hpw
  have HFI := Lib.hid (fun wx h1 h2 => cfind_any M b ⟨s, qs.length, c⟩ y qs hql hpw m.ix wx h1 h2)
  have HBK := Lib.hid (fun wx h1 => blank_any m x (by omega) wx h1)
  have HQM := Lib.hid hqm
  have HQL := Lib.hid hql
  have HH := Lib.hid h
  have HVS := Lib.hid (show putW (qs.map Prod.fst) m = putW M.ws m by rw [hqm])
  clear h hqm hso hpw
  generalize hbb : blankW m = bb at HBK
  have HBB := Lib.hid hbb
  clear hbb hbl
  obtain ⟨s0, s1, s2, s3, s4, s5, kd, dt, ck, fx, ws, fs⟩ := M
  obtain ⟨wi, bs, po⟩ := m
  obtain ⟨xa, xn, xc⟩ := x
  obtain ⟨ya, yn, yc⟩ := y
  show Calls Tryd.prog 63 #[.pointer (some ⟨b, 0, none⟩), .agg #[.int .i64 wi, .slice xa xn xc, .bool po]] w _
  replace HBK := Lib.hid (fun wx hx => (show Calls Tryd.prog 55 #[.agg #[.int .i64 wi, .slice xa xn xc, .bool po]] wx _ from HBK.out wx hx))
  go_enter Tryd.func63, Tryd.ntmps63
  have H := HS.start NoD w
  clear H
  have H := HH.out
  clear HH
  try dsimp only [meI] at H ⊢
  try dsimp only [meI] at H
  skip
  try clear C
  try simp only [World.size_alloc, List.nil_append, List.cons_append, List.append_assoc] at H
  have C := H.cells
  try simp only [cellsOf, cellsM, apartOf, apartM, and_true] at C
  go_upto_region 1 with fail
  generalize hwb : w.alloc _ = w1
  replace H := HS.eqW hwb H.alloc
  try simp only [World.size_alloc, List.nil_append, List.cons_append, List.append_assoc] at H
  clear hwb
  generalize w.heap.size = b3 at H ⊢
  try clear C
  have C := H.cells
  try simp only [cellsOf, cellsM, apartOf, apartM, and_true] at C
  go_wp2_with fail
  refine (HFI.out _ (H.at 0 rfl) (cwLie_of (H.at 1 rfl) rfl (H.says 2 rfl))).mono ?_
  rintro _ w2 ⟨j, hj, hlo, hhi, rfl, hb2⟩
  replace H := H.below hb2
  clear hb2 HFI
  skip
  try clear C
  try simp only [World.size_alloc, List.nil_append, List.cons_append, List.append_assoc] at H
  have C := H.cells
  try simp only [cellsOf, cellsM, apartOf, apartM, and_true] at C
  dsimp only
  have HLO := Lib.hid hlo
  have HHI := Lib.hid hhi
  clear hlo hhi
  try dsimp only at HLO
  try dsimp only at HHI
  skip
  by_cases hh : j < qs.length ∧ (qs[j]!).1.ix = wi
  · rw [decide_eq_true hh]
    obtain ⟨hlt9, hix⟩ := hh
    have hZS := zs_found (m := ⟨wi, bs, po⟩) hlt9 HLO.out hix HPW.out
    have HZS := Lib.hid hZS
    clear hZS hix
    go_wp2_with fail
    refine (HBK.out _ (H.says 3 rfl)).mono ?_
    rintro _ w2 ⟨rfl, hb⟩
    replace H := H.below hb
    clear hb
    try clear C
    try simp only [World.size_alloc, List.nil_append, List.cons_append, List.append_assoc] at H
    try clear w2
    have C := H.cells
    try simp only [cellsOf, cellsM, apartOf, apartM, and_true] at C
    dsimp only
    clear HBK
    skip
    cases bb with
    | true =>
      have HZ2 := Lib.hid (show putW (qs.map Prod.fst) ⟨wi, bs, po⟩ = (qs.take j ++ qs.drop (j + 1)).map Prod.fst by rw [HZS.out, HBB.out, if_pos rfl, List.append_nil, List.map_append, List.map_take, List.map_drop])
      have HZ3 := Lib.hid (HZ2.out.symm.trans HVS.out)
      clear HZS HZ2
      obtain ⟨g, cap, hv, -, -⟩ := World.ownsRow.form (H.at 1 rfl) (by omega)
      obtain ⟨rfl, -, rfl⟩ := Value.slice.inj hv
      clear hv
      have HFT := Lib.hid (show (qs.flatMap cwC).take (j * 3) ++ (qs.flatMap cwC).drop ((j + 1) * 3) = (qs.take j ++ qs.drop (j + 1)).flatMap cwC by rw [flatTakeN cwC_len, flatDropN cwC_len, List.flatMap_append])
      have HLN := Lib.hid (show (qs.take j ++ qs.drop (j + 1)).length = qs.length - 1 by rw [List.length_append, List.length_take, List.length_drop]; omega)
      have hjw : IntKind.i64.wrap ((j : Int) + 1) = (j : Int) + 1 := by rw [IntWalk.i64_in _ (by omega)]
      go_wp2_with fail
      refine (delete1Cw hlt9 HQL.out (cwC_one qs) _ (H.at 1 rfl)).mono ?_
      rintro _ w9 ⟨g9, c9, rfl, h2, h3, h4⟩
      replace H := H.grewAt 1 rfl h2 h3 h4
      clear h2 h3 h4 C
      simp only [List.nil_append, List.cons_append, List.append_assoc, List.set_cons_succ, List.set_cons_zero] at H
      rw [HFT.out] at H
      clear HFT
      skip
      try clear C
      try simp only [World.size_alloc, List.nil_append, List.cons_append, List.append_assoc] at H
      have C := H.cells
      try simp only [cellsOf, cellsM, apartOf, apartM, and_true] at C
      dsimp only
      go_wp2_with fail
      generalize hwb : World.setCell _ _ _ = w10
      replace H := HS.eqW hwb (H.setTo 0 rfl rfl)
      clear hwb C
      simp only [List.set_cons_succ, List.set_cons_zero] at H
      go_end0
      refine ⟨some ⟨g9, 0, none⟩, c9, qs.take j ++ qs.drop (j + 1), rfl, HZ3.out, fun q hq => .inl ?_, ?_⟩
      · rcases List.mem_append.1 hq with h | h
        · exact List.mem_of_mem_take h
        · exact List.mem_of_mem_drop h
      · rw [HLN.out]
        exact HS.less H (by repeat (first | exact .slnil | refine .cons_cons _ ?_ | refine .cons _ ?_))
    | false =>
      have HZ2 := Lib.hid (show putW (qs.map Prod.fst) ⟨wi, bs, po⟩ = (qs.set j (⟨wi, bs, po⟩, ⟨xa, xn, xc⟩)).map Prod.fst by rw [HZS.out, HBB.out, if_neg (by decide), List.map_set, List.set_eq_take_append_cons_drop, if_pos (by rw [List.length_map]; exact hlt9), List.append_assoc, List.singleton_append])
      have HZ3 := Lib.hid (HZ2.out.symm.trans HVS.out)
      clear HZS HZ2
      skip
      obtain ⟨g, cap, hv, -, -⟩ := World.ownsRow.form (H.at 1 rfl) (by omega)
      obtain ⟨rfl, -, rfl⟩ := Value.slice.inj hv
      clear hv
      have HFL := Lib.hid (show (qs.flatMap cwC).length = qs.length * 3 from flat_len cwC_len qs)
      have HST := Lib.hid (cw_put qs j (⟨wi, bs, po⟩, ⟨xa, xn, xc⟩) hlt9)
      have hk : ∀ m, m < 3 → ∃ u, w2.cell? ⟨g, j * 3 + m, none⟩ = some u ∧ w2.frozen? ⟨g, j * 3 + m, none⟩ = false := fun m hm => by
        have h1 := H.rowCells 1 rfl (j * 3 + m) (by omega)
        exact ⟨_, h1.1.trans (List.getElem?_eq_getElem (by rw [HFL.out]; omega)), h1.2⟩
      obtain ⟨u0, k0, k0f⟩ : ∃ u, w2.cell? ⟨g, j * 3, none⟩ = some u ∧ w2.frozen? ⟨g, j * 3, none⟩ = false := hk 0 (by omega)
      obtain ⟨u1, k1, k1f⟩ : ∃ u, w2.cell? ⟨g, j * 3 + 1, none⟩ = some u ∧ w2.frozen? ⟨g, j * 3 + 1, none⟩ = false := hk 1 (by omega)
      obtain ⟨u2, k2, k2f⟩ : ∃ u, w2.cell? ⟨g, j * 3 + 2, none⟩ = some u ∧ w2.frozen? ⟨g, j * 3 + 2, none⟩ = false := hk 2 (by omega)
      clear hk
      have hgl : g < w2.heap.size := Item.lt (H.at 1 rfl) (k := g) rfl
      have hji : (j : Int) < qs.length := by omega
      go_upto_region 5 with fail
      go_region
      all_goals
        generalize hwb : World.setCell _ _ _ = w9
        have H9 := HS.eqW hwb (((H.rowSet 1 rfl (j * 3) (.int .i64 wi)).rowSet 1 rfl (j * 3 + 1) (.slice xa xn xc)).rowSet 1 rfl (j * 3 + 2) (.bool po))
        clear hwb
        simp only [List.set_cons_succ, List.set_cons_zero] at H9
        rw [HST.out] at H9
        have H8 := H9.drew
        go_wp2_with fail
        go_end0
        refine ⟨some ⟨g, 0, none⟩, c, qs.set j (⟨wi, bs, po⟩, ⟨xa, xn, xc⟩), rfl, HZ3.out, fun q hq => ?_, ?_⟩
        · exact List.mem_or_eq_of_mem_set hq
        · rw [List.length_set]
          exact HS.less H8 (by repeat (first | exact .slnil | refine .cons_cons _ ?_ | refine .cons _ ?_))
  · rw [decide_eq_false hh]
    skip
    have hZS := zs_none (m := ⟨wi, bs, po⟩) hj HLO.out HHI.out hh HPW.out
    have HZS := Lib.hid hZS
    clear hZS hh
    go_wp2_with fail
    refine (HBK.out _ (H.says 3 rfl)).mono ?_
    rintro _ w3 ⟨rfl, hb⟩
    replace H := H.below hb
    clear hb
    try clear C
    try simp only [World.size_alloc, List.nil_append, List.cons_append, List.append_assoc] at H
    try clear w2
    have C := H.cells
    try simp only [cellsOf, cellsM, apartOf, apartM, and_true] at C
    dsimp only
    clear HBK
    skip
    cases bb with
    | true =>
      have HZ2 := Lib.hid (show putW (qs.map Prod.fst) ⟨wi, bs, po⟩ = qs.map Prod.fst by rw [HZS.out, HBB.out, if_pos rfl, List.append_nil, List.take_append_drop])
      have HZ3 := Lib.hid (HZ2.out.symm.trans HVS.out)
      clear HZS HZ2
      go_wp2_with fail
      go_end0
      exact ⟨s, c, qs, rfl, HZ3.out, fun q hq => .inl hq, HS.less H (by repeat (first | exact .slnil | refine .cons_cons _ ?_ | refine .cons _ ?_))⟩
    | false =>
      have HZ2 := Lib.hid (show putW (qs.map Prod.fst) ⟨wi, bs, po⟩ = (qs.take j ++ (⟨wi, bs, po⟩, ⟨xa, xn, xc⟩) :: qs.drop j).map Prod.fst by rw [HZS.out, HBB.out, if_neg (by decide), List.map_append, List.map_cons, List.map_take, List.map_drop, List.append_assoc, List.singleton_append])
      have HZ3 := Lib.hid (HZ2.out.symm.trans HVS.out)
      clear HZS HZ2
      skip
      have HFT := Lib.hid (show (qs.flatMap cwC).take (j * 3) ++ [.int .i64 wi, .slice xa xn xc, .bool po] ++ (qs.flatMap cwC).drop (j * 3) = (qs.take j ++ (⟨wi, bs, po⟩, ⟨xa, xn, xc⟩) :: qs.drop j).flatMap cwC by
        rw [flatTakeN cwC_len, flatDropN cwC_len, List.flatMap_append, List.flatMap_cons]; simp [cwC])
      have HLN := Lib.hid (show (qs.take j ++ ((⟨wi, bs, po⟩, ⟨xa, xn, xc⟩) : Wm × Sv) :: qs.drop j).length = qs.length + 1 by rw [List.length_append, List.length_take, List.length_cons, List.length_drop]; omega)
      have hjl : (j : Int) ≤ qs.length := by omega
      go_upto_region 7 with fail
      refine wp_region_zH (by kernel_rfl) (by kernel_rfl) (by kernel_rfl) (by kernel_rfl) (by kernel_rfl) (by dsimp only [List.dropLast]) rfl (fun w => (∀ o, w.cell? ⟨b, o, none⟩ = [Value.int .i64 s0, .int .i64 s1, .int .i64 s2, .int .i64 s3, .int .i64 s4, .int .i64 s5, .int .i64 kd, .int .i64 dt, .int .i64 ck, .int .i64 fx, .slice s qs.length c, .slice ya yn yc][o]?) ∧ (∀ q, w.cell? ⟨b3, q, none⟩ = [Value.int .i64 wi, .slice xa xn xc, .bool po][q]?)) (H) (fun w0 H _ => ⟨fun o => (Blk.cell (H.at 0 rfl) o).trans (by simp), fun q => (Blk.cell (H.at 4 rfl) q).trans (by simp)⟩) ?_
      clear H; intro w4 h0 H hz0
      try clear C
      try simp only [World.size_alloc, List.nil_append, List.cons_append, List.append_assoc] at H hz0
      clear hz0
      try clear w3
      have C := H.cells
      try simp only [cellsOf, cellsM, apartOf, apartM, and_true] at C
      repeat (first | (refine wpX_skip rfl ?_; go_simp) | (refine wpX_free rfl rfl rfl (fun K hK => ?_); go_step; refine hK _ _ ?_; clear hK K))
      (refine wpX_yield rfl rfl (.slice s qs.length c) (fun w hw => by obtain ⟨k0, k1⟩ := hw; go_simp) ?_; go_simp)
      repeat (first | (refine wpX_skip rfl ?_; go_simp) | (refine wpX_free rfl rfl rfl (fun K hK => ?_); go_step; refine hK _ _ ?_; clear hK K))
      (refine wpX_yield rfl rfl (.agg #[.int .i64 wi, .slice xa xn xc, .bool po]) (fun w hw => by obtain ⟨k0, k1⟩ := hw; go_simp) ?_; go_simp)
      repeat (first | (refine wpX_skip rfl ?_; go_simp) | (refine wpX_free rfl rfl rfl (fun K hK => ?_); go_step; refine hK _ _ ?_; clear hK K))
      refine wpX_eff rfl rfl (fun _ _ => ?_)
      go_step
      go_step
      generalize hwb : World.alloc _ _ = w5
      replace H := HS.eqW hwb H.alloc
      try simp only [World.size_alloc, List.nil_append, List.cons_append, List.append_assoc] at H
      clear hwb
      generalize w4.heap.size = bL at H ⊢
      try clear C
      try clear w4
      have C := H.cells
      try simp only [cellsOf, cellsM, apartOf, apartM, and_true] at C
      refine ⟨⟨fun o => (Blk.cell (H.at 0 rfl) o).trans (by simp), fun q => (Blk.cell (H.at 4 rfl) q).trans (by simp)⟩, ?_⟩
      repeat (first | (refine wpX_skip rfl ?_; go_simp) | (refine wpX_free rfl rfl rfl (fun K hK => ?_); go_step; refine hK _ _ ?_; clear hK K))
      refine wpX_eff rfl rfl (fun _ _ => ?_)
      go_step
      refine (insert_anyCw (cs := qs.flatMap cwC) (X := [.int .i64 wi, .slice xa xn xc, .bool po]) rfl (fun u hu => cwC_one [(⟨wi, bs, po⟩, ⟨xa, xn, xc⟩)] u (by simpa [cwC] using hu)) hj (by have := HQL.out; omega) (fun g e => ?hne) (cwC_one qs) _ (H.at 1 rfl) (H.at 5 rfl)).mono ?_
      case hne =>
        subst e
        exact fun e => H.apart (i := 1) (j := 5) rfl rfl (by decide) (k := g) rfl e.symm
      rintro _ w9 ⟨g9, c9, rfl, h2, h3, h4⟩
      replace H := H.grewAt 1 rfl h2 h3 h4
      clear h2 h3 h4 C
      simp only [List.nil_append, List.cons_append, List.append_assoc, List.set_cons_succ, List.set_cons_zero] at H
      have hft := HFT.out
      simp only [List.append_assoc, List.cons_append, List.nil_append] at hft H
      rw [hft] at H
      clear hft HFT
      skip
      try clear C
      try simp only [World.size_alloc, List.nil_append, List.cons_append, List.append_assoc] at H
      have C := H.cells
      try simp only [cellsOf, cellsM, apartOf, apartM, and_true] at C
      dsimp only
      go_step
      refine ⟨⟨fun o => (Blk.cell (H.at 0 rfl) o).trans (by simp), fun q => (Blk.cell (H.at 4 rfl) q).trans (by simp)⟩, ?_⟩
      repeat (first | (refine wpX_skip rfl ?_; go_simp) | (refine wpX_free rfl rfl rfl (fun K hK => ?_); go_step; refine hK _ _ ?_; clear hK K))
      (refine wpX_nil ?_; go_step)
      go_wp2_with fail
      generalize hwb : World.setCell _ _ _ = w10
      replace H := HS.eqW hwb (H.setTo 0 rfl rfl)
      clear hwb C
      simp only [List.set_cons_succ, List.set_cons_zero] at H
      go_end0
      refine ⟨some ⟨g9, 0, none⟩, c9, qs.take j ++ (⟨wi, bs, po⟩, ⟨xa, xn, xc⟩) :: qs.drop j, rfl, HZ3.out, fun q hq => ?_, ?_⟩
      · rcases List.mem_append.1 hq with h | h
        · exact .inl (List.mem_of_mem_take h)
        · rcases List.mem_cons.1 h with h | h
          · exact .inr h
          · exact .inl (List.mem_of_mem_drop h)
      · rw [HLN.out]
        exact HS.less H (by repeat (first | exact .slnil | refine .cons_cons _ ?_ | refine .cons _ ?_))
end Go.Proofs.YtplflpmkomeadaaDoor
