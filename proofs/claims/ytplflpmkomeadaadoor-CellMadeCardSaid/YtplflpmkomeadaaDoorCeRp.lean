/- Repair of both packages. -/
import Derived.Test.YtplflpmkomeadaaDoorCeTn
import Derived.Test.YtplflpmkomeadaaDoorCeM
import Derived.Test.YtplflpmkomeadaaDoorCeR
import Derived.Test.YtplflpmkomeadaaDoorCeG
import Derived.Test.YtplflpmkomeadaaDoorK2
namespace Go.Proofs.YtplflpmkomeadaaDoor
set_option linter.unusedSimpArgs false
set_option linter.unusedVariables false
open Go.RowKit
set_option maxRecDepth 100000
attribute [local irreducible] wpX wpF Calls

/-- What Repair answers. -/
def repF (M : Mm) (f : Fa) : Mm × Int := if goodB M = true then (if f ∈ M.fs then (setFs M (M.fs.filter (fun g => !decide (g = f))), 0) else (M, 15)) else (M, 1)
theorem filter_all {fs : List Fa} {f : Fa} (h : ¬ f ∈ fs) : fs.filter (fun g => !decide (g = f)) = fs := List.filter_eq_self.2 fun g hg => by
  have : g ≠ f := fun e => h (e ▸ hg)
  simpa using this
theorem filter_less {fs : List Fa} {f : Fa} (h : f ∈ fs) : (fs.filter (fun g => !decide (g = f))).length < fs.length := by
  rcases Nat.lt_or_ge (fs.filter (fun g => !decide (g = f))).length fs.length with h1 | h1
  · exact h1
  · have h2 := List.Sublist.eq_of_length_le List.filter_sublist h1
    rw [← h2] at h
    have := (List.mem_filter.1 h).2
    simp at this
theorem filter_erase {fs : List Fa} {f : Fa} {i : Nat} (hn : fs.Nodup) (hi : i < fs.length) (he : fs[i]! = f) : fs.filter (fun g => !decide (g = f)) = fs.take i ++ fs.drop (i + 1) := by
  rw [getElem!_pos fs i hi] at he
  have h1 : fs = fs.take i ++ f :: fs.drop (i + 1) := by rw [← he, List.getElem_cons_drop, List.take_append_drop]
  have hn2 : (fs.take i ++ f :: fs.drop (i + 1)).Nodup := h1 ▸ hn
  obtain ⟨-, n2, n3⟩ := List.nodup_append.1 hn2
  have n4 := List.nodup_cons.1 n2
  conv => lhs; rw [h1]
  rw [List.filter_append, List.filter_cons_of_neg (by simp), filter_all n4.1, filter_all (fun hm => n3 f hm f List.mem_cons_self rfl)]
set_option maxHeartbeats 16000000 in
theorem crepair_any (M : Mm) (x y : Sv) (hs : SmallM M) (f : Fa) (w : World) (hNm : Nm w) (h : MeAt w x y M) : Calls Tryd.prog 24 #[meV M x y, cfV f] w (GivesMeE (repF M f).1 (repF M f).2 w) := by
  have HV := Lib.hid (fun wx hn hx => cvalid13_any M x y hs.long wx hn hx)
  have HCPY := Lib.hid (fun wx hx => cecopy_any M x y hs wx hx)
  have HCPR := Lib.hid (fun wx hx => cecopyR_any M x y hs wx hx)
  have HME := Lib.hid h
  have HNm := Lib.hid hNm
  clear h hs hNm
  cases hg : goodB M with
  | false =>
    rw [hg] at HV
    have HE := Lib.hid (show repF M f = (M, 1) from by unfold repF; rw [hg]; rfl)
    rw [HE.out]
    clear HE
    clear hg HCPR
    obtain ⟨s0, s1, s2, s3, s4, s5, kd, dt, ck, fx, ws, fs⟩ := M
    obtain ⟨xa0, xn0, xc0⟩ := x
    obtain ⟨ya0, yn0, yc0⟩ := y
    obtain ⟨k, p0, p1, p2, p3, p4, p5, ch, ms, vl, hd⟩ := f
    replace HV := Lib.hid (fun wx hn hx => (show Calls Tryd.prog 21 #[.agg #[.int .i64 s0, .int .i64 s1, .int .i64 s2, .int .i64 s3, .int .i64 s4, .int .i64 s5, .int .i64 kd, .int .i64 dt, .int .i64 ck, .int .i64 fx, .slice xa0 xn0 xc0, .slice ya0 yn0 yc0]] wx _ from HV.out wx hn hx))
    replace HCPY := Lib.hid (fun wx hx => (show Calls Tryd.prog 41 #[.agg #[.int .i64 s0, .int .i64 s1, .int .i64 s2, .int .i64 s3, .int .i64 s4, .int .i64 s5, .int .i64 kd, .int .i64 dt, .int .i64 ck, .int .i64 fx, .slice xa0 xn0 xc0, .slice ya0 yn0 yc0]] wx _ from HCPY.out wx hx))
    show Calls Tryd.prog 24 #[.agg #[.int .i64 s0, .int .i64 s1, .int .i64 s2, .int .i64 s3, .int .i64 s4, .int .i64 s5, .int .i64 kd, .int .i64 dt, .int .i64 ck, .int .i64 fx, .slice xa0 xn0 xc0, .slice ya0 yn0 yc0], .agg #[.int .i64 k, .int .i64 p0, .int .i64 p1, .int .i64 p2, .int .i64 p3, .int .i64 p4, .int .i64 p5, .int .i64 ch, .int .u8 ms, .int .u8 vl, .bool hd]] w _
    go_enter Tryd.func24, Tryd.ntmps24
    have H := HS.start NoD w
    go_upto_region 1 with fail
    generalize hwb : ((w.alloc _).alloc _).alloc _ = w1
    replace H := HS.eqW hwb H.alloc.alloc.alloc
    try simp only [World.size_alloc, List.nil_append, List.cons_append, List.append_assoc] at H
    clear hwb
    generalize w.heap.size + 2 = b4 at H ⊢
    generalize w.heap.size + 1 = b3 at H ⊢
    generalize w.heap.size = b2 at H ⊢
    try clear C
    have C := H.cells
    try simp only [cellsOf, cellsM, apartOf, apartM, and_true] at C
    go_wp2_with fail
    refine (HCPY.out _ (HME.out.up H.done)).mono ?_
    rintro _ w71 ⟨⟨pa, pn, pc⟩, ⟨ra, rn, rc⟩, qs, Fm, hqm, rfl, K0⟩
    replace H := H.join K0 (one_low rfl)
    clear K0 HCPY
    try simp only [List.nil_append, List.cons_append] at H
    skip
    try clear C
    try simp only [World.size_alloc, List.nil_append, List.cons_append, List.append_assoc] at H
    have C := H.cells
    try simp only [cellsOf, cellsM, apartOf, apartM, and_true] at C
    try dsimp only at hqm
    try dsimp only [meV] at H ⊢
    try dsimp only [meV]
    go_upto_region 2 with fail
    generalize hwb : w71.alloc _ = w2
    replace H := HS.eqW hwb H.alloc
    try simp only [World.size_alloc, List.nil_append, List.cons_append, List.append_assoc] at H
    clear hwb
    generalize w71.heap.size = b6 at H ⊢
    try clear C
    try clear w71
    have C := H.cells
    try simp only [cellsOf, cellsM, apartOf, apartM, and_true] at C
    go_wp2_with fail
    refine (HV.out _ (HNm.out.below H.done) (HME.out.up H.done)).mono ?_
    rintro _ w3 ⟨rfl, hb⟩
    replace H := H.below hb
    clear hb
    try clear C
    try simp only [World.size_alloc, List.nil_append, List.cons_append, List.append_assoc] at H
    try clear w2
    have C := H.cells
    try simp only [cellsOf, cellsM, apartOf, apartM, and_true] at C
    dsimp only
    clear HV
    go_upto_region 30 with fail
    generalize hwb : (((((((((((w3.setCell _ _).setCell _ _).setCell _ _).setCell _ _).setCell _ _).setCell _ _).setCell _ _).setCell _ _).setCell _ _).setCell _ _).setCell _ _).setCell _ _ = w4
    replace H := HS.eqW hwb (H.putAll (i := 2) rfl (vs := [.int .i64 s0, .int .i64 s1, .int .i64 s2, .int .i64 s3, .int .i64 s4, .int .i64 s5, .int .i64 kd, .int .i64 dt, .int .i64 ck, .int .i64 fx, .slice pa pn pc, .slice ra rn rc]) rfl rfl)
    simp only [List.nil_append, List.cons_append, List.append_assoc, List.set_cons_succ, List.set_cons_zero] at H
    clear hwb
    try clear C
    try clear w3
    have C := H.cells
    try simp only [cellsOf, cellsM, apartOf, apartM, and_true] at C
    refine bodyPost_ret (by simp [results, Tryd.results24, go_sem, C]; try rfl) rfl ?_
    exact ⟨⟨pa, pn, pc⟩, ⟨ra, rn, rc⟩, qs, Fm, hqm, rfl, HS.less H (by repeat (first | exact .slnil | refine .cons_cons _ ?_ | refine .cons _ ?_))⟩
  | true =>
    rw [hg] at HV
    have HGM := Lib.hid (goodB_iff.1 hg)
    have HFL := Lib.hid HGM.out.fl
    have HND := Lib.hid HGM.out.nd
    have hn2 := HME.out.2.1
    have HL2 := Lib.hid HME.out.2.2.2
    by_cases hm : f ∈ M.fs
    · clear HCPY
      have HCPY := HCPR
      clear HCPR
      have HE := Lib.hid (show repF M f = (setFs M (M.fs.filter (fun g => !decide (g = f))), 0) from by unfold repF; rw [hg, if_pos rfl, if_pos hm])
      rw [HE.out]
      clear HE
      have HM9 := Lib.hid hm
      clear hm hg HGM
      obtain ⟨s0, s1, s2, s3, s4, s5, kd, dt, ck, fx, ws, fs⟩ := M
      obtain ⟨xa0, xn0, xc0⟩ := x
      obtain ⟨ya0, yn0, yc0⟩ := y
      dsimp only at hn2
      subst hn2
      obtain ⟨k, p0, p1, p2, p3, p4, p5, ch, ms, vl, hd⟩ := f
      replace HFL := Lib.hid (show fs.length ≤ 64 from HFL.out)
      replace HND := Lib.hid (show fs.Nodup from HND.out)
      replace HM9 := Lib.hid (show (⟨k, p0, p1, p2, p3, p4, p5, ch, ms, vl, hd⟩ : Fa) ∈ fs from HM9.out)
      have HIX := Lib.hid (fun wx hx => (show Calls Tryd.prog 59 #[.slice ya0 fs.length yc0, .agg #[.int .i64 k, .int .i64 p0, .int .i64 p1, .int .i64 p2, .int .i64 p3, .int .i64 p4, .int .i64 p5, .int .i64 ch, .int .u8 ms, .int .u8 vl, .bool hd]] wx (FindPostCf ⟨k, p0, p1, p2, p3, p4, p5, ch, ms, vl, hd⟩ fs wx) from indexCf ⟨k, p0, p1, p2, p3, p4, p5, ch, ms, vl, hd⟩ (sa := ya0) yc0 (fs := fs) (by have := HFL.out; omega) wx hx))
      replace HV := Lib.hid (fun wx hn hx => (show Calls Tryd.prog 21 #[.agg #[.int .i64 s0, .int .i64 s1, .int .i64 s2, .int .i64 s3, .int .i64 s4, .int .i64 s5, .int .i64 kd, .int .i64 dt, .int .i64 ck, .int .i64 fx, .slice xa0 xn0 xc0, .slice ya0 fs.length yc0]] wx _ from HV.out wx hn hx))
      replace HCPY := Lib.hid (fun wx hx => (show Calls Tryd.prog 41 #[.agg #[.int .i64 s0, .int .i64 s1, .int .i64 s2, .int .i64 s3, .int .i64 s4, .int .i64 s5, .int .i64 kd, .int .i64 dt, .int .i64 ck, .int .i64 fx, .slice xa0 xn0 xc0, .slice ya0 fs.length yc0]] wx _ from HCPY.out wx hx))
      show Calls Tryd.prog 24 #[.agg #[.int .i64 s0, .int .i64 s1, .int .i64 s2, .int .i64 s3, .int .i64 s4, .int .i64 s5, .int .i64 kd, .int .i64 dt, .int .i64 ck, .int .i64 fx, .slice xa0 xn0 xc0, .slice ya0 fs.length yc0], .agg #[.int .i64 k, .int .i64 p0, .int .i64 p1, .int .i64 p2, .int .i64 p3, .int .i64 p4, .int .i64 p5, .int .i64 ch, .int .u8 ms, .int .u8 vl, .bool hd]] w _
      go_enter Tryd.func24, Tryd.ntmps24
      have H := HS.start NoD w
      go_upto_region 1 with fail
      generalize hwb : ((w.alloc _).alloc _).alloc _ = w1
      replace H := HS.eqW hwb H.alloc.alloc.alloc
      try simp only [World.size_alloc, List.nil_append, List.cons_append, List.append_assoc] at H
      clear hwb
      generalize w.heap.size + 2 = b4 at H ⊢
      generalize w.heap.size + 1 = b3 at H ⊢
      generalize w.heap.size = b2 at H ⊢
      try clear C
      have C := H.cells
      try simp only [cellsOf, cellsM, apartOf, apartM, and_true] at C
      go_wp2_with fail
      refine (HCPY.out _ (HME.out.up H.done)).mono ?_
      rintro _ w71 ⟨sW, cW, sF, cF, qs, Fm, hqm, rfl, K0⟩
      replace H := H.join K0 (fun X hX => by
        rcases List.mem_cons.1 hX with rfl | hX
        · rfl
        · exact two_low rfl rfl X hX)
      clear K0 HCPY
      try simp only [List.nil_append, List.cons_append] at H
      skip
      try clear C
      try simp only [World.size_alloc, List.nil_append, List.cons_append, List.append_assoc] at H
      have C := H.cells
      try simp only [cellsOf, cellsM, apartOf, apartM, and_true] at C
      try dsimp only at hqm
      try dsimp only [meV] at H ⊢
      try dsimp only [meV]
      go_upto_region 2 with fail
      generalize hwb : w71.alloc _ = w2
      replace H := HS.eqW hwb H.alloc
      try simp only [World.size_alloc, List.nil_append, List.cons_append, List.append_assoc] at H
      clear hwb
      generalize w71.heap.size = b6 at H ⊢
      try clear C
      try clear w71
      have C := H.cells
      try simp only [cellsOf, cellsM, apartOf, apartM, and_true] at C
      go_wp2_with fail
      refine (HV.out _ (HNm.out.below H.done) (HME.out.up H.done)).mono ?_
      rintro _ w3 ⟨rfl, hb⟩
      replace H := H.below hb
      clear hb
      try clear C
      try simp only [World.size_alloc, List.nil_append, List.cons_append, List.append_assoc] at H
      try clear w2
      have C := H.cells
      try simp only [cellsOf, cellsM, apartOf, apartM, and_true] at C
      dsimp only
      clear HV
      go_wp2_with fail
      refine (HIX.out _ (H.liesUp HL2.out)).mono ?_
      rintro _ w72 ⟨r, rfl, hr, hb2⟩
      replace H := H.below hb2
      clear hb2 HIX
      skip
      try clear C
      try simp only [World.size_alloc, List.nil_append, List.cons_append, List.append_assoc] at H
      have C := H.cells
      try simp only [cellsOf, cellsM, apartOf, apartM, and_true] at C
      dsimp only
      obtain ⟨i, hi, rfl, hei, hlo⟩ : ∃ i : Nat, i < fs.length ∧ r = i ∧ fs[i]! = ⟨k, p0, p1, p2, p3, p4, p5, ch, ms, vl, hd⟩ ∧ ∀ j, j < i → fs[j]! ≠ ⟨k, p0, p1, p2, p3, p4, p5, ch, ms, vl, hd⟩ := by
        rcases hr with ⟨-, h9⟩ | h9
        · obtain ⟨i, hi, e⟩ := mem_fa HM9.out
          exact absurd e (h9 i hi)
        · exact h9
      have HFE := Lib.hid (filter_erase HND.out hi hei)
      have hf64 : fs.length ≤ 64 := HFL.out
      clear hr hei hlo
      obtain ⟨g, cap, hv, -, -⟩ := World.ownsRow.form (H.at 5 rfl) (by omega)
      obtain ⟨rfl, -, rfl⟩ := Value.slice.inj hv
      clear hv
      have HFT := Lib.hid (show (fs.flatMap cfC).take (i * 11) ++ (fs.flatMap cfC).drop ((i + 1) * 11) = (fs.filter (fun g => !decide (g = (⟨k, p0, p1, p2, p3, p4, p5, ch, ms, vl, hd⟩ : Fa)))).flatMap cfC by rw [HFE.out, flatTakeN cfC_len, flatDropN cfC_len, List.flatMap_append])
      have HLN := Lib.hid (show (fs.filter (fun g => !decide (g = (⟨k, p0, p1, p2, p3, p4, p5, ch, ms, vl, hd⟩ : Fa)))).length = fs.length - 1 by rw [HFE.out, List.length_append, List.length_take, List.length_drop]; omega)
      have hiw : IntKind.i64.wrap ((i : Int) + 1) = (i : Int) + 1 := by rw [IntWalk.i64_in _ (by omega)]
      have hi0 : ¬ (i : Int) < 0 := by omega
      clear HFE
      go_wp2_with fail
      refine (delete1Cf hi (by omega) (cfC_one fs) _ (H.at 5 rfl)).mono ?_
      rintro _ w9 ⟨g9, c9, rfl, h2, h3, h4⟩
      replace H := H.grewAt 5 rfl h2 h3 h4
      clear h2 h3 h4 C
      simp only [List.nil_append, List.cons_append, List.append_assoc, List.set_cons_succ, List.set_cons_zero] at H
      rw [HFT.out, ← HLN.out] at H
      skip
      try clear C
      try simp only [World.size_alloc, List.nil_append, List.cons_append, List.append_assoc] at H
      have C := H.cells
      try simp only [cellsOf, cellsM, apartOf, apartM, and_true] at C
      dsimp only
      rw [← HLN.out]
      clear HFT
      generalize hgs : fs.filter (fun g => !decide (g = (⟨k, p0, p1, p2, p3, p4, p5, ch, ms, vl, hd⟩ : Fa))) = gs at H C ⊢
      have HGS := Lib.hid hgs
      clear hgs
      go_upto_region 8 with fail
      generalize hwb : World.setCell _ _ _ = w10
      replace H := HS.eqW hwb (H.setTo (o := 11) (v := .slice (some ⟨g9, 0, none⟩) gs.length c9) 6 rfl rfl)
      clear hwb C
      simp only [List.set_cons_succ, List.set_cons_zero] at H
      skip
      try clear C
      try simp only [World.size_alloc, List.nil_append, List.cons_append, List.append_assoc] at H
      have C := H.cells
      try simp only [cellsOf, cellsM, apartOf, apartM, and_true] at C
      go_wp2_with fail
      generalize hwb : (((((((((((w10.setCell _ _).setCell _ _).setCell _ _).setCell _ _).setCell _ _).setCell _ _).setCell _ _).setCell _ _).setCell _ _).setCell _ _).setCell _ _).setCell _ _ = w4
      replace H := HS.eqW hwb (H.putAll (i := 2) rfl (vs := [.int .i64 s0, .int .i64 s1, .int .i64 s2, .int .i64 s3, .int .i64 s4, .int .i64 s5, .int .i64 kd, .int .i64 dt, .int .i64 ck, .int .i64 fx, .slice sW qs.length cW, .slice (some ⟨g9, 0, none⟩) gs.length c9]) rfl rfl)
      simp only [List.nil_append, List.cons_append, List.append_assoc, List.set_cons_succ, List.set_cons_zero] at H
      clear hwb
      try clear C
      try clear w10
      have C := H.cells
      try simp only [cellsOf, cellsM, apartOf, apartM, and_true] at C
      refine bodyPost_ret (by simp [results, Tryd.results24, go_sem, C]; try rfl) rfl ?_
      have hgs := HGS.out
      subst hgs
      have H9 := HS.less (L' := [rowCw sW qs.length cW qs, anyCw Fm qs, rowCf (some ⟨g9, 0, none⟩) (fs.filter (fun g => !decide (g = (⟨k, p0, p1, p2, p3, p4, p5, ch, ms, vl, hd⟩ : Fa)))).length c9 (fs.filter (fun g => !decide (g = (⟨k, p0, p1, p2, p3, p4, p5, ch, ms, vl, hd⟩ : Fa))))]) H (by repeat (first | exact .slnil | refine .cons_cons _ ?_ | refine .cons _ ?_))
      obtain ⟨G, H7⟩ := HS.memOf (L := []) H9 rfl rfl
      exact ⟨⟨sW, qs.length, cW⟩, ⟨some ⟨g9, 0, none⟩, (fs.filter (fun g => !decide (g = (⟨k, p0, p1, p2, p3, p4, p5, ch, ms, vl, hd⟩ : Fa)))).length, c9⟩, qs, G, hqm, rfl, H7⟩
    · clear HCPR
      have HE := Lib.hid (show repF M f = (M, 15) from by unfold repF; rw [hg, if_pos rfl, if_neg hm])
      rw [HE.out]
      clear HE
      have HM9 := Lib.hid hm
      clear hm hg HGM HND
      obtain ⟨s0, s1, s2, s3, s4, s5, kd, dt, ck, fx, ws, fs⟩ := M
      obtain ⟨xa0, xn0, xc0⟩ := x
      obtain ⟨ya0, yn0, yc0⟩ := y
      dsimp only at hn2
      subst hn2
      obtain ⟨k, p0, p1, p2, p3, p4, p5, ch, ms, vl, hd⟩ := f
      replace HFL := Lib.hid (show fs.length ≤ 64 from HFL.out)
      replace HM9 := Lib.hid (show ¬ (⟨k, p0, p1, p2, p3, p4, p5, ch, ms, vl, hd⟩ : Fa) ∈ fs from HM9.out)
      have HIX := Lib.hid (fun wx hx => (show Calls Tryd.prog 59 #[.slice ya0 fs.length yc0, .agg #[.int .i64 k, .int .i64 p0, .int .i64 p1, .int .i64 p2, .int .i64 p3, .int .i64 p4, .int .i64 p5, .int .i64 ch, .int .u8 ms, .int .u8 vl, .bool hd]] wx (FindPostCf ⟨k, p0, p1, p2, p3, p4, p5, ch, ms, vl, hd⟩ fs wx) from indexCf ⟨k, p0, p1, p2, p3, p4, p5, ch, ms, vl, hd⟩ (sa := ya0) yc0 (fs := fs) (by have := HFL.out; omega) wx hx))
      replace HV := Lib.hid (fun wx hn hx => (show Calls Tryd.prog 21 #[.agg #[.int .i64 s0, .int .i64 s1, .int .i64 s2, .int .i64 s3, .int .i64 s4, .int .i64 s5, .int .i64 kd, .int .i64 dt, .int .i64 ck, .int .i64 fx, .slice xa0 xn0 xc0, .slice ya0 fs.length yc0]] wx _ from HV.out wx hn hx))
      replace HCPY := Lib.hid (fun wx hx => (show Calls Tryd.prog 41 #[.agg #[.int .i64 s0, .int .i64 s1, .int .i64 s2, .int .i64 s3, .int .i64 s4, .int .i64 s5, .int .i64 kd, .int .i64 dt, .int .i64 ck, .int .i64 fx, .slice xa0 xn0 xc0, .slice ya0 fs.length yc0]] wx _ from HCPY.out wx hx))
      show Calls Tryd.prog 24 #[.agg #[.int .i64 s0, .int .i64 s1, .int .i64 s2, .int .i64 s3, .int .i64 s4, .int .i64 s5, .int .i64 kd, .int .i64 dt, .int .i64 ck, .int .i64 fx, .slice xa0 xn0 xc0, .slice ya0 fs.length yc0], .agg #[.int .i64 k, .int .i64 p0, .int .i64 p1, .int .i64 p2, .int .i64 p3, .int .i64 p4, .int .i64 p5, .int .i64 ch, .int .u8 ms, .int .u8 vl, .bool hd]] w _
      go_enter Tryd.func24, Tryd.ntmps24
      have H := HS.start NoD w
      go_upto_region 1 with fail
      generalize hwb : ((w.alloc _).alloc _).alloc _ = w1
      replace H := HS.eqW hwb H.alloc.alloc.alloc
      try simp only [World.size_alloc, List.nil_append, List.cons_append, List.append_assoc] at H
      clear hwb
      generalize w.heap.size + 2 = b4 at H ⊢
      generalize w.heap.size + 1 = b3 at H ⊢
      generalize w.heap.size = b2 at H ⊢
      try clear C
      have C := H.cells
      try simp only [cellsOf, cellsM, apartOf, apartM, and_true] at C
      go_wp2_with fail
      refine (HCPY.out _ (HME.out.up H.done)).mono ?_
      rintro _ w71 ⟨⟨pa, pn, pc⟩, ⟨ra, rn, rc⟩, qs, Fm, hqm, rfl, K0⟩
      replace H := H.join K0 (one_low rfl)
      clear K0 HCPY
      try simp only [List.nil_append, List.cons_append] at H
      skip
      try clear C
      try simp only [World.size_alloc, List.nil_append, List.cons_append, List.append_assoc] at H
      have C := H.cells
      try simp only [cellsOf, cellsM, apartOf, apartM, and_true] at C
      try dsimp only at hqm
      try dsimp only [meV] at H ⊢
      try dsimp only [meV]
      go_upto_region 2 with fail
      generalize hwb : w71.alloc _ = w2
      replace H := HS.eqW hwb H.alloc
      try simp only [World.size_alloc, List.nil_append, List.cons_append, List.append_assoc] at H
      clear hwb
      generalize w71.heap.size = b6 at H ⊢
      try clear C
      try clear w71
      have C := H.cells
      try simp only [cellsOf, cellsM, apartOf, apartM, and_true] at C
      go_wp2_with fail
      refine (HV.out _ (HNm.out.below H.done) (HME.out.up H.done)).mono ?_
      rintro _ w3 ⟨rfl, hb⟩
      replace H := H.below hb
      clear hb
      try clear C
      try simp only [World.size_alloc, List.nil_append, List.cons_append, List.append_assoc] at H
      try clear w2
      have C := H.cells
      try simp only [cellsOf, cellsM, apartOf, apartM, and_true] at C
      dsimp only
      clear HV
      go_wp2_with fail
      refine (HIX.out _ (H.liesUp HL2.out)).mono ?_
      rintro _ w72 ⟨r, rfl, hr, hb2⟩
      replace H := H.below hb2
      clear hb2 HIX
      skip
      try clear C
      try simp only [World.size_alloc, List.nil_append, List.cons_append, List.append_assoc] at H
      have C := H.cells
      try simp only [cellsOf, cellsM, apartOf, apartM, and_true] at C
      dsimp only
      obtain rfl : r = -1 := by
        rcases hr with ⟨h9, -⟩ | ⟨i, hi, -, e, -⟩
        · exact h9
        · exact absurd (e ▸ fa_mem hi) HM9.out
      clear hr
      go_upto_region 30 with fail
      generalize hwb : (((((((((((w72.setCell _ _).setCell _ _).setCell _ _).setCell _ _).setCell _ _).setCell _ _).setCell _ _).setCell _ _).setCell _ _).setCell _ _).setCell _ _).setCell _ _ = w4
      replace H := HS.eqW hwb (H.putAll (i := 2) rfl (vs := [.int .i64 s0, .int .i64 s1, .int .i64 s2, .int .i64 s3, .int .i64 s4, .int .i64 s5, .int .i64 kd, .int .i64 dt, .int .i64 ck, .int .i64 fx, .slice pa pn pc, .slice ra rn rc]) rfl rfl)
      simp only [List.nil_append, List.cons_append, List.append_assoc, List.set_cons_succ, List.set_cons_zero] at H
      clear hwb
      try clear C
      try clear w72
      have C := H.cells
      try simp only [cellsOf, cellsM, apartOf, apartM, and_true] at C
      refine bodyPost_ret (by simp [results, Tryd.results24, go_sem, C]; try rfl) rfl ?_
      exact ⟨⟨pa, pn, pc⟩, ⟨ra, rn, rc⟩, qs, Fm, hqm, rfl, HS.less H (by repeat (first | exact .slnil | refine .cons_cons _ ?_ | refine .cons _ ?_))⟩
set_option maxHeartbeats 16000000 in
theorem r13repair_any (M : Mm) (x y : Sv) (hs : SmallM M) (f : Fa) (w : World) (h : MeAt w x y M) : Calls Tryd.prog 67 #[meV M x y, cfV f] w (GivesMeE (repF M f).1 (repF M f).2 w) := by
  have HV := Lib.hid (fun wx hx => rv13_any M x y hs.long wx hx)
  have HCPY := Lib.hid (fun wx hx => r13copy_any M x y hs wx hx)
  have HCPR := Lib.hid (fun wx hx => r13copyR_any M x y hs wx hx)
  have HME := Lib.hid h
  clear h hs
  cases hg : goodB M with
  | false =>
    rw [hg] at HV
    have HE := Lib.hid (show repF M f = (M, 1) from by unfold repF; rw [hg]; rfl)
    rw [HE.out]
    clear HE
    clear hg
    obtain ⟨s0, s1, s2, s3, s4, s5, kd, dt, ck, fx, ws, fs⟩ := M
    obtain ⟨xa0, xn0, xc0⟩ := x
    obtain ⟨ya0, yn0, yc0⟩ := y
    obtain ⟨k, p0, p1, p2, p3, p4, p5, ch, ms, vl, hd⟩ := f
    replace HV := Lib.hid (fun wx hx => (show Calls Tryd.prog 64 #[.agg #[.int .i64 s0, .int .i64 s1, .int .i64 s2, .int .i64 s3, .int .i64 s4, .int .i64 s5, .int .i64 kd, .int .i64 dt, .int .i64 ck, .int .i64 fx, .slice xa0 xn0 xc0, .slice ya0 yn0 yc0]] wx _ from HV.out wx hx))
    replace HCPY := Lib.hid (fun wx hx => (show Calls Tryd.prog 70 #[.agg #[.int .i64 s0, .int .i64 s1, .int .i64 s2, .int .i64 s3, .int .i64 s4, .int .i64 s5, .int .i64 kd, .int .i64 dt, .int .i64 ck, .int .i64 fx, .slice xa0 xn0 xc0, .slice ya0 yn0 yc0]] wx _ from HCPY.out wx hx))
    show Calls Tryd.prog 67 #[.agg #[.int .i64 s0, .int .i64 s1, .int .i64 s2, .int .i64 s3, .int .i64 s4, .int .i64 s5, .int .i64 kd, .int .i64 dt, .int .i64 ck, .int .i64 fx, .slice xa0 xn0 xc0, .slice ya0 yn0 yc0], .agg #[.int .i64 k, .int .i64 p0, .int .i64 p1, .int .i64 p2, .int .i64 p3, .int .i64 p4, .int .i64 p5, .int .i64 ch, .int .u8 ms, .int .u8 vl, .bool hd]] w _
    go_enter Tryd.func67, Tryd.ntmps67
    have H := HS.start NoD w
    go_upto_region 1 with fail
    generalize hwb : ((w.alloc _).alloc _).alloc _ = w1
    replace H := HS.eqW hwb H.alloc.alloc.alloc
    try simp only [World.size_alloc, List.nil_append, List.cons_append, List.append_assoc] at H
    clear hwb
    generalize w.heap.size + 2 = b4 at H ⊢
    generalize w.heap.size + 1 = b3 at H ⊢
    generalize w.heap.size = b2 at H ⊢
    try clear C
    have C := H.cells
    try simp only [cellsOf, cellsM, apartOf, apartM, and_true] at C
    go_wp2_with fail
    refine (HV.out _ (HME.out.up H.done)).mono ?_
    rintro _ w2 ⟨rfl, hb⟩
    replace H := H.below hb
    clear hb
    try clear C
    try simp only [World.size_alloc, List.nil_append, List.cons_append, List.append_assoc] at H
    try clear w1
    have C := H.cells
    try simp only [cellsOf, cellsM, apartOf, apartM, and_true] at C
    dsimp only
    clear HV
    go_wp2_with fail
    refine (HCPY.out _ (HME.out.up H.done)).mono ?_
    rintro _ w74 ⟨⟨pa, pn, pc⟩, ⟨ra, rn, rc⟩, qs0, Fm0, hqm0, rfl, K0⟩
    replace H := H.join K0 (one_low rfl)
    clear K0
    try simp only [List.nil_append, List.cons_append] at H
    skip
    try clear C
    try simp only [World.size_alloc, List.nil_append, List.cons_append, List.append_assoc] at H
    have C := H.cells
    try simp only [cellsOf, cellsM, apartOf, apartM, and_true] at C
    try dsimp only at hqm0
    try dsimp only [meV] at H ⊢
    try dsimp only [meV]
    go_upto_region 30 with fail
    generalize hwb : (((((((((((w74.setCell _ _).setCell _ _).setCell _ _).setCell _ _).setCell _ _).setCell _ _).setCell _ _).setCell _ _).setCell _ _).setCell _ _).setCell _ _).setCell _ _ = w3
    replace H := HS.eqW hwb (H.putAll (i := 2) rfl (vs := [.int .i64 s0, .int .i64 s1, .int .i64 s2, .int .i64 s3, .int .i64 s4, .int .i64 s5, .int .i64 kd, .int .i64 dt, .int .i64 ck, .int .i64 fx, .slice pa pn pc, .slice ra rn rc]) rfl rfl)
    simp only [List.nil_append, List.cons_append, List.append_assoc, List.set_cons_succ, List.set_cons_zero] at H
    clear hwb
    try clear C
    try clear w74
    have C := H.cells
    try simp only [cellsOf, cellsM, apartOf, apartM, and_true] at C
    refine bodyPost_ret (by simp [results, Tryd.results67, go_sem, C]; try rfl) rfl ?_
    exact ⟨⟨pa, pn, pc⟩, ⟨ra, rn, rc⟩, qs0, Fm0, hqm0, rfl, HS.less H (by repeat (first | exact .slnil | refine .cons_cons _ ?_ | refine .cons _ ?_))⟩
  | true =>
    rw [hg] at HV
    have HGM := Lib.hid (goodB_iff.1 hg)
    have HFL := Lib.hid HGM.out.fl
    have HND := Lib.hid HGM.out.nd
    have hn2 := HME.out.2.1
    have HL2 := Lib.hid HME.out.2.2.2
    obtain ⟨o9, ho9⟩ : ∃ o, o = repF M f := ⟨_, rfl⟩
    rw [← ho9]
    have HI15 := Lib.hid (show ¬ f ∈ M.fs → o9 = (M, 15) from fun hm => by rw [ho9]; unfold repF; rw [hg, if_pos rfl, if_neg hm])
    have HI0 := Lib.hid (show f ∈ M.fs → o9 = (setFs M (M.fs.filter (fun g => !decide (g = f))), 0) from fun hm => by rw [ho9]; unfold repF; rw [hg, if_pos rfl, if_pos hm])
    clear hg HGM ho9 HND
    obtain ⟨s0, s1, s2, s3, s4, s5, kd, dt, ck, fx, ws, fs⟩ := M
    obtain ⟨xa0, xn0, xc0⟩ := x
    obtain ⟨ya0, yn0, yc0⟩ := y
    dsimp only at hn2
    subst hn2
    obtain ⟨k, p0, p1, p2, p3, p4, p5, ch, ms, vl, hd⟩ := f
    replace HFL := Lib.hid (show fs.length ≤ 64 from HFL.out)
    replace HV := Lib.hid (fun wx hx => (show Calls Tryd.prog 64 #[.agg #[.int .i64 s0, .int .i64 s1, .int .i64 s2, .int .i64 s3, .int .i64 s4, .int .i64 s5, .int .i64 kd, .int .i64 dt, .int .i64 ck, .int .i64 fx, .slice xa0 xn0 xc0, .slice ya0 fs.length yc0]] wx _ from HV.out wx hx))
    replace HCPY := Lib.hid (fun wx hx => (show Calls Tryd.prog 70 #[.agg #[.int .i64 s0, .int .i64 s1, .int .i64 s2, .int .i64 s3, .int .i64 s4, .int .i64 s5, .int .i64 kd, .int .i64 dt, .int .i64 ck, .int .i64 fx, .slice xa0 xn0 xc0, .slice ya0 fs.length yc0]] wx _ from HCPY.out wx hx))
    replace HCPR := Lib.hid (fun wx hx => (show Calls Tryd.prog 70 #[.agg #[.int .i64 s0, .int .i64 s1, .int .i64 s2, .int .i64 s3, .int .i64 s4, .int .i64 s5, .int .i64 kd, .int .i64 dt, .int .i64 ck, .int .i64 fx, .slice xa0 xn0 xc0, .slice ya0 fs.length yc0]] wx _ from HCPR.out wx hx))
    show Calls Tryd.prog 67 #[.agg #[.int .i64 s0, .int .i64 s1, .int .i64 s2, .int .i64 s3, .int .i64 s4, .int .i64 s5, .int .i64 kd, .int .i64 dt, .int .i64 ck, .int .i64 fx, .slice xa0 xn0 xc0, .slice ya0 fs.length yc0], .agg #[.int .i64 k, .int .i64 p0, .int .i64 p1, .int .i64 p2, .int .i64 p3, .int .i64 p4, .int .i64 p5, .int .i64 ch, .int .u8 ms, .int .u8 vl, .bool hd]] w _
    go_enter Tryd.func67, Tryd.ntmps67
    have H := HS.start NoD w
    go_upto_region 1 with fail
    generalize hwb : ((w.alloc _).alloc _).alloc _ = w1
    replace H := HS.eqW hwb H.alloc.alloc.alloc
    try simp only [World.size_alloc, List.nil_append, List.cons_append, List.append_assoc] at H
    clear hwb
    generalize w.heap.size + 2 = b4 at H ⊢
    generalize w.heap.size + 1 = b3 at H ⊢
    generalize w.heap.size = b2 at H ⊢
    try clear C
    have C := H.cells
    try simp only [cellsOf, cellsM, apartOf, apartM, and_true] at C
    go_wp2_with fail
    refine (HV.out _ (HME.out.up H.done)).mono ?_
    rintro _ w2 ⟨rfl, hb⟩
    replace H := H.below hb
    clear hb
    try clear C
    try simp only [World.size_alloc, List.nil_append, List.cons_append, List.append_assoc] at H
    try clear w1
    have C := H.cells
    try simp only [cellsOf, cellsM, apartOf, apartM, and_true] at C
    dsimp only
    clear HV
    go_wp2_with fail
    refine (HCPR.out _ (HME.out.up H.done)).mono ?_
    rintro _ w71 ⟨sW, cW, sF, cF, qs, Fm, hqm, rfl, K0⟩
    replace H := H.join K0 (fun X hX => by
      rcases List.mem_cons.1 hX with rfl | hX
      · rfl
      · exact two_low rfl rfl X hX)
    clear K0 HCPR
    try simp only [List.nil_append, List.cons_append] at H
    skip
    try clear C
    try simp only [World.size_alloc, List.nil_append, List.cons_append, List.append_assoc] at H
    have C := H.cells
    try simp only [cellsOf, cellsM, apartOf, apartM, and_true] at C
    try dsimp only at hqm
    try dsimp only [meV] at H ⊢
    try dsimp only [meV]
    have HQM := Lib.hid hqm
    clear hqm
    go_upto_region 4 with fail
    generalize hwb : w71.alloc _ = w3
    replace H := HS.eqW hwb H.alloc
    try simp only [World.size_alloc, List.nil_append, List.cons_append, List.append_assoc] at H
    clear hwb
    generalize w71.heap.size = b6 at H ⊢
    try clear C
    try clear w71
    have C := H.cells
    try simp only [cellsOf, cellsM, apartOf, apartM, and_true] at C
    go_upto_region 5 with fail
    generalize hwb : World.setCell _ _ _ = w72
    replace H := HS.eqW hwb (H.setTo (o := 11) (v := .slice none 0 0) 6 rfl rfl)
    clear hwb C
    simp only [List.set_cons_succ, List.set_cons_zero] at H
    have H9 := HS.less (L' := [_, _, _, _, _, _]) H (by exact .cons_cons _ (.cons_cons _ (.cons_cons _ (.cons_cons _ (.cons_cons _ (.cons _ (.cons_cons _ .slnil)))))))
    have hn0 := H9.nilRow 38 11
    clear H H9
    have H := hn0
    clear hn0
    try simp only [List.nil_append, List.cons_append] at H
    skip
    try clear C
    try simp only [World.size_alloc, List.nil_append, List.cons_append, List.append_assoc] at H
    have C := H.cells
    try simp only [cellsOf, cellsM, apartOf, apartM, and_true] at C
    have hf64 : fs.length ≤ 64 := HFL.out
    go_wp2_with fail
    go_loopw [7] (fun iv wr => ∃ (j : Nat) (gs : List Fa) (sG : Option Addr) (dG : Nat), iv = .int .i64 j ∧ j ≤ fs.length ∧ Hid (gs = (fs.take j).filter (fun g => !decide (g = (⟨k, p0, p1, p2, p3, p4, p5, ch, ms, vl, hd⟩ : Fa)))) ∧ gs.length ≤ j ∧ HS NoD w [.blk b2 #[.int .i64 s0, .int .i64 s1, .int .i64 s2, .int .i64 s3, .int .i64 s4, .int .i64 s5, .int .i64 kd, .int .i64 dt, .int .i64 ck, .int .i64 fx, .slice xa0 xn0 xc0, .slice ya0 fs.length yc0] 34, .blk b3 #[.int .i64 k, .int .i64 p0, .int .i64 p1, .int .i64 p2, .int .i64 p3, .int .i64 p4, .int .i64 p5, .int .i64 ch, .int .u8 ms, .int .u8 vl, .bool hd] 38, .blk b4 #[.int .i64 0, .int .i64 0, .int .i64 0, .int .i64 0, .int .i64 0, .int .i64 0, .int .i64 0, .int .i64 0, .int .i64 0, .int .i64 0, .slice none 0 0, .slice none 0 0] 34, rowCw sW qs.length cW qs, anyCw Fm qs, .blk b6 #[.int .i64 s0, .int .i64 s1, .int .i64 s2, .int .i64 s3, .int .i64 s4, .int .i64 s5, .int .i64 kd, .int .i64 dt, .int .i64 ck, .int .i64 fx, .slice sW qs.length cW, .slice sG gs.length dG] 34, rowCf sG gs.length dG gs] wr) (fun iv _ => fs.length - (intOf iv).toNat)
    case atStart => exact ⟨0, [], none, 0, rfl, Nat.zero_le _, (show Hid _ from by rw [List.take_zero]; rfl), Nat.le_refl _, H⟩
    case round =>
      clear H C
      obtain ⟨j, gs, sG, dG, rfl, hj, HGS, hgl, H⟩ := hrel
      skip
      try clear C
      try simp only [World.size_alloc, List.nil_append, List.cons_append, List.append_assoc] at H
      have C := H.cells
      try simp only [cellsOf, cellsM, apartOf, apartM, and_true] at C
      by_cases hlt : j < fs.length
      · have HJ := Lib.hid hlt
        have hji : (j : Int) < fs.length := by omega
        have HGL := Lib.hid hgl
        obtain ⟨b, o, rfl, hb, -⟩ := (H.liesUp HL2.out).at hlt
        have HLF := Lib.hid (fun (wx : World) (hx : Lies wx wx.heap.size (some ⟨b, o, none⟩) 11 fs.length (fun j => cfC fs[j]!)) => show (∀ i v, (cfC fs[j]!)[i]? = some v → wx.cell? ⟨b, o + j * 11 + i, none⟩ = some v) ∧ b < wx.heap.size from by
          obtain ⟨b9, o9, e9, hb9, h9⟩ := hx.at hlt
          cases e9
          exact ⟨h9, hb9⟩)
        have HTK := Lib.hid (show fs.take (j + 1) = fs.take j ++ [fs[j]!] by rw [List.take_succ_eq_append_getElem hlt, getElem!_pos fs j hlt])
        obtain ⟨g, hg⟩ : ∃ g, g = fs[j]! := ⟨_, rfl⟩
        rw [← hg] at HLF HTK
        clear hg hb
        have heq := fun w => neqF g ⟨k, p0, p1, p2, p3, p4, p5, ch, ms, vl, hd⟩ w
        skip
        by_cases hfg : g = (⟨k, p0, p1, p2, p3, p4, p5, ch, ms, vl, hd⟩ : Fa)
        · rw [decide_eq_true hfg] at heq
          have HG2 := Lib.hid (show gs = (fs.take (j + 1)).filter (fun g => !decide (g = (⟨k, p0, p1, p2, p3, p4, p5, ch, ms, vl, hd⟩ : Fa))) by rw [HTK.out, List.filter_append, ← HGS.out, List.filter_cons_of_neg (by rw [hfg]; simp)]; simp)
          clear hfg HGS HTK
          obtain ⟨k', p0', p1', p2', p3', p4', p5', ch', ms', vl', hd'⟩ := g
          simp only [cfC, Bool.not_true] at heq
          go_upto_region 8 with fail
          refine wp_region_xH (by kernel_rfl) (by kernel_rfl) (by kernel_rfl) (by kernel_rfl) (fun _ => False) (H) ?_
          clear H; intro w4 H hz0 hs0
          try clear C
          try simp only [World.size_alloc, List.nil_append, List.cons_append, List.append_assoc] at H hz0
          clear hz0
          try clear wr
          have C := H.cells
          try simp only [cellsOf, cellsM, apartOf, apartM, and_true] at C
          have Z := H.zs
          try simp only [ltsOf, ltsM, and_true] at Z
          have hz0 := Nat.le_refl w4.heap.size
          obtain ⟨hcq, hbq⟩ := HLF.out _ (H.liesUp HL2.out)
          have c0 : w4.cell? ⟨b, o + j * 11, none⟩ = some (.int .i64 k') := hcq 0 _ rfl
          have c1 : w4.cell? ⟨b, o + j * 11 + 1, none⟩ = some (.int .i64 p0') := hcq 1 _ rfl
          have c2 : w4.cell? ⟨b, o + j * 11 + 2, none⟩ = some (.int .i64 p1') := hcq 2 _ rfl
          have c3 : w4.cell? ⟨b, o + j * 11 + 3, none⟩ = some (.int .i64 p2') := hcq 3 _ rfl
          have c4 : w4.cell? ⟨b, o + j * 11 + 4, none⟩ = some (.int .i64 p3') := hcq 4 _ rfl
          have c5 : w4.cell? ⟨b, o + j * 11 + 5, none⟩ = some (.int .i64 p4') := hcq 5 _ rfl
          have c6 : w4.cell? ⟨b, o + j * 11 + 6, none⟩ = some (.int .i64 p5') := hcq 6 _ rfl
          have c7 : w4.cell? ⟨b, o + j * 11 + 7, none⟩ = some (.int .i64 ch') := hcq 7 _ rfl
          have c8 : w4.cell? ⟨b, o + j * 11 + 8, none⟩ = some (.int .u8 ms') := hcq 8 _ rfl
          have c9 : w4.cell? ⟨b, o + j * 11 + 9, none⟩ = some (.int .u8 vl') := hcq 9 _ rfl
          have c10 : w4.cell? ⟨b, o + j * 11 + 10, none⟩ = some (.bool hd') := hcq 10 _ rfl
          clear hcq
          repeat (first | (refine wpX_skip rfl ?_; go_simp) | (refine wpX_free rfl rfl rfl (fun K hK => ?_); go_step; refine hK _ _ ?_; clear hK K) | (refine wpX_load rfl rfl rfl (by simp [Stay, OneD, NoD, *]) hs0 (by simp [*]) (fun K hK => ?_); go_step; refine hK _ _ ?_; clear hK K))
          (refine wpX_yield rfl rfl ((.bool false)) (fun w hw => by go_simp) ?_; go_simp)
          repeat (first | (refine wpX_skip rfl ?_; go_simp) | (refine wpX_free rfl rfl rfl (fun K hK => ?_); go_step; refine hK _ _ ?_; clear hK K) | (refine wpX_load rfl rfl rfl (by simp [Stay, OneD, NoD, *]) hs0 (by simp [*]) (fun K hK => ?_); go_step; refine hK _ _ ?_; clear hK K))
          (refine wpX_nil ?_; go_step)
          go_wp2_with fail
          go_roundw
          case rel => exact ⟨j + 1, gs, sG, dG, by go_num, HJ.out, HG2, Nat.le_succ_of_le HGL.out, H⟩
          case measure => simp [intOf]; have := HJ.out; omega
        · rw [decide_eq_false hfg] at heq
          have HG2 := Lib.hid (show gs ++ [g] = (fs.take (j + 1)).filter (fun g => !decide (g = (⟨k, p0, p1, p2, p3, p4, p5, ch, ms, vl, hd⟩ : Fa))) by rw [HTK.out, List.filter_append, ← HGS.out, List.filter_cons_of_pos (by simpa using hfg)]; simp)
          clear hfg HGS HTK
          obtain ⟨k', p0', p1', p2', p3', p4', p5', ch', ms', vl', hd'⟩ := g
          simp only [cfC, Bool.not_false] at heq
          skip
          go_upto_region 8 with fail
          refine wp_region_xH (by kernel_rfl) (by kernel_rfl) (by kernel_rfl) (by kernel_rfl) (fun _ => False) (H) ?_
          clear H; intro w5 H hz0 hs0
          try clear C
          try simp only [World.size_alloc, List.nil_append, List.cons_append, List.append_assoc] at H hz0
          clear hz0
          try clear wr
          have C := H.cells
          try simp only [cellsOf, cellsM, apartOf, apartM, and_true] at C
          have Z := H.zs
          try simp only [ltsOf, ltsM, and_true] at Z
          have hz0 := Nat.le_refl w5.heap.size
          obtain ⟨hcq, hbq⟩ := HLF.out _ (H.liesUp HL2.out)
          have c0 : w5.cell? ⟨b, o + j * 11, none⟩ = some (.int .i64 k') := hcq 0 _ rfl
          have c1 : w5.cell? ⟨b, o + j * 11 + 1, none⟩ = some (.int .i64 p0') := hcq 1 _ rfl
          have c2 : w5.cell? ⟨b, o + j * 11 + 2, none⟩ = some (.int .i64 p1') := hcq 2 _ rfl
          have c3 : w5.cell? ⟨b, o + j * 11 + 3, none⟩ = some (.int .i64 p2') := hcq 3 _ rfl
          have c4 : w5.cell? ⟨b, o + j * 11 + 4, none⟩ = some (.int .i64 p3') := hcq 4 _ rfl
          have c5 : w5.cell? ⟨b, o + j * 11 + 5, none⟩ = some (.int .i64 p4') := hcq 5 _ rfl
          have c6 : w5.cell? ⟨b, o + j * 11 + 6, none⟩ = some (.int .i64 p5') := hcq 6 _ rfl
          have c7 : w5.cell? ⟨b, o + j * 11 + 7, none⟩ = some (.int .i64 ch') := hcq 7 _ rfl
          have c8 : w5.cell? ⟨b, o + j * 11 + 8, none⟩ = some (.int .u8 ms') := hcq 8 _ rfl
          have c9 : w5.cell? ⟨b, o + j * 11 + 9, none⟩ = some (.int .u8 vl') := hcq 9 _ rfl
          have c10 : w5.cell? ⟨b, o + j * 11 + 10, none⟩ = some (.bool hd') := hcq 10 _ rfl
          clear hcq
          repeat (first | (refine wpX_skip rfl ?_; go_simp) | (refine wpX_free rfl rfl rfl (fun K hK => ?_); go_step; refine hK _ _ ?_; clear hK K) | (refine wpX_load rfl rfl rfl (by simp [Stay, OneD, NoD, *]) hs0 (by simp [*]) (fun K hK => ?_); go_step; refine hK _ _ ?_; clear hK K))
          (refine wpX_yield rfl rfl ((.bool true)) (fun w hw => by go_simp) ?_; go_simp)
          repeat (first | (refine wpX_skip rfl ?_; go_simp) | (refine wpX_free rfl rfl rfl (fun K hK => ?_); go_step; refine hK _ _ ?_; clear hK K) | (refine wpX_load rfl rfl rfl (by simp [Stay, OneD, NoD, *]) hs0 (by simp [*]) (fun K hK => ?_); go_step; refine hK _ _ ?_; clear hK K))
          (refine wpX_nil ?_; go_step)
          go_upto_region 9 with fail
          clear heq
          have hg64 : gs.length ≤ 64 := by omega
          refine wp_region_zH (by kernel_rfl) (by kernel_rfl) (by kernel_rfl) (by kernel_rfl) (by kernel_rfl) (by dsimp only [List.dropLast]) rfl (fun w => (∀ o, w.cell? ⟨b6, o, none⟩ = [Value.int .i64 s0, .int .i64 s1, .int .i64 s2, .int .i64 s3, .int .i64 s4, .int .i64 s5, .int .i64 kd, .int .i64 dt, .int .i64 ck, .int .i64 fx, .slice sW qs.length cW, .slice sG gs.length dG][o]?) ∧ (∀ q, w.cell? ⟨b2, q, none⟩ = [Value.int .i64 s0, .int .i64 s1, .int .i64 s2, .int .i64 s3, .int .i64 s4, .int .i64 s5, .int .i64 kd, .int .i64 dt, .int .i64 ck, .int .i64 fx, .slice xa0 xn0 xc0, .slice (some ⟨b, o, none⟩) fs.length yc0][q]?) ∧ w.cell? ⟨b, o + j * 11, none⟩ = some (.int .i64 k') ∧ w.cell? ⟨b, o + j * 11 + 1, none⟩ = some (.int .i64 p0') ∧ w.cell? ⟨b, o + j * 11 + 2, none⟩ = some (.int .i64 p1') ∧ w.cell? ⟨b, o + j * 11 + 3, none⟩ = some (.int .i64 p2') ∧ w.cell? ⟨b, o + j * 11 + 4, none⟩ = some (.int .i64 p3') ∧ w.cell? ⟨b, o + j * 11 + 5, none⟩ = some (.int .i64 p4') ∧ w.cell? ⟨b, o + j * 11 + 6, none⟩ = some (.int .i64 p5') ∧ w.cell? ⟨b, o + j * 11 + 7, none⟩ = some (.int .i64 ch') ∧ w.cell? ⟨b, o + j * 11 + 8, none⟩ = some (.int .u8 ms') ∧ w.cell? ⟨b, o + j * 11 + 9, none⟩ = some (.int .u8 vl') ∧ w.cell? ⟨b, o + j * 11 + 10, none⟩ = some (.bool hd')) (H) (fun w0 H _ => ⟨fun o => (Blk.cell (H.at 5 rfl) o).trans (by simp), fun q => (Blk.cell (H.at 0 rfl) q).trans (by simp), (HLF.out _ (H.liesUp HL2.out)).1 0 _ rfl, (HLF.out _ (H.liesUp HL2.out)).1 1 _ rfl, (HLF.out _ (H.liesUp HL2.out)).1 2 _ rfl, (HLF.out _ (H.liesUp HL2.out)).1 3 _ rfl, (HLF.out _ (H.liesUp HL2.out)).1 4 _ rfl, (HLF.out _ (H.liesUp HL2.out)).1 5 _ rfl, (HLF.out _ (H.liesUp HL2.out)).1 6 _ rfl, (HLF.out _ (H.liesUp HL2.out)).1 7 _ rfl, (HLF.out _ (H.liesUp HL2.out)).1 8 _ rfl, (HLF.out _ (H.liesUp HL2.out)).1 9 _ rfl, (HLF.out _ (H.liesUp HL2.out)).1 10 _ rfl⟩) ?_
          clear H; intro w6 h0 H hz0
          try clear C
          try simp only [World.size_alloc, List.nil_append, List.cons_append, List.append_assoc] at H hz0
          clear hz0
          try clear w5
          have C := H.cells
          try simp only [cellsOf, cellsM, apartOf, apartM, and_true] at C
          repeat (first | (refine wpX_skip rfl ?_; go_simp) | (refine wpX_free rfl rfl rfl (fun K hK => ?_); go_step; refine hK _ _ ?_; clear hK K))
          (refine wpX_yield rfl rfl (.slice sG gs.length dG) (fun w hw => by obtain ⟨k0, k1, k2, k3, k4, k5, k6, k7, k8, k9, k10, k11, k12⟩ := hw; go_simp) ?_; go_simp)
          repeat (first | (refine wpX_skip rfl ?_; go_simp) | (refine wpX_free rfl rfl rfl (fun K hK => ?_); go_step; refine hK _ _ ?_; clear hK K))
          (refine wpX_yield rfl rfl (.slice (some ⟨b, o, none⟩) fs.length yc0) (fun w hw => by obtain ⟨k0, k1, k2, k3, k4, k5, k6, k7, k8, k9, k10, k11, k12⟩ := hw; go_simp) ?_; go_simp)
          repeat (first | (refine wpX_skip rfl ?_; go_simp) | (refine wpX_free rfl rfl rfl (fun K hK => ?_); go_step; refine hK _ _ ?_; clear hK K))
          (refine wpX_yield rfl rfl (.agg #[.int .i64 k', .int .i64 p0', .int .i64 p1', .int .i64 p2', .int .i64 p3', .int .i64 p4', .int .i64 p5', .int .i64 ch', .int .u8 ms', .int .u8 vl', .bool hd']) (fun w hw => by obtain ⟨k0, k1, k2, k3, k4, k5, k6, k7, k8, k9, k10, k11, k12⟩ := hw; go_simp) ?_; go_simp)
          repeat (first | (refine wpX_skip rfl ?_; go_simp) | (refine wpX_free rfl rfl rfl (fun K hK => ?_); go_step; refine hK _ _ ?_; clear hK K))
          refine wpX_eff rfl rfl (fun _ _ => ?_)
          go_step
          go_step
          generalize hwb : World.alloc _ _ = w7
          replace H := HS.eqW hwb H.alloc
          try simp only [World.size_alloc, List.nil_append, List.cons_append, List.append_assoc] at H
          clear hwb
          generalize w6.heap.size = bL at H ⊢
          try clear C
          try clear w6
          have C := H.cells
          try simp only [cellsOf, cellsM, apartOf, apartM, and_true] at C
          refine ⟨⟨fun o => (Blk.cell (H.at 5 rfl) o).trans (by simp), fun q => (Blk.cell (H.at 0 rfl) q).trans (by simp), (HLF.out _ (H.liesUp HL2.out)).1 0 _ rfl, (HLF.out _ (H.liesUp HL2.out)).1 1 _ rfl, (HLF.out _ (H.liesUp HL2.out)).1 2 _ rfl, (HLF.out _ (H.liesUp HL2.out)).1 3 _ rfl, (HLF.out _ (H.liesUp HL2.out)).1 4 _ rfl, (HLF.out _ (H.liesUp HL2.out)).1 5 _ rfl, (HLF.out _ (H.liesUp HL2.out)).1 6 _ rfl, (HLF.out _ (H.liesUp HL2.out)).1 7 _ rfl, (HLF.out _ (H.liesUp HL2.out)).1 8 _ rfl, (HLF.out _ (H.liesUp HL2.out)).1 9 _ rfl, (HLF.out _ (H.liesUp HL2.out)).1 10 _ rfl⟩, ?_⟩
          refine wpX_append_H rfl rfl (.tmp 31) (.tmp 37) 32 rfl elemCf H 6 rfl rfl 7 rfl rfl rfl rfl (by decide) (by unfold maxLen; omega) (by omega) (fun gz cz w8 HZ hzz => ?_)
          clear H hzz
          have H := HZ
          clear HZ
          try simp only [List.nil_append, List.cons_append, List.append_assoc, List.set_cons_succ, List.set_cons_zero] at H
          try clear C
          try clear w7
          have C := H.cells
          try simp only [cellsOf, cellsM, apartOf, apartM, and_true] at C
          refine ⟨⟨fun o => (Blk.cell (H.at 5 rfl) o).trans (by simp), fun q => (Blk.cell (H.at 0 rfl) q).trans (by simp), (HLF.out _ (H.liesUp HL2.out)).1 0 _ rfl, (HLF.out _ (H.liesUp HL2.out)).1 1 _ rfl, (HLF.out _ (H.liesUp HL2.out)).1 2 _ rfl, (HLF.out _ (H.liesUp HL2.out)).1 3 _ rfl, (HLF.out _ (H.liesUp HL2.out)).1 4 _ rfl, (HLF.out _ (H.liesUp HL2.out)).1 5 _ rfl, (HLF.out _ (H.liesUp HL2.out)).1 6 _ rfl, (HLF.out _ (H.liesUp HL2.out)).1 7 _ rfl, (HLF.out _ (H.liesUp HL2.out)).1 8 _ rfl, (HLF.out _ (H.liesUp HL2.out)).1 9 _ rfl, (HLF.out _ (H.liesUp HL2.out)).1 10 _ rfl⟩, ?_⟩
          repeat (first | (refine wpX_skip rfl ?_; go_simp) | (refine wpX_free rfl rfl rfl (fun K hK => ?_); go_step; refine hK _ _ ?_; clear hK K))
          (refine wpX_nil ?_; go_step)
          go_wp2_with fail
          generalize hwb : World.setCell w8 ⟨b6, 11, none⟩ _ = w9
          replace H := HS.eqW hwb (H.setTo (o := 11) (v := .slice (some ⟨gz, 0, none⟩) (gs.length + 1) cz) 5 rfl rfl)
          clear hwb C
          simp only [List.set_cons_succ, List.set_cons_zero] at H
          have H9 := HS.less (L' := [.blk b2 #[.int .i64 s0, .int .i64 s1, .int .i64 s2, .int .i64 s3, .int .i64 s4, .int .i64 s5, .int .i64 kd, .int .i64 dt, .int .i64 ck, .int .i64 fx, .slice xa0 xn0 xc0, .slice (some ⟨b, o, none⟩) fs.length yc0] 34, .blk b3 #[.int .i64 k, .int .i64 p0, .int .i64 p1, .int .i64 p2, .int .i64 p3, .int .i64 p4, .int .i64 p5, .int .i64 ch, .int .u8 ms, .int .u8 vl, .bool hd] 38, .blk b4 #[.int .i64 0, .int .i64 0, .int .i64 0, .int .i64 0, .int .i64 0, .int .i64 0, .int .i64 0, .int .i64 0, .int .i64 0, .int .i64 0, .slice none 0 0, .slice none 0 0] 34, rowCw sW qs.length cW qs, anyCw Fm qs, .blk b6 #[.int .i64 s0, .int .i64 s1, .int .i64 s2, .int .i64 s3, .int .i64 s4, .int .i64 s5, .int .i64 kd, .int .i64 dt, .int .i64 ck, .int .i64 fx, .slice sW qs.length cW, .slice (some ⟨gz, 0, none⟩) (gs.length + 1) cz] 34, rowCf (some ⟨gz, 0, none⟩) (gs.length + 1) cz (gs ++ [⟨k', p0', p1', p2', p3', p4', p5', ch', ms', vl', hd'⟩])]) H (by
            dsimp only [rowCf]
            rw [List.flatMap_append]
            repeat (first | exact .slnil | refine .cons_cons _ ?_ | refine .cons _ ?_))
          clear H
          skip
          go_roundw
          case rel => exact ⟨j + 1, gs ++ [⟨k', p0', p1', p2', p3', p4', p5', ch', ms', vl', hd'⟩], some ⟨gz, 0, none⟩, cz, by go_num, HJ.out, HG2, by rw [List.length_append]; have := HGL.out; simp; omega, by rw [List.length_append]; exact H9⟩
          case measure => simp [intOf]; have := HJ.out; omega
      · obtain rfl : j = fs.length := by omega
        have HGE := Lib.hid (show gs = fs.filter (fun g => !decide (g = (⟨k, p0, p1, p2, p3, p4, p5, ch, ms, vl, hd⟩ : Fa))) by have := HGS.out; rwa [List.take_length] at this)
        clear hlt hj HGS
        skip
        skip
        by_cases hm : (⟨k, p0, p1, p2, p3, p4, p5, ch, ms, vl, hd⟩ : Fa) ∈ fs
        · obtain rfl : o9 = (setFs (⟨s0, s1, s2, s3, s4, s5, kd, dt, ck, fx, ws, fs⟩ : Mm) (fs.filter (fun g => !decide (g = (⟨k, p0, p1, p2, p3, p4, p5, ch, ms, vl, hd⟩ : Fa)))), 0) := HI0.out hm
          have hlt9 : gs.length < fs.length := by rw [HGE.out]; exact filter_less hm
          have hne : ¬ (gs.length : Int) = fs.length := by omega
          have hnb : ((gs.length : Int) == fs.length) = false := beq_eq_false_iff_ne.2 hne
          clear HI0 HI15 hm
          go_wp2_with fail
          generalize hwb : (((((((((((wr.setCell _ _).setCell _ _).setCell _ _).setCell _ _).setCell _ _).setCell _ _).setCell _ _).setCell _ _).setCell _ _).setCell _ _).setCell _ _).setCell _ _ = w9
          replace H := HS.eqW hwb (H.putAll (i := 2) rfl (vs := [.int .i64 s0, .int .i64 s1, .int .i64 s2, .int .i64 s3, .int .i64 s4, .int .i64 s5, .int .i64 kd, .int .i64 dt, .int .i64 ck, .int .i64 fx, .slice sW qs.length cW, .slice sG gs.length dG]) rfl rfl)
          simp only [List.nil_append, List.cons_append, List.append_assoc, List.set_cons_succ, List.set_cons_zero] at H
          clear hwb
          try clear C
          try clear wr
          have C := H.cells
          try simp only [cellsOf, cellsM, apartOf, apartM, and_true] at C
          refine bodyPost_ret (by simp [results, Tryd.results67, go_sem, C]; try rfl) rfl ?_
          have hgs := HGE.out
          subst hgs
          have H9 := HS.less (L' := [rowCw sW qs.length cW qs, anyCw Fm qs, rowCf sG (fs.filter (fun g => !decide (g = (⟨k, p0, p1, p2, p3, p4, p5, ch, ms, vl, hd⟩ : Fa)))).length dG (fs.filter (fun g => !decide (g = (⟨k, p0, p1, p2, p3, p4, p5, ch, ms, vl, hd⟩ : Fa))))]) H (by repeat (first | exact .slnil | refine .cons_cons _ ?_ | refine .cons _ ?_))
          obtain ⟨G, H7⟩ := HS.memOf (L := []) H9 rfl rfl
          exact ⟨⟨sW, qs.length, cW⟩, ⟨sG, (fs.filter (fun g => !decide (g = (⟨k, p0, p1, p2, p3, p4, p5, ch, ms, vl, hd⟩ : Fa)))).length, dG⟩, qs, G, HQM.out, rfl, H7⟩
        · obtain rfl : o9 = ((⟨s0, s1, s2, s3, s4, s5, kd, dt, ck, fx, ws, fs⟩ : Mm), 15) := HI15.out hm
          have hle9 : gs.length = fs.length := by rw [HGE.out, filter_all hm]
          have hne : (gs.length : Int) = fs.length := by omega
          have hnb : ((gs.length : Int) == fs.length) = true := beq_iff_eq.2 hne
          have hnd : decide ((gs.length : Int) = fs.length) = true := decide_eq_true hne
          clear HI0 HI15 hm HGE hle9 hne
          skip
          go_wp2_with fail
          refine (HCPY.out _ (HME.out.up H.done)).mono ?_
          rintro _ w74 ⟨⟨pa, pn, pc⟩, ⟨ra, rn, rc⟩, qs0, Fm0, hqm0, rfl, K0⟩
          replace H := H.join K0 (one_low rfl)
          clear K0
          try simp only [List.nil_append, List.cons_append] at H
          skip
          try clear C
          try simp only [World.size_alloc, List.nil_append, List.cons_append, List.append_assoc] at H
          have C := H.cells
          try simp only [cellsOf, cellsM, apartOf, apartM, and_true] at C
          try dsimp only at hqm0
          try dsimp only [meV] at H ⊢
          try dsimp only [meV]
          go_upto_region 30 with fail
          generalize hwb : (((((((((((w74.setCell _ _).setCell _ _).setCell _ _).setCell _ _).setCell _ _).setCell _ _).setCell _ _).setCell _ _).setCell _ _).setCell _ _).setCell _ _).setCell _ _ = w10
          replace H := HS.eqW hwb (H.putAll (i := 2) rfl (vs := [.int .i64 s0, .int .i64 s1, .int .i64 s2, .int .i64 s3, .int .i64 s4, .int .i64 s5, .int .i64 kd, .int .i64 dt, .int .i64 ck, .int .i64 fx, .slice pa pn pc, .slice ra rn rc]) rfl rfl)
          simp only [List.nil_append, List.cons_append, List.append_assoc, List.set_cons_succ, List.set_cons_zero] at H
          clear hwb
          try clear C
          try clear w74
          have C := H.cells
          try simp only [cellsOf, cellsM, apartOf, apartM, and_true] at C
          refine bodyPost_ret (by simp [results, Tryd.results67, go_sem, C]; try rfl) rfl ?_
          exact ⟨⟨pa, pn, pc⟩, ⟨ra, rn, rc⟩, qs0, Fm0, hqm0, rfl, HS.less H (by repeat (first | exact .slnil | refine .cons_cons _ ?_ | refine .cons _ ?_))⟩
end Go.Proofs.YtplflpmkomeadaaDoor
