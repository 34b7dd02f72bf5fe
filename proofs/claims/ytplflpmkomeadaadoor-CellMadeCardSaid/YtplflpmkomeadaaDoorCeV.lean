/- Fetch of both packages. -/
import Derived.Test.YtplflpmkomeadaaDoorCeT
namespace Go.Proofs.YtplflpmkomeadaaDoor
set_option linter.unusedSimpArgs false
set_option linter.unusedVariables false
open Go.RowKit
set_option maxRecDepth 100000
attribute [local irreducible] wpX wpF Calls

/-- What Fetch answers. -/
def fetchF (M : Mm) (i : Int) : Wm × Int := if wrongF M i = 0 then (seenW M i, 0) else (zeroWm, wrongF M i)
theorem storedF_er (M : Mm) (i : Int) : (storedF M i).2 = wrongF M i := by
  unfold storedF wrongF
  split
  · split <;> rfl
  · rfl
set_option maxHeartbeats 8000000 in
theorem r13fetch_any (M : Mm) (x y : Sv) (hs : SmallM M) (i : Int) (w : World) (h : MeAt w x y M) : Calls Tryd.prog 66 #[meV M x y, .int .i64 i] w (GivesCwRE (fetchF M i).1 (fetchF M i).2 w) := by
  have HME := Lib.hid h
  have HST := Lib.hid (fun wx hx => r13stored_any M x y hs i wx hx)
  have HSE := Lib.hid (fun hg hi wx hx => r13seen_any M x y hs hg i hi wx hx)
  have HER := Lib.hid (storedF_er M i)
  clear h hs
  by_cases h0 : wrongF M i = 0
  · obtain ⟨hg, hir⟩ := wrongF_ok h0
    have HE := Lib.hid (show fetchF M i = (seenW M i, 0) from by unfold fetchF; rw [if_pos h0])
    rw [HE.out]
    clear HE
    replace HSE := Lib.hid (HSE.out (goodB_iff.1 hg) hir)
    have her : (storedF M i).2 = 0 := by rw [HER.out]; exact h0
    rw [her] at HST
    clear HER her
    generalize storedF M i = st9 at HST
    generalize seenW M i = m9 at HSE ⊢
    clear hg hir h0
    obtain ⟨wi, bs, po⟩ := m9
    obtain ⟨⟨vi, vb, vp⟩, ve⟩ := st9
    dsimp only at HST
    obtain ⟨s0, s1, s2, s3, s4, s5, kd, dt, ck, fx, ws, fs⟩ := M
    obtain ⟨xa0, xn0, xc0⟩ := x
    obtain ⟨ya0, yn0, yc0⟩ := y
    replace HST := Lib.hid (fun wx hx => (show Calls Tryd.prog 65 #[.agg #[.int .i64 s0, .int .i64 s1, .int .i64 s2, .int .i64 s3, .int .i64 s4, .int .i64 s5, .int .i64 kd, .int .i64 dt, .int .i64 ck, .int .i64 fx, .slice xa0 xn0 xc0, .slice ya0 yn0 yc0], .int .i64 i] wx _ from HST.out wx hx))
    replace HSE := Lib.hid (fun wx hx => (show Calls Tryd.prog 86 #[.agg #[.int .i64 s0, .int .i64 s1, .int .i64 s2, .int .i64 s3, .int .i64 s4, .int .i64 s5, .int .i64 kd, .int .i64 dt, .int .i64 ck, .int .i64 fx, .slice xa0 xn0 xc0, .slice ya0 yn0 yc0], .int .i64 i] wx _ from HSE.out wx hx))
    show Calls Tryd.prog 66 #[.agg #[.int .i64 s0, .int .i64 s1, .int .i64 s2, .int .i64 s3, .int .i64 s4, .int .i64 s5, .int .i64 kd, .int .i64 dt, .int .i64 ck, .int .i64 fx, .slice xa0 xn0 xc0, .slice ya0 yn0 yc0], .int .i64 i] w _
    go_enter Tryd.func66, Tryd.ntmps66
    have H := HS.start NoD w
    go_upto_region 1 with fail
    generalize hwb : (w.alloc _).alloc _ = w1
    replace H := HS.eqW hwb H.alloc.alloc
    try simp only [World.size_alloc, List.nil_append, List.cons_append, List.append_assoc] at H
    clear hwb
    generalize w.heap.size + 1 = b4 at H ⊢
    generalize w.heap.size = b2 at H ⊢
    try clear C
    have C := H.cells
    try simp only [cellsOf, cellsM, apartOf, apartM, and_true] at C
    go_wp2_with fail
    refine (HST.out _ (HME.out.up H.done)).mono ?_
    rintro _ w71 ⟨sz, cz, rfl, K0⟩
    replace H := H.join K0 (one_low rfl)
    clear K0 HST
    try simp only [List.nil_append, List.cons_append] at H
    skip
    try clear C
    try simp only [World.size_alloc, List.nil_append, List.cons_append, List.append_assoc] at H
    have C := H.cells
    try simp only [cellsOf, cellsM, apartOf, apartM, and_true] at C
    try dsimp only at H
    try dsimp only
    go_upto_region 2 with fail
    generalize hwb : w71.alloc _ = w2
    replace H := HS.eqW hwb H.alloc
    try simp only [World.size_alloc, List.nil_append, List.cons_append, List.append_assoc] at H
    clear hwb
    generalize w71.heap.size = b6 at H ⊢
    try clear C
    try clear w71
    have C := H.cells
    try simp only [cellsOf, cellsM, apartOf, apartM, and_true] at C
    go_wp2_with fail
    refine (HSE.out _ (HME.out.up H.done)).mono ?_
    rintro _ w72 ⟨s9, c9, rfl, K0⟩
    replace H := H.join K0 (one_low rfl)
    clear K0
    try simp only [List.nil_append, List.cons_append] at H
    skip
    try clear C
    try simp only [World.size_alloc, List.nil_append, List.cons_append, List.append_assoc] at H
    have C := H.cells
    try simp only [cellsOf, cellsM, apartOf, apartM, and_true] at C
    go_upto_region 30 with fail
    generalize hwb : ((w72.setCell _ _).setCell _ _).setCell _ _ = w3
    replace H := HS.eqW hwb (H.putAll (i := 1) rfl (vs := [.int .i64 wi, .slice s9 bs.length c9, .bool po]) rfl rfl)
    simp only [List.nil_append, List.cons_append, List.append_assoc, List.set_cons_succ, List.set_cons_zero] at H
    clear hwb
    try clear C
    try clear w72
    have C := H.cells
    try simp only [cellsOf, cellsM, apartOf, apartM, and_true] at C
    refine bodyPost_ret (by simp [results, Tryd.results66, go_sem, C]; try rfl) rfl ?_
    exact ⟨s9, c9, rfl, HS.less H (by repeat (first | exact .slnil | refine .cons_cons _ ?_ | refine .cons _ ?_))⟩
  · have HE := Lib.hid (show fetchF M i = (zeroWm, wrongF M i) from by unfold fetchF; rw [if_neg h0])
    rw [HE.out]
    clear HE HSE
    rw [HER.out] at HST
    clear HER
    generalize (storedF M i).1 = st9 at HST
    obtain ⟨vi, vb, vp⟩ := st9
    generalize wrongF M i = er at HST h0 ⊢
    have h0b : (er == 0) = false := by simpa using h0
    obtain ⟨s0, s1, s2, s3, s4, s5, kd, dt, ck, fx, ws, fs⟩ := M
    obtain ⟨xa0, xn0, xc0⟩ := x
    obtain ⟨ya0, yn0, yc0⟩ := y
    replace HST := Lib.hid (fun wx hx => (show Calls Tryd.prog 65 #[.agg #[.int .i64 s0, .int .i64 s1, .int .i64 s2, .int .i64 s3, .int .i64 s4, .int .i64 s5, .int .i64 kd, .int .i64 dt, .int .i64 ck, .int .i64 fx, .slice xa0 xn0 xc0, .slice ya0 yn0 yc0], .int .i64 i] wx _ from HST.out wx hx))
    show Calls Tryd.prog 66 #[.agg #[.int .i64 s0, .int .i64 s1, .int .i64 s2, .int .i64 s3, .int .i64 s4, .int .i64 s5, .int .i64 kd, .int .i64 dt, .int .i64 ck, .int .i64 fx, .slice xa0 xn0 xc0, .slice ya0 yn0 yc0], .int .i64 i] w _
    go_enter Tryd.func66, Tryd.ntmps66
    have H := HS.start NoD w
    go_upto_region 1 with fail
    generalize hwb : (w.alloc _).alloc _ = w1
    replace H := HS.eqW hwb H.alloc.alloc
    try simp only [World.size_alloc, List.nil_append, List.cons_append, List.append_assoc] at H
    clear hwb
    generalize w.heap.size + 1 = b4 at H ⊢
    generalize w.heap.size = b2 at H ⊢
    try clear C
    have C := H.cells
    try simp only [cellsOf, cellsM, apartOf, apartM, and_true] at C
    go_wp2_with fail
    refine (HST.out _ (HME.out.up H.done)).mono ?_
    rintro _ w71 ⟨sz, cz, rfl, K0⟩
    replace H := H.join K0 (one_low rfl)
    clear K0 HST
    try simp only [List.nil_append, List.cons_append] at H
    skip
    try clear C
    try simp only [World.size_alloc, List.nil_append, List.cons_append, List.append_assoc] at H
    have C := H.cells
    try simp only [cellsOf, cellsM, apartOf, apartM, and_true] at C
    try dsimp only at H
    try dsimp only
    go_upto_region 2 with fail
    generalize hwb : w71.alloc _ = w2
    replace H := HS.eqW hwb H.alloc
    try simp only [World.size_alloc, List.nil_append, List.cons_append, List.append_assoc] at H
    clear hwb
    generalize w71.heap.size = b6 at H ⊢
    try clear C
    try clear w71
    have C := H.cells
    try simp only [cellsOf, cellsM, apartOf, apartM, and_true] at C
    go_upto_region 30 with fail
    generalize hwb : ((w2.setCell _ _).setCell _ _).setCell _ _ = w3
    replace H := HS.eqW hwb (H.putAll (i := 1) rfl (vs := [.int .i64 0, .slice none 0 0, .bool false]) rfl rfl)
    simp only [List.nil_append, List.cons_append, List.append_assoc, List.set_cons_succ, List.set_cons_zero] at H
    clear hwb
    try clear C
    try clear w2
    have C := H.cells
    try simp only [cellsOf, cellsM, apartOf, apartM, and_true] at C
    refine bodyPost_ret (by simp [results, Tryd.results66, go_sem, C]; try rfl) rfl ?_
    exact ⟨none, 0, rfl, HS.less (H.nilRow 5 1) (by repeat (first | exact .slnil | refine .cons_cons _ ?_ | refine .cons _ ?_))⟩
set_option maxHeartbeats 8000000 in
theorem cfetch13_any (M : Mm) (x y : Sv) (hs : SmallM M) (i : Int) (w : World) (hNm : Nm w) (h : MeAt w x y M) : Calls Tryd.prog 25 #[meV M x y, .int .i64 i] w (GivesCwRE (fetchF M i).1 (fetchF M i).2 w) := by
  have HME := Lib.hid h
  have HW := Lib.hid (fun wx hn hx => cwrong_any M x y hs.long i wx hn hx)
  have HSE := Lib.hid (fun b0 hg hi wx hn hp hx => cofetch_any M b0 x y hs hg i hi wx hn hp hx)
  have HNm := Lib.hid hNm
  clear h hs hNm
  by_cases h0 : wrongF M i = 0
  · obtain ⟨hg, hir⟩ := wrongF_ok h0
    have HE := Lib.hid (show fetchF M i = (seenW M i, 0) from by unfold fetchF; rw [if_pos h0])
    rw [HE.out]
    clear HE
    replace HSE := Lib.hid (fun b0 wx hn hp hx => HSE.out b0 (goodB_iff.1 hg) hir wx hn hp hx)
    rw [h0] at HW
    generalize seenW M i = m9 at HSE ⊢
    clear hg hir h0
    obtain ⟨wi, bs, po⟩ := m9
    obtain ⟨s0, s1, s2, s3, s4, s5, kd, dt, ck, fx, ws, fs⟩ := M
    obtain ⟨xa0, xn0, xc0⟩ := x
    obtain ⟨ya0, yn0, yc0⟩ := y
    replace HW := Lib.hid (fun wx hn hx => (show Calls Tryd.prog 52 #[.agg #[.int .i64 s0, .int .i64 s1, .int .i64 s2, .int .i64 s3, .int .i64 s4, .int .i64 s5, .int .i64 kd, .int .i64 dt, .int .i64 ck, .int .i64 fx, .slice xa0 xn0 xc0, .slice ya0 yn0 yc0], .int .i64 i] wx _ from HW.out wx hn hx))
    replace HSE := Lib.hid (fun b0 wx hn hp hx => (show Calls Tryd.prog 61 #[.pointer (some ⟨b0, 0, none⟩), .int .i64 i] wx _ from HSE.out b0 wx hn hp hx))
    show Calls Tryd.prog 25 #[.agg #[.int .i64 s0, .int .i64 s1, .int .i64 s2, .int .i64 s3, .int .i64 s4, .int .i64 s5, .int .i64 kd, .int .i64 dt, .int .i64 ck, .int .i64 fx, .slice xa0 xn0 xc0, .slice ya0 yn0 yc0], .int .i64 i] w _
    go_enter Tryd.func25, Tryd.ntmps25
    have H := HS.start NoD w
    go_upto_region 1 with fail
    generalize hwb : (w.alloc _).alloc _ = w1
    replace H := HS.eqW hwb H.alloc.alloc
    try simp only [World.size_alloc, List.nil_append, List.cons_append, List.append_assoc] at H
    clear hwb
    generalize w.heap.size + 1 = b4 at H ⊢
    generalize w.heap.size = b2 at H ⊢
    try clear C
    have C := H.cells
    try simp only [cellsOf, cellsM, apartOf, apartM, and_true] at C
    go_wp2_with fail
    refine (HW.out _ (HNm.out.below H.done) (HME.out.up H.done)).mono ?_
    rintro _ w2 ⟨rfl, hb⟩
    replace H := H.below hb
    clear hb
    try clear C
    try simp only [World.size_alloc, List.nil_append, List.cons_append, List.append_assoc] at H
    try clear w1
    have C := H.cells
    try simp only [cellsOf, cellsM, apartOf, apartM, and_true] at C
    dsimp only
    clear HW
    go_upto_region 4 with fail
    go_wp2_with fail
    have hmp : MeP w2 b2 ⟨s0, s1, s2, s3, s4, s5, kd, dt, ck, fx, ws, fs⟩ ⟨xa0, xn0, xc0⟩ ⟨ya0, yn0, yc0⟩ := H.at 0 rfl
    refine (HSE.out b2 _ (HNm.out.below H.done) hmp (HME.out.up H.done)).mono ?_
    rintro _ w72 ⟨s9, c9, rfl, K0⟩
    clear hmp
    replace H := H.join K0 (one_low rfl)
    clear K0
    try simp only [List.nil_append, List.cons_append] at H
    skip
    try clear C
    try simp only [World.size_alloc, List.nil_append, List.cons_append, List.append_assoc] at H
    have C := H.cells
    try simp only [cellsOf, cellsM, apartOf, apartM, and_true] at C
    go_upto_region 30 with fail
    generalize hwb : ((w72.setCell _ _).setCell _ _).setCell _ _ = w3
    replace H := HS.eqW hwb (H.putAll (i := 1) rfl (vs := [.int .i64 wi, .slice s9 bs.length c9, .bool po]) rfl rfl)
    simp only [List.nil_append, List.cons_append, List.append_assoc, List.set_cons_succ, List.set_cons_zero] at H
    clear hwb
    try clear C
    try clear w72
    have C := H.cells
    try simp only [cellsOf, cellsM, apartOf, apartM, and_true] at C
    refine bodyPost_ret (by simp [results, Tryd.results25, go_sem, C]; try rfl) rfl ?_
    exact ⟨s9, c9, rfl, HS.less H (by repeat (first | exact .slnil | refine .cons_cons _ ?_ | refine .cons _ ?_))⟩
  · have HE := Lib.hid (show fetchF M i = (zeroWm, wrongF M i) from by unfold fetchF; rw [if_neg h0])
    rw [HE.out]
    clear HE HSE
    generalize wrongF M i = er at HW h0 ⊢
    have h0b : (er == 0) = false := by simpa using h0
    obtain ⟨s0, s1, s2, s3, s4, s5, kd, dt, ck, fx, ws, fs⟩ := M
    obtain ⟨xa0, xn0, xc0⟩ := x
    obtain ⟨ya0, yn0, yc0⟩ := y
    replace HW := Lib.hid (fun wx hn hx => (show Calls Tryd.prog 52 #[.agg #[.int .i64 s0, .int .i64 s1, .int .i64 s2, .int .i64 s3, .int .i64 s4, .int .i64 s5, .int .i64 kd, .int .i64 dt, .int .i64 ck, .int .i64 fx, .slice xa0 xn0 xc0, .slice ya0 yn0 yc0], .int .i64 i] wx _ from HW.out wx hn hx))
    show Calls Tryd.prog 25 #[.agg #[.int .i64 s0, .int .i64 s1, .int .i64 s2, .int .i64 s3, .int .i64 s4, .int .i64 s5, .int .i64 kd, .int .i64 dt, .int .i64 ck, .int .i64 fx, .slice xa0 xn0 xc0, .slice ya0 yn0 yc0], .int .i64 i] w _
    go_enter Tryd.func25, Tryd.ntmps25
    have H := HS.start NoD w
    go_upto_region 1 with fail
    generalize hwb : (w.alloc _).alloc _ = w1
    replace H := HS.eqW hwb H.alloc.alloc
    try simp only [World.size_alloc, List.nil_append, List.cons_append, List.append_assoc] at H
    clear hwb
    generalize w.heap.size + 1 = b4 at H ⊢
    generalize w.heap.size = b2 at H ⊢
    try clear C
    have C := H.cells
    try simp only [cellsOf, cellsM, apartOf, apartM, and_true] at C
    go_wp2_with fail
    refine (HW.out _ (HNm.out.below H.done) (HME.out.up H.done)).mono ?_
    rintro _ w2 ⟨rfl, hb⟩
    replace H := H.below hb
    clear hb
    try clear C
    try simp only [World.size_alloc, List.nil_append, List.cons_append, List.append_assoc] at H
    try clear w1
    have C := H.cells
    try simp only [cellsOf, cellsM, apartOf, apartM, and_true] at C
    dsimp only
    clear HW
    go_upto_region 30 with fail
    generalize hwb : ((w2.setCell _ _).setCell _ _).setCell _ _ = w3
    replace H := HS.eqW hwb (H.putAll (i := 1) rfl (vs := [.int .i64 0, .slice none 0 0, .bool false]) rfl rfl)
    simp only [List.nil_append, List.cons_append, List.append_assoc, List.set_cons_succ, List.set_cons_zero] at H
    clear hwb
    try clear C
    try clear w2
    have C := H.cells
    try simp only [cellsOf, cellsM, apartOf, apartM, and_true] at C
    refine bodyPost_ret (by simp [results, Tryd.results25, go_sem, C]; try rfl) rfl ?_
    exact ⟨none, 0, rfl, HS.less (H.nilRow 5 1) (by repeat (first | exact .slnil | refine .cons_cons _ ?_ | refine .cons _ ?_))⟩
end Go.Proofs.YtplflpmkomeadaaDoor
