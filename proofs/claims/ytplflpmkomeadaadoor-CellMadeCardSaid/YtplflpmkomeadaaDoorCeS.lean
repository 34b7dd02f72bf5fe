/- New and Stored of both packages, cell.wrong. -/
import Derived.Test.YtplflpmkomeadaaDoorCeL
import Derived.Test.YtplflpmkomeadaaDoorCeG
import Derived.Test.YtplflpmkomeadaaDoorCeR
namespace Go.Proofs.YtplflpmkomeadaaDoor
set_option linter.unusedSimpArgs false
set_option linter.unusedVariables false
open Go.RowKit
set_option maxRecDepth 100000
attribute [local irreducible] wpX wpF Calls

def zeroMm : Mm := ⟨0, 0, 0, 0, 0, 0, 0, 0, 0, 0, [], []⟩
def zeroWm : Wm := ⟨0, [], false⟩
@[reducible] def nilSv : Sv := ⟨none, 0, 0⟩
/-- What New answers. -/
def newF (M : Mm) : Mm × Int := if goodB M = true then (M, 0) else (zeroMm, 1)
/-- What Stored answers. -/
def storedF (M : Mm) (i : Int) : Wm × Int := if goodB M = true then (if 0 ≤ i ∧ i < szM M then (lookW (M.dt + M.ck).toNat M.ws i, 0) else (zeroWm, 2)) else (zeroWm, 1)
def wrongF (M : Mm) (i : Int) : Int := if goodB M = true then (if 0 ≤ i ∧ i < szM M then 0 else 2) else 1
theorem wrongF_ok {M : Mm} {i : Int} (h : wrongF M i = 0) : goodB M = true ∧ 0 ≤ i ∧ i < szM M := by
  unfold wrongF at h
  split at h
  · rename_i hg
    split at h
    · rename_i hi; exact ⟨hg, hi⟩
    · cases h
  · cases h
theorem storedF_bad {M : Mm} {i : Int} (h : wrongF M i ≠ 0) : storedF M i = (zeroWm, wrongF M i) := by
  unfold wrongF storedF at *
  split
  · rename_i hg
    rw [if_pos hg] at h
    split
    · rename_i hi; rw [if_pos hi] at h; exact absurd rfl h
    · rfl
  · rfl
theorem meAt_nil (w : World) {M : Mm} (h1 : M.ws = []) (h2 : M.fs = []) : MeAt w nilSv nilSv M := by
  refine ⟨⟨[], by rw [h1]; rfl, rfl, ⟨Nat.le_refl _, fun _ => rfl⟩, fun j hj => absurd hj (Nat.not_lt_zero _), fun q hq => absurd hq List.not_mem_nil⟩, ?_⟩
  unfold CfAt
  rw [h2]
  exact ⟨rfl, ⟨Nat.le_refl _, fun _ => rfl⟩, fun j hj => absurd hj (Nat.not_lt_zero _)⟩
theorem goodB_nil {M : Mm} (h1 : M.ws = []) (h2 : M.fs = []) : goodB M = (decide (svM M) && coM M) := by
  unfold goodB
  rw [h1, h2]
  simp
set_option maxHeartbeats 8000000 in
theorem cwrong_any (M : Mm) (x y : Sv) (hM : LongM M) (i : Int) (w : World) (hNm : Nm w) (h : MeAt w x y M) : Calls Tryd.prog 52 #[meV M x y, .int .i64 i] w (Gives (.int .i64 (wrongF M i)) w) := by
  have HV := Lib.hid (fun wx hn hx => cvalid13_any M x y hM wx hn hx)
  have HME := Lib.hid h
  have HNm := Lib.hid hNm
  have HSZ := Lib.hid (fun w => (show Calls Tryd.prog 49 #[v6 M.s0 M.s1 M.s2 M.s3 M.s4 M.s5] w (Gives (.int .i64 (szM M : Nat)) w) from size_all M.s0 M.s1 M.s2 M.s3 M.s4 M.s5 w))
  have HZ4 := sizeN_le M.s0 M.s1 M.s2 M.s3 M.s4 M.s5
  clear h hM hNm
  cases hg : goodB M with
  | false =>
    rw [hg] at HV
    have HE := Lib.hid (show wrongF M i = 1 from by unfold wrongF; rw [hg]; rfl)
    rw [HE.out]
    clear HE
    clear hg HSZ HZ4
    obtain ⟨s0, s1, s2, s3, s4, s5, kd, dt, ck, fx, ws, fs⟩ := M
    obtain ⟨xa0, xn0, xc0⟩ := x
    obtain ⟨ya0, yn0, yc0⟩ := y
    replace HV := Lib.hid (fun wx hn hx => (show Calls Tryd.prog 21 #[.agg #[.int .i64 s0, .int .i64 s1, .int .i64 s2, .int .i64 s3, .int .i64 s4, .int .i64 s5, .int .i64 kd, .int .i64 dt, .int .i64 ck, .int .i64 fx, .slice xa0 xn0 xc0, .slice ya0 yn0 yc0]] wx _ from HV.out wx hn hx))
    show Calls Tryd.prog 52 #[.agg #[.int .i64 s0, .int .i64 s1, .int .i64 s2, .int .i64 s3, .int .i64 s4, .int .i64 s5, .int .i64 kd, .int .i64 dt, .int .i64 ck, .int .i64 fx, .slice xa0 xn0 xc0, .slice ya0 yn0 yc0], .int .i64 i] w _
    go_enter Tryd.func52, Tryd.ntmps52
    have H := HS.start NoD w
    go_upto_region 1 with fail
    generalize hwb : w.alloc _ = w1
    replace H := HS.eqW hwb H.alloc
    try simp only [World.size_alloc, List.nil_append, List.cons_append, List.append_assoc] at H
    clear hwb
    generalize w.heap.size = b2 at H ⊢
    try clear C
    have C := H.cells
    try simp only [cellsOf, cellsM, apartOf, apartM, and_true] at C
    go_wp2_with fail
    refine (HV.out _ (HNm.out.below H.done) (HME.out.up H.done)).mono ?_
    rintro _ w2 ⟨rfl, hb⟩
    replace H := H.below hb
    clear hb
    try clear C
    try simp only [World.size_alloc, List.nil_append, List.cons_append, List.append_assoc] at H
    try clear w1
    have C := H.cells
    try simp only [cellsOf, cellsM, apartOf, apartM, and_true] at C
    dsimp only
    clear HV
    go_wp2_with fail
    go_ret
    exact ⟨rfl, H.done⟩
  | true =>
    rw [hg] at HV
    by_cases hix : i < 0
    · skip
      have HE := Lib.hid (show wrongF M i = 2 from by unfold wrongF; rw [hg, if_pos rfl, if_neg (by omega)])
      rw [HE.out]
      clear HE
      clear hg HSZ HZ4
      obtain ⟨s0, s1, s2, s3, s4, s5, kd, dt, ck, fx, ws, fs⟩ := M
      obtain ⟨xa0, xn0, xc0⟩ := x
      obtain ⟨ya0, yn0, yc0⟩ := y
      replace HV := Lib.hid (fun wx hn hx => (show Calls Tryd.prog 21 #[.agg #[.int .i64 s0, .int .i64 s1, .int .i64 s2, .int .i64 s3, .int .i64 s4, .int .i64 s5, .int .i64 kd, .int .i64 dt, .int .i64 ck, .int .i64 fx, .slice xa0 xn0 xc0, .slice ya0 yn0 yc0]] wx _ from HV.out wx hn hx))
      show Calls Tryd.prog 52 #[.agg #[.int .i64 s0, .int .i64 s1, .int .i64 s2, .int .i64 s3, .int .i64 s4, .int .i64 s5, .int .i64 kd, .int .i64 dt, .int .i64 ck, .int .i64 fx, .slice xa0 xn0 xc0, .slice ya0 yn0 yc0], .int .i64 i] w _
      go_enter Tryd.func52, Tryd.ntmps52
      have H := HS.start NoD w
      go_upto_region 1 with fail
      generalize hwb : w.alloc _ = w1
      replace H := HS.eqW hwb H.alloc
      try simp only [World.size_alloc, List.nil_append, List.cons_append, List.append_assoc] at H
      clear hwb
      generalize w.heap.size = b2 at H ⊢
      try clear C
      have C := H.cells
      try simp only [cellsOf, cellsM, apartOf, apartM, and_true] at C
      go_wp2_with fail
      refine (HV.out _ (HNm.out.below H.done) (HME.out.up H.done)).mono ?_
      rintro _ w2 ⟨rfl, hb⟩
      replace H := H.below hb
      clear hb
      try clear C
      try simp only [World.size_alloc, List.nil_append, List.cons_append, List.append_assoc] at H
      try clear w1
      have C := H.cells
      try simp only [cellsOf, cellsM, apartOf, apartM, and_true] at C
      dsimp only
      clear HV
      go_wp2_with fail
      go_ret
      exact ⟨rfl, H.done⟩
    · by_cases hiz : i < szM M
      · skip
        have HE := Lib.hid (show wrongF M i = 0 from by unfold wrongF; rw [hg, if_pos rfl, if_pos ⟨by omega, hiz⟩])
        rw [HE.out]
        clear HE
        have hge : ¬ i ≥ (szM M : Int) := by omega
        generalize hZZ : szM M = sz9 at HSZ hiz hge
        clear hg hZZ HZ4
        obtain ⟨s0, s1, s2, s3, s4, s5, kd, dt, ck, fx, ws, fs⟩ := M
        obtain ⟨xa0, xn0, xc0⟩ := x
        obtain ⟨ya0, yn0, yc0⟩ := y
        replace HV := Lib.hid (fun wx hn hx => (show Calls Tryd.prog 21 #[.agg #[.int .i64 s0, .int .i64 s1, .int .i64 s2, .int .i64 s3, .int .i64 s4, .int .i64 s5, .int .i64 kd, .int .i64 dt, .int .i64 ck, .int .i64 fx, .slice xa0 xn0 xc0, .slice ya0 yn0 yc0]] wx _ from HV.out wx hn hx))
        show Calls Tryd.prog 52 #[.agg #[.int .i64 s0, .int .i64 s1, .int .i64 s2, .int .i64 s3, .int .i64 s4, .int .i64 s5, .int .i64 kd, .int .i64 dt, .int .i64 ck, .int .i64 fx, .slice xa0 xn0 xc0, .slice ya0 yn0 yc0], .int .i64 i] w _
        go_enter Tryd.func52, Tryd.ntmps52
        have H := HS.start NoD w
        go_upto_region 1 with fail
        generalize hwb : w.alloc _ = w1
        replace H := HS.eqW hwb H.alloc
        try simp only [World.size_alloc, List.nil_append, List.cons_append, List.append_assoc] at H
        clear hwb
        generalize w.heap.size = b2 at H ⊢
        try clear C
        have C := H.cells
        try simp only [cellsOf, cellsM, apartOf, apartM, and_true] at C
        go_wp2_with fail
        refine (HV.out _ (HNm.out.below H.done) (HME.out.up H.done)).mono ?_
        rintro _ w2 ⟨rfl, hb⟩
        replace H := H.below hb
        clear hb
        try clear C
        try simp only [World.size_alloc, List.nil_append, List.cons_append, List.append_assoc] at H
        try clear w1
        have C := H.cells
        try simp only [cellsOf, cellsM, apartOf, apartM, and_true] at C
        dsimp only
        clear HV
        go_wp2_with fail
        refine (HSZ.out _).mono ?_
        rintro _ w3 ⟨rfl, hb⟩
        replace H := H.below hb
        clear hb
        try clear C
        try simp only [World.size_alloc, List.nil_append, List.cons_append, List.append_assoc] at H
        try clear w2
        have C := H.cells
        try simp only [cellsOf, cellsM, apartOf, apartM, and_true] at C
        dsimp only
        go_wp2_with fail
        go_ret
        exact ⟨rfl, H.done⟩
      · skip
        have HE := Lib.hid (show wrongF M i = 2 from by unfold wrongF; rw [hg, if_pos rfl, if_neg (by omega)])
        rw [HE.out]
        clear HE
        have hge : i ≥ (szM M : Int) := by omega
        generalize hZZ : szM M = sz9 at HSZ hiz hge
        clear hg hZZ HZ4
        obtain ⟨s0, s1, s2, s3, s4, s5, kd, dt, ck, fx, ws, fs⟩ := M
        obtain ⟨xa0, xn0, xc0⟩ := x
        obtain ⟨ya0, yn0, yc0⟩ := y
        replace HV := Lib.hid (fun wx hn hx => (show Calls Tryd.prog 21 #[.agg #[.int .i64 s0, .int .i64 s1, .int .i64 s2, .int .i64 s3, .int .i64 s4, .int .i64 s5, .int .i64 kd, .int .i64 dt, .int .i64 ck, .int .i64 fx, .slice xa0 xn0 xc0, .slice ya0 yn0 yc0]] wx _ from HV.out wx hn hx))
        show Calls Tryd.prog 52 #[.agg #[.int .i64 s0, .int .i64 s1, .int .i64 s2, .int .i64 s3, .int .i64 s4, .int .i64 s5, .int .i64 kd, .int .i64 dt, .int .i64 ck, .int .i64 fx, .slice xa0 xn0 xc0, .slice ya0 yn0 yc0], .int .i64 i] w _
        go_enter Tryd.func52, Tryd.ntmps52
        have H := HS.start NoD w
        go_upto_region 1 with fail
        generalize hwb : w.alloc _ = w1
        replace H := HS.eqW hwb H.alloc
        try simp only [World.size_alloc, List.nil_append, List.cons_append, List.append_assoc] at H
        clear hwb
        generalize w.heap.size = b2 at H ⊢
        try clear C
        have C := H.cells
        try simp only [cellsOf, cellsM, apartOf, apartM, and_true] at C
        go_wp2_with fail
        refine (HV.out _ (HNm.out.below H.done) (HME.out.up H.done)).mono ?_
        rintro _ w2 ⟨rfl, hb⟩
        replace H := H.below hb
        clear hb
        try clear C
        try simp only [World.size_alloc, List.nil_append, List.cons_append, List.append_assoc] at H
        try clear w1
        have C := H.cells
        try simp only [cellsOf, cellsM, apartOf, apartM, and_true] at C
        dsimp only
        clear HV
        go_wp2_with fail
        refine (HSZ.out _).mono ?_
        rintro _ w3 ⟨rfl, hb⟩
        replace H := H.below hb
        clear hb
        try clear C
        try simp only [World.size_alloc, List.nil_append, List.cons_append, List.append_assoc] at H
        try clear w2
        have C := H.cells
        try simp only [cellsOf, cellsM, apartOf, apartM, and_true] at C
        dsimp only
        go_wp2_with fail
        go_ret
        exact ⟨rfl, H.done⟩
set_option maxHeartbeats 8000000 in
theorem cstored_any (M : Mm) (x y : Sv) (hs : SmallM M) (i : Int) (w : World) (hNm : Nm w) (h : MeAt w x y M) : Calls Tryd.prog 19 #[meV M x y, .int .i64 i] w (GivesCwRE (storedF M i).1 (storedF M i).2 w) := by
  have HW := Lib.hid (fun wx hn hx => cwrong_any M x y hs.long i wx hn hx)
  obtain ⟨qs, hqm, hcw⟩ := h.1
  have HGT := Lib.hid (fun hso hd hk wx b hp hx => cget_any13 M b x y qs hqm hs hso hd hk i wx hp hx)
  have HME := Lib.hid h
  have HCW := Lib.hid (show CwLie w x qs from hcw)
  have HNm := Lib.hid hNm
  clear h hs hNm hqm hcw
  by_cases h0 : wrongF M i = 0
  · rw [h0] at HW
    obtain ⟨hg, hir⟩ := wrongF_ok h0
    have hrg := codeB_rng (goodB_iff.1 hg).co
    have HE := Lib.hid (show storedF M i = (lookW (M.dt + M.ck).toNat M.ws i, 0) from by unfold storedF; rw [hg, if_pos rfl, if_pos hir])
    rw [HE.out]
    replace HGT := Lib.hid (fun wx b hp hx => HGT.out (goodB_iff.1 hg).ws.up (by omega) (by omega) wx b hp hx)
    generalize hM9 : lookW (M.dt + M.ck).toNat M.ws i = m9 at HGT ⊢
    clear HE hg hrg hM9 h0 hir
    obtain ⟨wi, bs, po⟩ := m9
    obtain ⟨s0, s1, s2, s3, s4, s5, kd, dt, ck, fx, ws, fs⟩ := M
    obtain ⟨xa0, xn0, xc0⟩ := x
    obtain ⟨ya0, yn0, yc0⟩ := y
    replace HW := Lib.hid (fun wx hn hx => (show Calls Tryd.prog 52 #[.agg #[.int .i64 s0, .int .i64 s1, .int .i64 s2, .int .i64 s3, .int .i64 s4, .int .i64 s5, .int .i64 kd, .int .i64 dt, .int .i64 ck, .int .i64 fx, .slice xa0 xn0 xc0, .slice ya0 yn0 yc0], .int .i64 i] wx _ from HW.out wx hn hx))
    show Calls Tryd.prog 19 #[.agg #[.int .i64 s0, .int .i64 s1, .int .i64 s2, .int .i64 s3, .int .i64 s4, .int .i64 s5, .int .i64 kd, .int .i64 dt, .int .i64 ck, .int .i64 fx, .slice xa0 xn0 xc0, .slice ya0 yn0 yc0], .int .i64 i] w _
    go_enter Tryd.func19, Tryd.ntmps19
    have H := HS.start NoD w
    go_upto_region 1 with fail
    generalize hwb : (w.alloc _).alloc _ = w1
    replace H := HS.eqW hwb H.alloc.alloc
    try simp only [World.size_alloc, List.nil_append, List.cons_append, List.append_assoc] at H
    clear hwb
    generalize w.heap.size + 1 = b4 at H ⊢
    generalize w.heap.size = b2 at H ⊢
    try clear C
    have C := H.cells
    try simp only [cellsOf, cellsM, apartOf, apartM, and_true] at C
    go_wp2_with fail
    refine (HW.out _ (HNm.out.below H.done) (HME.out.up H.done)).mono ?_
    rintro _ w2 ⟨rfl, hb⟩
    replace H := H.below hb
    clear hb
    try clear C
    try simp only [World.size_alloc, List.nil_append, List.cons_append, List.append_assoc] at H
    try clear w1
    have C := H.cells
    try simp only [cellsOf, cellsM, apartOf, apartM, and_true] at C
    dsimp only
    clear HW
    go_upto_region 4 with fail
    have hmp : MeP w2 b2 ⟨s0, s1, s2, s3, s4, s5, kd, dt, ck, fx, ws, fs⟩ ⟨xa0, xn0, xc0⟩ ⟨ya0, yn0, yc0⟩ := H.at 0 rfl
    go_wp2_with fail
    refine (HGT.out _ b2 hmp (HCW.out.up H.done)).mono ?_
    rintro _ w71 ⟨sz, cz, rfl, K0⟩
    clear hmp
    replace H := H.join K0 (one_low rfl)
    clear K0
    try simp only [List.nil_append, List.cons_append] at H
    skip
    try clear C
    try simp only [World.size_alloc, List.nil_append, List.cons_append, List.append_assoc] at H
    have C := H.cells
    try simp only [cellsOf, cellsM, apartOf, apartM, and_true] at C
    go_upto_region 30 with fail
    generalize hwb : ((w71.setCell _ _).setCell _ _).setCell _ _ = w3
    replace H := HS.eqW hwb (H.putAll (i := 1) rfl (vs := [.int .i64 wi, .slice sz bs.length cz, .bool po]) rfl rfl)
    simp only [List.nil_append, List.cons_append, List.append_assoc, List.set_cons_succ, List.set_cons_zero] at H
    clear hwb
    try clear C
    try clear w71
    have C := H.cells
    try simp only [cellsOf, cellsM, apartOf, apartM, and_true] at C
    refine bodyPost_ret (by simp [results, Tryd.results19, go_sem, C]; try rfl) rfl ?_
    exact ⟨sz, cz, rfl, HS.less H (by repeat (first | exact .slnil | refine .cons_cons _ ?_ | refine .cons _ ?_))⟩
  · have HE := Lib.hid (show storedF M i = (zeroWm, wrongF M i) from storedF_bad h0)
    rw [HE.out]
    generalize wrongF M i = er at HW h0 ⊢
    have h0b : (er == 0) = false := by simpa using h0
    clear HE HGT
    obtain ⟨s0, s1, s2, s3, s4, s5, kd, dt, ck, fx, ws, fs⟩ := M
    obtain ⟨xa0, xn0, xc0⟩ := x
    obtain ⟨ya0, yn0, yc0⟩ := y
    replace HW := Lib.hid (fun wx hn hx => (show Calls Tryd.prog 52 #[.agg #[.int .i64 s0, .int .i64 s1, .int .i64 s2, .int .i64 s3, .int .i64 s4, .int .i64 s5, .int .i64 kd, .int .i64 dt, .int .i64 ck, .int .i64 fx, .slice xa0 xn0 xc0, .slice ya0 yn0 yc0], .int .i64 i] wx _ from HW.out wx hn hx))
    show Calls Tryd.prog 19 #[.agg #[.int .i64 s0, .int .i64 s1, .int .i64 s2, .int .i64 s3, .int .i64 s4, .int .i64 s5, .int .i64 kd, .int .i64 dt, .int .i64 ck, .int .i64 fx, .slice xa0 xn0 xc0, .slice ya0 yn0 yc0], .int .i64 i] w _
    go_enter Tryd.func19, Tryd.ntmps19
    have H := HS.start NoD w
    go_upto_region 1 with fail
    generalize hwb : (w.alloc _).alloc _ = w1
    replace H := HS.eqW hwb H.alloc.alloc
    try simp only [World.size_alloc, List.nil_append, List.cons_append, List.append_assoc] at H
    clear hwb
    generalize w.heap.size + 1 = b4 at H ⊢
    generalize w.heap.size = b2 at H ⊢
    try clear C
    have C := H.cells
    try simp only [cellsOf, cellsM, apartOf, apartM, and_true] at C
    go_wp2_with fail
    refine (HW.out _ (HNm.out.below H.done) (HME.out.up H.done)).mono ?_
    rintro _ w2 ⟨rfl, hb⟩
    replace H := H.below hb
    clear hb
    try clear C
    try simp only [World.size_alloc, List.nil_append, List.cons_append, List.append_assoc] at H
    try clear w1
    have C := H.cells
    try simp only [cellsOf, cellsM, apartOf, apartM, and_true] at C
    dsimp only
    clear HW
    go_upto_region 30 with fail
    generalize hwb : ((w2.setCell _ _).setCell _ _).setCell _ _ = w3
    replace H := HS.eqW hwb (H.putAll (i := 1) rfl (vs := [.int .i64 0, .slice none 0 0, .bool false]) rfl rfl)
    simp only [List.nil_append, List.cons_append, List.append_assoc, List.set_cons_succ, List.set_cons_zero] at H
    clear hwb
    try clear C
    try clear w2
    have C := H.cells
    try simp only [cellsOf, cellsM, apartOf, apartM, and_true] at C
    refine bodyPost_ret (by simp [results, Tryd.results19, go_sem, C]; try rfl) rfl ?_
    exact ⟨none, 0, rfl, HS.less (H.nilRow 5 1) (by repeat (first | exact .slnil | refine .cons_cons _ ?_ | refine .cons _ ?_))⟩
set_option maxHeartbeats 8000000 in
theorem cnew_any (M : Mm) (h1 : M.ws = []) (h2 : M.fs = []) (w : World) : Calls Tryd.prog 32 #[shV M, coV M] w (Gives (.tuple #[meV (newF M).1 nilSv nilSv, .int .i64 (newF M).2]) w) := by
  have HV := Lib.hid (fun wx => valid_any M.s0 M.s1 M.s2 M.s3 M.s4 M.s5 wx)
  have HC := Lib.hid (fun wx => scode_any M.kd M.dt M.ck M.fx wx)
  have HG := Lib.hid (goodB_nil h1 h2)
  by_cases hsv : svM M
  · replace HV := Lib.hid (fun wx => by have := HV.out wx; rw [decide_eq_true hsv] at this; exact this)
    cases hco : coM M with
    | false =>
      have hco9 : codeB M.kd M.dt M.ck M.fx = false := hco
      replace HC := Lib.hid (fun wx => by have := HC.out wx; rw [hco9] at this; exact this)
      have hg : goodB M = false := by rw [HG.out, hco]; simp
      clear hco hco9 hsv HG
      have HE := Lib.hid (show newF M = (zeroMm, 1) from by unfold newF; rw [hg]; rfl)
      rw [HE.out]
      clear HE hg
      obtain ⟨s0, s1, s2, s3, s4, s5, kd, dt, ck, fx, ws, fs⟩ := M
      obtain rfl : ws = [] := h1
      obtain rfl : fs = [] := h2
      try clear h1 h2
      replace HV := Lib.hid (fun wx => (show Calls Tryd.prog 48 #[v6 s0 s1 s2 s3 s4 s5] wx _ from HV.out wx))
      replace HC := Lib.hid (fun wx => (show Calls Tryd.prog 54 #[.agg #[.int .i64 kd, .int .i64 dt, .int .i64 ck, .int .i64 fx]] wx _ from HC.out wx))
      show Calls Tryd.prog 32 #[v6 s0 s1 s2 s3 s4 s5, .agg #[.int .i64 kd, .int .i64 dt, .int .i64 ck, .int .i64 fx]] w _
      go_enter Tryd.func32, Tryd.ntmps32
      have H := HS.start NoD w
      go_upto_region 1 with fail
      generalize hwb : ((w.alloc _).alloc _).alloc _ = w1
      replace H := HS.eqW hwb H.alloc.alloc.alloc
      try simp only [World.size_alloc, List.nil_append, List.cons_append, List.append_assoc] at H
      clear hwb
      generalize w.heap.size + 2 = b4 at H ⊢
      generalize w.heap.size + 1 = b3 at H ⊢
      generalize w.heap.size = b2 at H ⊢
      try clear C
      have C := H.cells
      try simp only [cellsOf, cellsM, apartOf, apartM, and_true] at C
      go_wp2_with fail
      refine (HV.out _).mono ?_
      rintro _ w2 ⟨rfl, hb⟩
      replace H := H.below hb
      clear hb
      try clear C
      try simp only [World.size_alloc, List.nil_append, List.cons_append, List.append_assoc] at H
      try clear w1
      have C := H.cells
      try simp only [cellsOf, cellsM, apartOf, apartM, and_true] at C
      dsimp only
      clear HV
      go_wp2_with fail
      refine (HC.out _).mono ?_
      rintro _ w3 ⟨rfl, hb⟩
      replace H := H.below hb
      clear hb
      try clear C
      try simp only [World.size_alloc, List.nil_append, List.cons_append, List.append_assoc] at H
      try clear w2
      have C := H.cells
      try simp only [cellsOf, cellsM, apartOf, apartM, and_true] at C
      dsimp only
      clear HC
      go_upto_region 30 with fail
      generalize hwb : (((((((((((w3.setCell _ _).setCell _ _).setCell _ _).setCell _ _).setCell _ _).setCell _ _).setCell _ _).setCell _ _).setCell _ _).setCell _ _).setCell _ _).setCell _ _ = w4
      replace H := HS.eqW hwb (H.putAll (i := 2) rfl (vs := [.int .i64 0, .int .i64 0, .int .i64 0, .int .i64 0, .int .i64 0, .int .i64 0, .int .i64 0, .int .i64 0, .int .i64 0, .int .i64 0, .slice none 0 0, .slice none 0 0]) rfl rfl)
      simp only [List.nil_append, List.cons_append, List.append_assoc, List.set_cons_succ, List.set_cons_zero] at H
      clear hwb
      try clear C
      try clear w3
      have C := H.cells
      try simp only [cellsOf, cellsM, apartOf, apartM, and_true] at C
      refine bodyPost_ret (by simp [results, Tryd.results32, go_sem, C]; try rfl) rfl ?_
      exact ⟨rfl, H.done⟩
    | true =>
      have hco9 : codeB M.kd M.dt M.ck M.fx = true := hco
      replace HC := Lib.hid (fun wx => by have := HC.out wx; rw [hco9] at this; exact this)
      have hg : goodB M = true := by rw [HG.out, hco, decide_eq_true hsv]; rfl
      clear hco hco9 hsv HG
      have HE := Lib.hid (show newF M = (M, 0) from by unfold newF; rw [hg]; rfl)
      rw [HE.out]
      clear HE hg
      obtain ⟨s0, s1, s2, s3, s4, s5, kd, dt, ck, fx, ws, fs⟩ := M
      obtain rfl : ws = [] := h1
      obtain rfl : fs = [] := h2
      try clear h1 h2
      replace HV := Lib.hid (fun wx => (show Calls Tryd.prog 48 #[v6 s0 s1 s2 s3 s4 s5] wx _ from HV.out wx))
      replace HC := Lib.hid (fun wx => (show Calls Tryd.prog 54 #[.agg #[.int .i64 kd, .int .i64 dt, .int .i64 ck, .int .i64 fx]] wx _ from HC.out wx))
      show Calls Tryd.prog 32 #[v6 s0 s1 s2 s3 s4 s5, .agg #[.int .i64 kd, .int .i64 dt, .int .i64 ck, .int .i64 fx]] w _
      go_enter Tryd.func32, Tryd.ntmps32
      have H := HS.start NoD w
      go_upto_region 1 with fail
      generalize hwb : ((w.alloc _).alloc _).alloc _ = w1
      replace H := HS.eqW hwb H.alloc.alloc.alloc
      try simp only [World.size_alloc, List.nil_append, List.cons_append, List.append_assoc] at H
      clear hwb
      generalize w.heap.size + 2 = b4 at H ⊢
      generalize w.heap.size + 1 = b3 at H ⊢
      generalize w.heap.size = b2 at H ⊢
      try clear C
      have C := H.cells
      try simp only [cellsOf, cellsM, apartOf, apartM, and_true] at C
      go_wp2_with fail
      refine (HV.out _).mono ?_
      rintro _ w2 ⟨rfl, hb⟩
      replace H := H.below hb
      clear hb
      try clear C
      try simp only [World.size_alloc, List.nil_append, List.cons_append, List.append_assoc] at H
      try clear w1
      have C := H.cells
      try simp only [cellsOf, cellsM, apartOf, apartM, and_true] at C
      dsimp only
      clear HV
      go_wp2_with fail
      refine (HC.out _).mono ?_
      rintro _ w3 ⟨rfl, hb⟩
      replace H := H.below hb
      clear hb
      try clear C
      try simp only [World.size_alloc, List.nil_append, List.cons_append, List.append_assoc] at H
      try clear w2
      have C := H.cells
      try simp only [cellsOf, cellsM, apartOf, apartM, and_true] at C
      dsimp only
      clear HC
      go_upto_region 30 with fail
      generalize hwb : (((((((((((w3.setCell _ _).setCell _ _).setCell _ _).setCell _ _).setCell _ _).setCell _ _).setCell _ _).setCell _ _).setCell _ _).setCell _ _).setCell _ _).setCell _ _ = w4
      replace H := HS.eqW hwb (H.putAll (i := 2) rfl (vs := [.int .i64 s0, .int .i64 s1, .int .i64 s2, .int .i64 s3, .int .i64 s4, .int .i64 s5, .int .i64 kd, .int .i64 dt, .int .i64 ck, .int .i64 fx, .slice none 0 0, .slice none 0 0]) rfl rfl)
      simp only [List.nil_append, List.cons_append, List.append_assoc, List.set_cons_succ, List.set_cons_zero] at H
      clear hwb
      try clear C
      try clear w3
      have C := H.cells
      try simp only [cellsOf, cellsM, apartOf, apartM, and_true] at C
      refine bodyPost_ret (by simp [results, Tryd.results32, go_sem, C]; try rfl) rfl ?_
      exact ⟨rfl, H.done⟩
  · replace HV := Lib.hid (fun wx => by have := HV.out wx; rw [decide_eq_false hsv] at this; exact this)
    have hg : goodB M = false := by rw [HG.out, decide_eq_false hsv]; rfl
    clear hsv HG
    have HE := Lib.hid (show newF M = (zeroMm, 1) from by unfold newF; rw [hg]; rfl)
    rw [HE.out]
    clear HE hg
    obtain ⟨s0, s1, s2, s3, s4, s5, kd, dt, ck, fx, ws, fs⟩ := M
    obtain rfl : ws = [] := h1
    obtain rfl : fs = [] := h2
    try clear h1 h2
    replace HV := Lib.hid (fun wx => (show Calls Tryd.prog 48 #[v6 s0 s1 s2 s3 s4 s5] wx _ from HV.out wx))
    replace HC := Lib.hid (fun wx => (show Calls Tryd.prog 54 #[.agg #[.int .i64 kd, .int .i64 dt, .int .i64 ck, .int .i64 fx]] wx _ from HC.out wx))
    show Calls Tryd.prog 32 #[v6 s0 s1 s2 s3 s4 s5, .agg #[.int .i64 kd, .int .i64 dt, .int .i64 ck, .int .i64 fx]] w _
    go_enter Tryd.func32, Tryd.ntmps32
    have H := HS.start NoD w
    go_upto_region 1 with fail
    generalize hwb : ((w.alloc _).alloc _).alloc _ = w1
    replace H := HS.eqW hwb H.alloc.alloc.alloc
    try simp only [World.size_alloc, List.nil_append, List.cons_append, List.append_assoc] at H
    clear hwb
    generalize w.heap.size + 2 = b4 at H ⊢
    generalize w.heap.size + 1 = b3 at H ⊢
    generalize w.heap.size = b2 at H ⊢
    try clear C
    have C := H.cells
    try simp only [cellsOf, cellsM, apartOf, apartM, and_true] at C
    go_wp2_with fail
    refine (HV.out _).mono ?_
    rintro _ w2 ⟨rfl, hb⟩
    replace H := H.below hb
    clear hb
    try clear C
    try simp only [World.size_alloc, List.nil_append, List.cons_append, List.append_assoc] at H
    try clear w1
    have C := H.cells
    try simp only [cellsOf, cellsM, apartOf, apartM, and_true] at C
    dsimp only
    clear HV
    go_upto_region 30 with fail
    generalize hwb : (((((((((((w2.setCell _ _).setCell _ _).setCell _ _).setCell _ _).setCell _ _).setCell _ _).setCell _ _).setCell _ _).setCell _ _).setCell _ _).setCell _ _).setCell _ _ = w3
    replace H := HS.eqW hwb (H.putAll (i := 2) rfl (vs := [.int .i64 0, .int .i64 0, .int .i64 0, .int .i64 0, .int .i64 0, .int .i64 0, .int .i64 0, .int .i64 0, .int .i64 0, .int .i64 0, .slice none 0 0, .slice none 0 0]) rfl rfl)
    simp only [List.nil_append, List.cons_append, List.append_assoc, List.set_cons_succ, List.set_cons_zero] at H
    clear hwb
    try clear C
    try clear w2
    have C := H.cells
    try simp only [cellsOf, cellsM, apartOf, apartM, and_true] at C
    refine bodyPost_ret (by simp [results, Tryd.results32, go_sem, C]; try rfl) rfl ?_
    exact ⟨rfl, H.done⟩
set_option maxHeartbeats 8000000 in
theorem r13stored_any (M : Mm) (x y : Sv) (hs : SmallM M) (i : Int) (w : World) (h : MeAt w x y M) : Calls Tryd.prog 65 #[meV M x y, .int .i64 i] w (GivesCwRE (storedF M i).1 (storedF M i).2 w) := by
  have HV := Lib.hid (fun wx hx => rv13_any M x y hs.long wx hx)
  have HLK := Lib.hid (fun hd hk wx hx => look13_any M x y hs hd hk i wx hx)
  have HME := Lib.hid h
  have HSZ := Lib.hid (fun w => (show Calls Tryd.prog 17 #[v6 M.s0 M.s1 M.s2 M.s3 M.s4 M.s5] w (Gives (.int .i64 (szM M : Nat)) w) from rsize_all M.s0 M.s1 M.s2 M.s3 M.s4 M.s5 w))
  have HZ4 := sizeN_le M.s0 M.s1 M.s2 M.s3 M.s4 M.s5
  clear h hs
  cases hg : goodB M with
  | false =>
    rw [hg] at HV
    have HE := Lib.hid (show storedF M i = (zeroWm, 1) from by unfold storedF; rw [hg]; rfl)
    rw [HE.out]
    clear HE
    clear hg HLK HSZ HZ4
    obtain ⟨s0, s1, s2, s3, s4, s5, kd, dt, ck, fx, ws, fs⟩ := M
    obtain ⟨xa0, xn0, xc0⟩ := x
    obtain ⟨ya0, yn0, yc0⟩ := y
    replace HV := Lib.hid (fun wx hx => (show Calls Tryd.prog 64 #[.agg #[.int .i64 s0, .int .i64 s1, .int .i64 s2, .int .i64 s3, .int .i64 s4, .int .i64 s5, .int .i64 kd, .int .i64 dt, .int .i64 ck, .int .i64 fx, .slice xa0 xn0 xc0, .slice ya0 yn0 yc0]] wx _ from HV.out wx hx))
    show Calls Tryd.prog 65 #[.agg #[.int .i64 s0, .int .i64 s1, .int .i64 s2, .int .i64 s3, .int .i64 s4, .int .i64 s5, .int .i64 kd, .int .i64 dt, .int .i64 ck, .int .i64 fx, .slice xa0 xn0 xc0, .slice ya0 yn0 yc0], .int .i64 i] w _
    go_enter Tryd.func65, Tryd.ntmps65
    have H := HS.start NoD w
    go_upto_region 1 with fail
    generalize hwb : (w.alloc _).alloc _ = w1
    replace H := HS.eqW hwb H.alloc.alloc
    try simp only [World.size_alloc, List.nil_append, List.cons_append, List.append_assoc] at H
    clear hwb
    generalize w.heap.size + 1 = b4 at H ⊢
    generalize w.heap.size = b2 at H ⊢
    try clear C
    have C := H.cells
    try simp only [cellsOf, cellsM, apartOf, apartM, and_true] at C
    go_wp2_with fail
    refine (HV.out _ (HME.out.up H.done)).mono ?_
    rintro _ w2 ⟨rfl, hb⟩
    replace H := H.below hb
    clear hb
    try clear C
    try simp only [World.size_alloc, List.nil_append, List.cons_append, List.append_assoc] at H
    try clear w1
    have C := H.cells
    try simp only [cellsOf, cellsM, apartOf, apartM, and_true] at C
    dsimp only
    clear HV
    go_upto_region 30 with fail
    generalize hwb : ((w2.setCell _ _).setCell _ _).setCell _ _ = w3
    replace H := HS.eqW hwb (H.putAll (i := 1) rfl (vs := [.int .i64 0, .slice none 0 0, .bool false]) rfl rfl)
    simp only [List.nil_append, List.cons_append, List.append_assoc, List.set_cons_succ, List.set_cons_zero] at H
    clear hwb
    try clear C
    try clear w2
    have C := H.cells
    try simp only [cellsOf, cellsM, apartOf, apartM, and_true] at C
    refine bodyPost_ret (by simp [results, Tryd.results65, go_sem, C]; try rfl) rfl ?_
    exact ⟨none, 0, rfl, HS.less (H.nilRow 5 1) (by repeat (first | exact .slnil | refine .cons_cons _ ?_ | refine .cons _ ?_))⟩
  | true =>
    rw [hg] at HV
    have hrg := codeB_rng (goodB_iff.1 hg).co
    by_cases hix : i < 0
    · skip
      have HE := Lib.hid (show storedF M i = (zeroWm, 2) from by unfold storedF; rw [hg, if_pos rfl, if_neg (by omega)])
      rw [HE.out]
      clear HE
      clear hg HLK HSZ HZ4 hrg
      obtain ⟨s0, s1, s2, s3, s4, s5, kd, dt, ck, fx, ws, fs⟩ := M
      obtain ⟨xa0, xn0, xc0⟩ := x
      obtain ⟨ya0, yn0, yc0⟩ := y
      replace HV := Lib.hid (fun wx hx => (show Calls Tryd.prog 64 #[.agg #[.int .i64 s0, .int .i64 s1, .int .i64 s2, .int .i64 s3, .int .i64 s4, .int .i64 s5, .int .i64 kd, .int .i64 dt, .int .i64 ck, .int .i64 fx, .slice xa0 xn0 xc0, .slice ya0 yn0 yc0]] wx _ from HV.out wx hx))
      show Calls Tryd.prog 65 #[.agg #[.int .i64 s0, .int .i64 s1, .int .i64 s2, .int .i64 s3, .int .i64 s4, .int .i64 s5, .int .i64 kd, .int .i64 dt, .int .i64 ck, .int .i64 fx, .slice xa0 xn0 xc0, .slice ya0 yn0 yc0], .int .i64 i] w _
      go_enter Tryd.func65, Tryd.ntmps65
      have H := HS.start NoD w
      go_upto_region 1 with fail
      generalize hwb : (w.alloc _).alloc _ = w1
      replace H := HS.eqW hwb H.alloc.alloc
      try simp only [World.size_alloc, List.nil_append, List.cons_append, List.append_assoc] at H
      clear hwb
      generalize w.heap.size + 1 = b4 at H ⊢
      generalize w.heap.size = b2 at H ⊢
      try clear C
      have C := H.cells
      try simp only [cellsOf, cellsM, apartOf, apartM, and_true] at C
      go_wp2_with fail
      refine (HV.out _ (HME.out.up H.done)).mono ?_
      rintro _ w2 ⟨rfl, hb⟩
      replace H := H.below hb
      clear hb
      try clear C
      try simp only [World.size_alloc, List.nil_append, List.cons_append, List.append_assoc] at H
      try clear w1
      have C := H.cells
      try simp only [cellsOf, cellsM, apartOf, apartM, and_true] at C
      dsimp only
      clear HV
      go_wp2_with fail
      go_upto_region 30 with fail
      generalize hwb : ((w2.setCell _ _).setCell _ _).setCell _ _ = w3
      replace H := HS.eqW hwb (H.putAll (i := 1) rfl (vs := [.int .i64 0, .slice none 0 0, .bool false]) rfl rfl)
      simp only [List.nil_append, List.cons_append, List.append_assoc, List.set_cons_succ, List.set_cons_zero] at H
      clear hwb
      try clear C
      try clear w2
      have C := H.cells
      try simp only [cellsOf, cellsM, apartOf, apartM, and_true] at C
      refine bodyPost_ret (by simp [results, Tryd.results65, go_sem, C]; try rfl) rfl ?_
      exact ⟨none, 0, rfl, HS.less (H.nilRow 5 1) (by repeat (first | exact .slnil | refine .cons_cons _ ?_ | refine .cons _ ?_))⟩
    · by_cases hiz : i < szM M
      · skip
        have HE := Lib.hid (show storedF M i = (lookW (M.dt + M.ck).toNat M.ws i, 0) from by unfold storedF; rw [hg, if_pos rfl, if_pos ⟨by omega, hiz⟩])
        rw [HE.out]
        clear HE
        replace HLK := Lib.hid (fun wx hx => HLK.out (by omega) (by omega) wx hx)
        have hge : ¬ i ≥ (szM M : Int) := by omega
        generalize hM9 : lookW (M.dt + M.ck).toNat M.ws i = m9 at HLK ⊢
        generalize hZZ : szM M = sz9 at HSZ hiz hge
        clear hg hrg hM9 hZZ HZ4
        obtain ⟨s0, s1, s2, s3, s4, s5, kd, dt, ck, fx, ws, fs⟩ := M
        obtain ⟨xa0, xn0, xc0⟩ := x
        obtain ⟨ya0, yn0, yc0⟩ := y
        replace HV := Lib.hid (fun wx hx => (show Calls Tryd.prog 64 #[.agg #[.int .i64 s0, .int .i64 s1, .int .i64 s2, .int .i64 s3, .int .i64 s4, .int .i64 s5, .int .i64 kd, .int .i64 dt, .int .i64 ck, .int .i64 fx, .slice xa0 xn0 xc0, .slice ya0 yn0 yc0]] wx _ from HV.out wx hx))
        replace HLK := Lib.hid (fun wx hx => (show Calls Tryd.prog 74 #[.agg #[.int .i64 s0, .int .i64 s1, .int .i64 s2, .int .i64 s3, .int .i64 s4, .int .i64 s5, .int .i64 kd, .int .i64 dt, .int .i64 ck, .int .i64 fx, .slice xa0 xn0 xc0, .slice ya0 yn0 yc0], .int .i64 i] wx _ from HLK.out wx hx))
        obtain ⟨wi, bs, po⟩ := m9
        show Calls Tryd.prog 65 #[.agg #[.int .i64 s0, .int .i64 s1, .int .i64 s2, .int .i64 s3, .int .i64 s4, .int .i64 s5, .int .i64 kd, .int .i64 dt, .int .i64 ck, .int .i64 fx, .slice xa0 xn0 xc0, .slice ya0 yn0 yc0], .int .i64 i] w _
        go_enter Tryd.func65, Tryd.ntmps65
        have H := HS.start NoD w
        go_upto_region 1 with fail
        generalize hwb : (w.alloc _).alloc _ = w1
        replace H := HS.eqW hwb H.alloc.alloc
        try simp only [World.size_alloc, List.nil_append, List.cons_append, List.append_assoc] at H
        clear hwb
        generalize w.heap.size + 1 = b4 at H ⊢
        generalize w.heap.size = b2 at H ⊢
        try clear C
        have C := H.cells
        try simp only [cellsOf, cellsM, apartOf, apartM, and_true] at C
        go_wp2_with fail
        refine (HV.out _ (HME.out.up H.done)).mono ?_
        rintro _ w2 ⟨rfl, hb⟩
        replace H := H.below hb
        clear hb
        try clear C
        try simp only [World.size_alloc, List.nil_append, List.cons_append, List.append_assoc] at H
        try clear w1
        have C := H.cells
        try simp only [cellsOf, cellsM, apartOf, apartM, and_true] at C
        dsimp only
        clear HV
        go_wp2_with fail
        refine (HSZ.out _).mono ?_
        rintro _ w3 ⟨rfl, hb⟩
        replace H := H.below hb
        clear hb
        try clear C
        try simp only [World.size_alloc, List.nil_append, List.cons_append, List.append_assoc] at H
        try clear w2
        have C := H.cells
        try simp only [cellsOf, cellsM, apartOf, apartM, and_true] at C
        dsimp only
        clear HSZ
        go_wp2_with fail
        refine (HLK.out _ (HME.out.up H.done)).mono ?_
        rintro _ w71 ⟨sz, cz, rfl, K0⟩
        replace H := H.join K0 (one_low rfl)
        clear K0
        try simp only [List.nil_append, List.cons_append] at H
        skip
        try clear C
        try simp only [World.size_alloc, List.nil_append, List.cons_append, List.append_assoc] at H
        have C := H.cells
        try simp only [cellsOf, cellsM, apartOf, apartM, and_true] at C
        go_upto_region 30 with fail
        generalize hwb : ((w71.setCell _ _).setCell _ _).setCell _ _ = w4
        replace H := HS.eqW hwb (H.putAll (i := 1) rfl (vs := [.int .i64 wi, .slice sz bs.length cz, .bool po]) rfl rfl)
        simp only [List.nil_append, List.cons_append, List.append_assoc, List.set_cons_succ, List.set_cons_zero] at H
        clear hwb
        try clear C
        try clear w71
        have C := H.cells
        try simp only [cellsOf, cellsM, apartOf, apartM, and_true] at C
        refine bodyPost_ret (by simp [results, Tryd.results65, go_sem, C]; try rfl) rfl ?_
        exact ⟨sz, cz, rfl, HS.less H (by repeat (first | exact .slnil | refine .cons_cons _ ?_ | refine .cons _ ?_))⟩
      · skip
        have HE := Lib.hid (show storedF M i = (zeroWm, 2) from by unfold storedF; rw [hg, if_pos rfl, if_neg (by omega)])
        rw [HE.out]
        clear HE
        have hge : i ≥ (szM M : Int) := by omega
        generalize hZZ : szM M = sz9 at HSZ hiz hge
        clear hg HLK hrg hZZ HZ4
        obtain ⟨s0, s1, s2, s3, s4, s5, kd, dt, ck, fx, ws, fs⟩ := M
        obtain ⟨xa0, xn0, xc0⟩ := x
        obtain ⟨ya0, yn0, yc0⟩ := y
        replace HV := Lib.hid (fun wx hx => (show Calls Tryd.prog 64 #[.agg #[.int .i64 s0, .int .i64 s1, .int .i64 s2, .int .i64 s3, .int .i64 s4, .int .i64 s5, .int .i64 kd, .int .i64 dt, .int .i64 ck, .int .i64 fx, .slice xa0 xn0 xc0, .slice ya0 yn0 yc0]] wx _ from HV.out wx hx))
        show Calls Tryd.prog 65 #[.agg #[.int .i64 s0, .int .i64 s1, .int .i64 s2, .int .i64 s3, .int .i64 s4, .int .i64 s5, .int .i64 kd, .int .i64 dt, .int .i64 ck, .int .i64 fx, .slice xa0 xn0 xc0, .slice ya0 yn0 yc0], .int .i64 i] w _
        go_enter Tryd.func65, Tryd.ntmps65
        have H := HS.start NoD w
        go_upto_region 1 with fail
        generalize hwb : (w.alloc _).alloc _ = w1
        replace H := HS.eqW hwb H.alloc.alloc
        try simp only [World.size_alloc, List.nil_append, List.cons_append, List.append_assoc] at H
        clear hwb
        generalize w.heap.size + 1 = b4 at H ⊢
        generalize w.heap.size = b2 at H ⊢
        try clear C
        have C := H.cells
        try simp only [cellsOf, cellsM, apartOf, apartM, and_true] at C
        go_wp2_with fail
        refine (HV.out _ (HME.out.up H.done)).mono ?_
        rintro _ w2 ⟨rfl, hb⟩
        replace H := H.below hb
        clear hb
        try clear C
        try simp only [World.size_alloc, List.nil_append, List.cons_append, List.append_assoc] at H
        try clear w1
        have C := H.cells
        try simp only [cellsOf, cellsM, apartOf, apartM, and_true] at C
        dsimp only
        clear HV
        go_wp2_with fail
        refine (HSZ.out _).mono ?_
        rintro _ w3 ⟨rfl, hb⟩
        replace H := H.below hb
        clear hb
        try clear C
        try simp only [World.size_alloc, List.nil_append, List.cons_append, List.append_assoc] at H
        try clear w2
        have C := H.cells
        try simp only [cellsOf, cellsM, apartOf, apartM, and_true] at C
        dsimp only
        clear HSZ
        go_upto_region 30 with fail
        generalize hwb : ((w3.setCell _ _).setCell _ _).setCell _ _ = w4
        replace H := HS.eqW hwb (H.putAll (i := 1) rfl (vs := [.int .i64 0, .slice none 0 0, .bool false]) rfl rfl)
        simp only [List.nil_append, List.cons_append, List.append_assoc, List.set_cons_succ, List.set_cons_zero] at H
        clear hwb
        try clear C
        try clear w3
        have C := H.cells
        try simp only [cellsOf, cellsM, apartOf, apartM, and_true] at C
        refine bodyPost_ret (by simp [results, Tryd.results65, go_sem, C]; try rfl) rfl ?_
        exact ⟨none, 0, rfl, HS.less (H.nilRow 5 1) (by repeat (first | exact .slnil | refine .cons_cons _ ?_ | refine .cons _ ?_))⟩
set_option maxHeartbeats 8000000 in
theorem r13new_any (M : Mm) (h1 : M.ws = []) (h2 : M.fs = []) (w : World) : Calls Tryd.prog 33 #[shV M, coV M] w (Gives (.tuple #[meV (newF M).1 nilSv nilSv, .int .i64 (newF M).2]) w) := by
  have HV := Lib.hid (fun wx => rv13_any M nilSv nilSv ⟨by rw [h1]; exact Nat.zero_le _, by rw [h2]; exact Nat.zero_le _, by rw [h1]; exact fun x hx => absurd hx List.not_mem_nil⟩ wx (meAt_nil wx h1 h2))
  cases hg : goodB M with
  | false =>
    rw [hg] at HV
    have HE := Lib.hid (show newF M = (zeroMm, 1) from by unfold newF; rw [hg]; rfl)
    rw [HE.out]
    clear HE hg
    obtain ⟨s0, s1, s2, s3, s4, s5, kd, dt, ck, fx, ws, fs⟩ := M
    obtain rfl : ws = [] := h1
    obtain rfl : fs = [] := h2
    try clear h1 h2
    replace HV := Lib.hid (fun wx => (show Calls Tryd.prog 64 #[.agg #[.int .i64 s0, .int .i64 s1, .int .i64 s2, .int .i64 s3, .int .i64 s4, .int .i64 s5, .int .i64 kd, .int .i64 dt, .int .i64 ck, .int .i64 fx, .slice none 0 0, .slice none 0 0]] wx _ from HV.out wx))
    show Calls Tryd.prog 33 #[v6 s0 s1 s2 s3 s4 s5, .agg #[.int .i64 kd, .int .i64 dt, .int .i64 ck, .int .i64 fx]] w _
    go_enter Tryd.func33, Tryd.ntmps33
    have H := HS.start NoD w
    go_upto_region 2 with fail
    generalize hwb : (((w.alloc _).alloc _).alloc _).alloc _ = w1
    replace H := HS.eqW hwb H.alloc.alloc.alloc.alloc
    try simp only [World.size_alloc, List.nil_append, List.cons_append, List.append_assoc] at H
    clear hwb
    generalize w.heap.size + 3 = b6 at H ⊢
    generalize w.heap.size + 2 = b4 at H ⊢
    generalize w.heap.size + 1 = b3 at H ⊢
    generalize w.heap.size = b2 at H ⊢
    try clear C
    have C := H.cells
    try simp only [cellsOf, cellsM, apartOf, apartM, and_true] at C
    go_wp2_with fail
    refine (HV.out _).mono ?_
    rintro _ w2 ⟨rfl, hb⟩
    replace H := H.below hb
    clear hb
    try clear C
    try simp only [World.size_alloc, List.nil_append, List.cons_append, List.append_assoc] at H
    try clear w1
    have C := H.cells
    try simp only [cellsOf, cellsM, apartOf, apartM, and_true] at C
    dsimp only
    clear HV
    go_upto_region 30 with fail
    generalize hwb : (((((((((((w2.setCell _ _).setCell _ _).setCell _ _).setCell _ _).setCell _ _).setCell _ _).setCell _ _).setCell _ _).setCell _ _).setCell _ _).setCell _ _).setCell _ _ = w3
    replace H := HS.eqW hwb (H.putAll (i := 2) rfl (vs := [.int .i64 0, .int .i64 0, .int .i64 0, .int .i64 0, .int .i64 0, .int .i64 0, .int .i64 0, .int .i64 0, .int .i64 0, .int .i64 0, .slice none 0 0, .slice none 0 0]) rfl rfl)
    simp only [List.nil_append, List.cons_append, List.append_assoc, List.set_cons_succ, List.set_cons_zero] at H
    clear hwb
    try clear C
    try clear w2
    have C := H.cells
    try simp only [cellsOf, cellsM, apartOf, apartM, and_true] at C
    refine bodyPost_ret (by simp [results, Tryd.results33, go_sem, C]; try rfl) rfl ?_
    exact ⟨rfl, H.done⟩
  | true =>
    rw [hg] at HV
    have HE := Lib.hid (show newF M = (M, 0) from by unfold newF; rw [hg]; rfl)
    rw [HE.out]
    clear HE hg
    obtain ⟨s0, s1, s2, s3, s4, s5, kd, dt, ck, fx, ws, fs⟩ := M
    obtain rfl : ws = [] := h1
    obtain rfl : fs = [] := h2
    try clear h1 h2
    replace HV := Lib.hid (fun wx => (show Calls Tryd.prog 64 #[.agg #[.int .i64 s0, .int .i64 s1, .int .i64 s2, .int .i64 s3, .int .i64 s4, .int .i64 s5, .int .i64 kd, .int .i64 dt, .int .i64 ck, .int .i64 fx, .slice none 0 0, .slice none 0 0]] wx _ from HV.out wx))
    show Calls Tryd.prog 33 #[v6 s0 s1 s2 s3 s4 s5, .agg #[.int .i64 kd, .int .i64 dt, .int .i64 ck, .int .i64 fx]] w _
    go_enter Tryd.func33, Tryd.ntmps33
    have H := HS.start NoD w
    go_upto_region 2 with fail
    generalize hwb : (((w.alloc _).alloc _).alloc _).alloc _ = w1
    replace H := HS.eqW hwb H.alloc.alloc.alloc.alloc
    try simp only [World.size_alloc, List.nil_append, List.cons_append, List.append_assoc] at H
    clear hwb
    generalize w.heap.size + 3 = b6 at H ⊢
    generalize w.heap.size + 2 = b4 at H ⊢
    generalize w.heap.size + 1 = b3 at H ⊢
    generalize w.heap.size = b2 at H ⊢
    try clear C
    have C := H.cells
    try simp only [cellsOf, cellsM, apartOf, apartM, and_true] at C
    go_wp2_with fail
    refine (HV.out _).mono ?_
    rintro _ w2 ⟨rfl, hb⟩
    replace H := H.below hb
    clear hb
    try clear C
    try simp only [World.size_alloc, List.nil_append, List.cons_append, List.append_assoc] at H
    try clear w1
    have C := H.cells
    try simp only [cellsOf, cellsM, apartOf, apartM, and_true] at C
    dsimp only
    clear HV
    go_upto_region 30 with fail
    generalize hwb : (((((((((((w2.setCell _ _).setCell _ _).setCell _ _).setCell _ _).setCell _ _).setCell _ _).setCell _ _).setCell _ _).setCell _ _).setCell _ _).setCell _ _).setCell _ _ = w3
    replace H := HS.eqW hwb (H.putAll (i := 2) rfl (vs := [.int .i64 s0, .int .i64 s1, .int .i64 s2, .int .i64 s3, .int .i64 s4, .int .i64 s5, .int .i64 kd, .int .i64 dt, .int .i64 ck, .int .i64 fx, .slice none 0 0, .slice none 0 0]) rfl rfl)
    simp only [List.nil_append, List.cons_append, List.append_assoc, List.set_cons_succ, List.set_cons_zero] at H
    clear hwb
    try clear C
    try clear w2
    have C := H.cells
    try simp only [cellsOf, cellsM, apartOf, apartM, and_true] at C
    refine bodyPost_ret (by simp [results, Tryd.results33, go_sem, C]; try rfl) rfl ?_
    exact ⟨rfl, H.done⟩
end Go.Proofs.YtplflpmkomeadaaDoor
