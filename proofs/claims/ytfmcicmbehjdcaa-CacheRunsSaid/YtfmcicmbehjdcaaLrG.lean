/- memfaultref30.Same, memfaultref31.Same: of what is the same. -/
import Derived.Test.YtfmcicmbehjdcaaLrE
import Derived.Laws.BytesArg
namespace Go.Proofs.Ytfmcicmbehjdcaa
set_option linter.unusedSimpArgs false
set_option linter.unusedVariables false
open Go.RowKit
set_option maxRecDepth 100000
attribute [local irreducible] wpX wpF Calls

theorem bC1_getL (bs : List Int) (i : Nat) (h : i < bs.length) : (bC1 bs[i]!)[0]? = some (.int .u8 (bs.getD i 0)) := by
  rw [getElem!_pos bs i h]
  simp [bC1, List.getD, List.getElem?_eq_getElem h]
theorem str_atL {w : World} {x : Sv} {bs : List Int} (h : BytesAt w x bs) : (convert 33 9 (.slice x.sa x.n x.c)).run Try.prog w = .ok (.string (strOfNums bs)) w := by
  obtain ⟨sa, n, c⟩ := x
  obtain ⟨hn, hc, hl⟩ := h
  dsimp only at hn hc hl ⊢
  have hs : Try.prog.underlying 33 = some (.slice 5) := by kernel_rfl
  have he : Try.prog.underlying 5 = some (.int .u8) := by kernel_rfl
  have hd : Try.prog.underlying 9 = some .string := by kernel_rfl
  cases sa with
  | none =>
    have h1 : n = 0 := by have := hc.2 rfl; have := hc.1; dsimp only at *; omega
    have h2 : bs = [] := List.length_eq_zero_iff.1 (by omega)
    subst h2
    exact run_convert_bytes_nil w 33 5 hs he n c _ hd
  | some a =>
    by_cases h0 : bs.length = 0
    · have h2 : bs = [] := List.length_eq_zero_iff.1 h0
      subst h2
      have h3 : n = 0 := hn
      subst h3
      rw [run_convert_bytes_string w 33 9 5 _ 0 c hs he hd]
      exact run_bytesToString w a 0 c [] (run_loadCells_list (P := Try.prog) w a [] (fun j v hj => by simp at hj))
    · obtain ⟨b, o, e, -, -⟩ := hl.at (show 0 < bs.length by omega)
      injection e with e
      subst e
      exact run_convert_bytes_arg w 33 5 hs he b o n c bs hn.symm (fun i hi => by
        obtain ⟨b', o', e, -, hcc⟩ := hl.at (show i < bs.length by omega)
        injection e with e
        injection e with e1 e2
        subst e1 e2
        have := hcc 0 _ (bC1_getL bs i (by omega))
        simpa using this) _ hd
set_option maxHeartbeats 4000000 in
theorem l30same_any (m : Lm) (x y : Sv) (w : World) (hx : BytesAt w x m.bs) (hy : BytesAt w y m.bs) : Calls Try.prog 21 #[lnV m x, lnV m y] w (Gives (.bool true) w) := by
  obtain ⟨ad, bs, d, p⟩ := m
  have HX := Lib.hid (show BytesAt w x bs from hx)
  have HY := Lib.hid (show BytesAt w y bs from hy)
  clear hx hy
  obtain ⟨xa, xn, xc⟩ := x
  obtain ⟨ya, yn, yc⟩ := y
  cases d <;> cases p <;>
  · show Calls Try.prog 21 #[.agg #[.int .i64 ad, .slice xa xn xc, .bool _, .bool _], .agg #[.int .i64 ad, .slice ya yn yc, .bool _, .bool _]] w _
    go_enter Try.func21, Try.ntmps21
    have H := HS.start NoD w
    go_upto_region 1 with fail
    generalize hwb : (w.alloc _).alloc _ = w1
    replace H := HS.eqW hwb H.alloc.alloc
    try simp only [World.size_alloc, List.nil_append, List.cons_append, List.append_assoc] at H
    clear hwb
    generalize w.heap.size + 1 = bY at H ⊢
    generalize w.heap.size = bX at H ⊢
    try clear C
    have C := H.cells
    try simp only [cellsOf, cellsM, apartOf, apartM, and_true] at C
    have hs1 := str_atL (HX.out.up H.done)
    have hs2 := str_atL (HY.out.up H.done)
    dsimp only at hs1 hs2
    generalize strOfNums bs = st at hs1 hs2
    go_wp2_with fail
    go_ret
    exact ⟨rfl, H.done⟩
set_option maxHeartbeats 8000000 in
theorem r31same_any (sets ways size : Int) (x y : Sv) (l : List Sm) (hs : l.length ≤ 1000000) (w : World) (hx : SlotsAt w x l) (hy : SlotsAt w y l) : Calls Try.prog 16 #[caV sets ways size x, caV sets ways size y] w (Gives (.bool true) w) := by
  obtain ⟨xa, xn, xc⟩ := x
  obtain ⟨ya, yn, yc⟩ := y
  obtain ⟨q0, hql, hn, hcap, hl, hb⟩ := hx
  obtain ⟨r0, hrl, hrn, hrcap, hrr, hrb⟩ := hy
  dsimp only at hn hcap hl hrn hrcap hrr
  subst hn hrn
  have hq1 : q0.length = l.length := by rw [← hql, List.length_map]
  have hr1 : r0.length = l.length := by rw [← hrl, List.length_map]
  have HQ := Lib.hid (show ∀ j, j < l.length → (q0[j]!).s = l[j]! from fun j hj => by rw [← hql, map_get _ _ _ (by omega)])
  have HR := Lib.hid (show ∀ j, j < l.length → (r0[j]!).s = l[j]! from fun j hj => by rw [← hrl, map_get _ _ _ (by omega)])
  have HB := Lib.hid (show ∀ j, j < l.length → BytesAt w (q0[j]!).x (q0[j]!).s.ln.bs from fun j hj => hb j (by omega))
  have HRB := Lib.hid (show ∀ j, j < l.length → BytesAt w (r0[j]!).x (r0[j]!).s.ln.bs from fun j hj => hrb j (by omega))
  have HL := Lib.hid hl
  have HRL := Lib.hid hrr
  rw [hq1] at HL
  rw [hr1] at HRL
  show Calls Try.prog 16 #[.agg #[.int .i64 sets, .int .i64 ways, .int .i64 size, .slice xa q0.length xc], .agg #[.int .i64 sets, .int .i64 ways, .int .i64 size, .slice ya r0.length yc]] w _
  rw [hq1, hr1]
  clear hb hl hrb hrr hcap hrcap hql hrl hq1 hr1
  go_enter Try.func16, Try.ntmps16
  have H := HS.start NoD w
  go_upto_region 1 with fail
  generalize hwb : (w.alloc _).alloc _ = w1
  replace H := HS.eqW hwb H.alloc.alloc
  try simp only [World.size_alloc, List.nil_append, List.cons_append, List.append_assoc] at H
  clear hwb
  generalize w.heap.size + 1 = bY at H ⊢
  generalize w.heap.size = bX at H ⊢
  try clear C
  have C := H.cells
  try simp only [cellsOf, cellsM, apartOf, apartM, and_true] at C
  go_wp2_with fail
  go_loopw [39] (fun jj wr => ∃ (j : Nat), jj = .int .i64 j ∧ j ≤ l.length ∧ HS NoD w [.blk bX #[.int .i64 sets, .int .i64 ways, .int .i64 size, .slice xa l.length xc] 24, .blk bY #[.int .i64 sets, .int .i64 ways, .int .i64 size, .slice ya l.length yc] 24] wr) (fun jj _ => l.length - (intOf jj).toNat)
  case atStart => exact ⟨0, rfl, Nat.zero_le _, H⟩
  case round =>
    clear H C
    obtain ⟨j, rfl, hj, H⟩ := hrel
    skip
    try clear C
    try simp only [World.size_alloc, List.nil_append, List.cons_append, List.append_assoc] at H
    have C := H.cells
    try simp only [cellsOf, cellsM, apartOf, apartM, and_true] at C
    by_cases hlt : j < l.length
    · obtain ⟨b, o, e1, hb, hc⟩ := (H.liesUp HL.out).at hlt
      obtain ⟨b', o', e2, hb', hd⟩ := (H.liesUp HRL.out).at hlt
      have HBJ := Lib.hid (HB.out j hlt)
      have HRJ := Lib.hid (HRB.out j hlt)
      have h1 := HQ.out j hlt
      have h2 := HR.out j hlt
      have HDL := Lib.hid (fun (wx : World) (hx : Lies wx wx.heap.size ya 6 l.length (fun j => swC r0[j]!)) => show (∀ i u, (swC r0[j]!)[i]? = some u → wx.cell? ⟨b', o' + j * 6 + i, none⟩ = some u) ∧ b' < wx.heap.size from by
        obtain ⟨b2, o2, e9, hb2, hd2⟩ := hx.at hlt
        rw [e2] at e9
        obtain ⟨rfl, rfl⟩ : b' = b2 ∧ o' = o2 := by simpa using e9
        exact ⟨hd2, hb2⟩)
      clear hd
      subst e1 e2
      generalize q0[j]! = q at hc HBJ h1
      generalize r0[j]! = r at HDL HRJ h2
      obtain ⟨m, ⟨sa, sn, sc⟩⟩ := q
      obtain ⟨m2, ⟨ta, tn, tc⟩⟩ := r
      dsimp only at h1 h2
      rw [← h1] at h2
      subst h2
      clear h1
      obtain ⟨u, age, ad, bs, d, p⟩ := m2
      have HSM := Lib.hid (fun wx h1 h2 => (show Calls Try.prog 21 #[.agg #[.int .i64 ad, .slice sa sn sc, .bool d, .bool p], .agg #[.int .i64 ad, .slice ta tn tc, .bool d, .bool p]] wx (Gives (.bool true) wx) from l30same_any ⟨ad, bs, d, p⟩ ⟨sa, sn, sc⟩ ⟨ta, tn, tc⟩ wx h1 h2))
      have c0 : wr.cell? ⟨b, o + j * 6, none⟩ = some (.bool u) := hc 0 _ rfl
      have c1 : wr.cell? ⟨b, o + j * 6 + 1, none⟩ = some (.int .i64 age) := hc 1 _ rfl
      have c2 : wr.cell? ⟨b, o + j * 6 + 2, none⟩ = some (.int .i64 ad) := hc 2 _ rfl
      have c3 : wr.cell? ⟨b, o + j * 6 + 3, none⟩ = some (.slice sa sn sc) := hc 3 _ rfl
      have c4 : wr.cell? ⟨b, o + j * 6 + 4, none⟩ = some (.bool d) := hc 4 _ rfl
      have c5 : wr.cell? ⟨b, o + j * 6 + 5, none⟩ = some (.bool p) := hc 5 _ rfl
      have n1 : (b = wr.heap.size) = False := eq_false (by omega)
      have n2 : (wr.heap.size = b) = False := eq_false (by omega)
      have hji : (j : Int) < l.length := by omega
      clear hc
      go_upto_region 6 with fail
      clear c0 c1 c2 c3 c4 c5 n1 n2
      generalize hwb : wr.alloc _ = w2
      replace H := HS.eqW hwb H.alloc
      try simp only [World.size_alloc, List.nil_append, List.cons_append, List.append_assoc] at H
      clear hwb
      generalize wr.heap.size = bP at H ⊢
      try clear C
      try clear wr
      have C := H.cells
      try simp only [cellsOf, cellsM, apartOf, apartM, and_true] at C
      obtain ⟨hc, hbw⟩ := HDL.out _ (H.liesUp HRL.out)
      have c0 : w2.cell? ⟨b', o' + j * 6, none⟩ = some (.bool u) := hc 0 _ rfl
      have c1 : w2.cell? ⟨b', o' + j * 6 + 1, none⟩ = some (.int .i64 age) := hc 1 _ rfl
      have c2 : w2.cell? ⟨b', o' + j * 6 + 2, none⟩ = some (.int .i64 ad) := hc 2 _ rfl
      have c3 : w2.cell? ⟨b', o' + j * 6 + 3, none⟩ = some (.slice ta tn tc) := hc 3 _ rfl
      have c4 : w2.cell? ⟨b', o' + j * 6 + 4, none⟩ = some (.bool d) := hc 4 _ rfl
      have c5 : w2.cell? ⟨b', o' + j * 6 + 5, none⟩ = some (.bool p) := hc 5 _ rfl
      have n1 : (b' = w2.heap.size) = False := eq_false (by omega)
      have n2 : (w2.heap.size = b') = False := eq_false (by omega)
      clear hc hbw
      go_upto_region 7 with fail
      clear c0 c1 c2 c3 c4 c5 n1 n2
      generalize hwb : w2.alloc _ = w3
      replace H := HS.eqW hwb H.alloc
      try simp only [World.size_alloc, List.nil_append, List.cons_append, List.append_assoc] at H
      clear hwb
      generalize w2.heap.size = bQ at H ⊢
      try clear C
      try clear w2
      have C := H.cells
      try simp only [cellsOf, cellsM, apartOf, apartM, and_true] at C
      have hub : (u != u) = false := by cases u <;> rfl
      go_wp2_with fail
      refine (HSM.out _ (HBJ.out.up H.done) (HRJ.out.up H.done)).mono ?_
      rintro _ w4 ⟨rfl, hb⟩
      replace H := H.below hb
      clear hb
      try clear C
      try simp only [World.size_alloc, List.nil_append, List.cons_append, List.append_assoc] at H
      try clear w3
      have C := H.cells
      try simp only [cellsOf, cellsM, apartOf, apartM, and_true] at C
      dsimp only
      go_wp2_with fail
      go_roundw
      case rel => exact ⟨j + 1, by go_num, by omega, HS.less H (by repeat (first | exact .slnil | refine .cons_cons _ ?_ | refine .cons _ ?_))⟩
      case measure => simp [intOf]; omega
    · skip
      go_wp2_with fail
      go_ret
      exact ⟨rfl, H.done⟩
end Go.Proofs.Ytfmcicmbehjdcaa
