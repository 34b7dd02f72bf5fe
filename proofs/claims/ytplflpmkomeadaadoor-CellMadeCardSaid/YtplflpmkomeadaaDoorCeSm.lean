/- cell.Same, with slices.Equal and EqualFunc at its types. -/
import Derived.Test.YtplflpmkomeadaaDoorCeC
import Derived.Test.YtplflpmkomeadaaDoorK2
namespace Go.Proofs.YtplflpmkomeadaaDoor
set_option linter.unusedSimpArgs false
set_option linter.unusedVariables false
open Go.RowKit
set_option maxRecDepth 100000
attribute [local irreducible] wpX wpF Calls

set_option maxHeartbeats 4000000 in
theorem equalU8 (x y : Sv) (xs ys : List Int) (hm : xs.length ≤ 9223372036854775807) (hn : ys.length ≤ 9223372036854775807) (w : World) (hx : BytesAt w x xs) (hy : BytesAt w y ys) : Calls Tryd.prog 88 #[.slice x.sa x.n x.c, .slice y.sa y.n y.c] w (Gives (.bool (decide (xs = ys))) w) := by
  obtain ⟨xa, xn, xc⟩ := x
  obtain ⟨ya, yn, yc⟩ := y
  obtain rfl : xn = xs.length := hx.len
  obtain rfl : yn = ys.length := hy.len
  have HX := Lib.hid hx.lies
  have HY := Lib.hid hy.lies
  clear hx hy
  show Calls Tryd.prog 88 #[.slice xa xs.length xc, .slice ya ys.length yc] w _
  by_cases hl : xs.length = ys.length
  · have hli : (xs.length : Int) = ys.length := by omega
    have hlb : ((xs.length : Int) != ys.length) = false := by rw [hli]; simp
    have HLE := Lib.hid hl
    clear hl
    go_enter Tryd.func88, Tryd.ntmps88
    have H := HS.start NoD w
    go_wp2_with fail
    clear hlb
    go_loopw [13] (fun i wr => ∃ (j : Nat), i = .int .i64 j ∧ j ≤ xs.length ∧ Hid (xs.take j = ys.take j) ∧ HS NoD w [] wr) (fun i _ => xs.length - (intOf i).toNat)
    case atStart => exact ⟨0, rfl, Nat.zero_le _, (show Hid _ from rfl), H⟩
    case round =>
      clear H
      obtain ⟨j, rfl, hj, HT, H⟩ := hrel
      skip
      by_cases hlt : j < xs.length
      · have hlt2 : j < ys.length := by omega
        have HJ := Lib.hid hlt
        have HJ2 := Lib.hid hlt2
        obtain ⟨b, o, rfl, hb, hc⟩ := (H.lies HX.out).at hlt
        obtain ⟨b2, o2, rfl, hb2, hc2⟩ := (H.lies HY.out).at hlt2
        have HNE := Lib.hid (fun he => take_ne hlt hlt2 he)
        have HST := Lib.hid (fun he => take_step hlt hlt2 HT.out he)
        have c0 : wr.cell? ⟨b, o + j, none⟩ = some (.int .u8 xs[j]!) := by have := hc 0 _ rfl; simpa using this
        have d0 : wr.cell? ⟨b2, o2 + j, none⟩ = some (.int .u8 ys[j]!) := by have := hc2 0 _ rfl; simpa using this
        clear hc hc2
        generalize xs[j]! = u at c0 HNE HST
        generalize ys[j]! = v at d0 HNE HST
        by_cases huv : u = v
        · subst huv
          go_upto_region 6 with fail
          go_region
          all_goals
            go_wp2_with fail
            go_roundw
            case rel => exact ⟨j + 1, by go_num, by omega, (show Hid _ from HST.out rfl), H.drew⟩
            case measure => simp [intOf]; omega
        · have huvb : (u != v) = true := bne_iff_ne.2 huv
          have HDF := Lib.hid (HNE.out huv)
          go_upto_region 6 with fail
          go_region
          all_goals
            go_wp2_with fail
            go_ret
            exact ⟨by rw [decide_eq_false HDF.out]; first | rfl | go_simp, H.drew.done⟩
      · obtain rfl : j = xs.length := by omega
        go_wp2_with fail
        go_ret
        exact ⟨by have := HT.out; rw [List.take_length, HLE.out, List.take_length] at this; rw [decide_eq_true this]; first | rfl | go_simp, H.done⟩
  · have hli : ¬ (xs.length : Int) = ys.length := by omega
    have hlb : ((xs.length : Int) != ys.length) = true := bne_iff_ne.2 hli
    have HDF := Lib.hid (show xs ≠ ys from fun e => hl (by rw [e]))
    clear hl
    go_enter Tryd.func88, Tryd.ntmps88
    have H := HS.start NoD w
    go_wp2_with fail
    go_ret
    exact ⟨by rw [decide_eq_false HDF.out]; first | rfl | go_simp, H.done⟩
set_option maxHeartbeats 4000000 in
theorem same1_any (a b : Wm) (x y : Sv) (hla : a.bs.length ≤ 9223372036854775807) (hlb : b.bs.length ≤ 9223372036854775807) (w : World) (hx : BytesAt w x a.bs) (hy : BytesAt w y b.bs) : Calls Tryd.prog 87 #[cwV a x, cwV b y] w (Gives (.bool (decide (a = b))) w) := by
  obtain ⟨ia, az, pa⟩ := a
  obtain ⟨ib, bs, pb⟩ := b
  obtain ⟨xa, xn, xc⟩ := x
  obtain ⟨ya, yn, yc⟩ := y
  have HX := Lib.hid hx
  have HY := Lib.hid hy
  have HS4 := Lib.hid (fun wx h1 h2 => equalU8 ⟨xa, xn, xc⟩ ⟨ya, yn, yc⟩ az bs hla hlb wx h1 h2)
  clear hx hy hla hlb
  show Calls Tryd.prog 87 #[.agg #[.int .i64 ia, .slice xa xn xc, .bool pa], .agg #[.int .i64 ib, .slice ya yn yc, .bool pb]] w _
  by_cases hi : ia = ib
  · subst hi
    by_cases hp : pa = pb
    · subst hp
      have HD := Lib.hid (show decide ((⟨ia, az, pa⟩ : Wm) = ⟨ia, bs, pa⟩) = decide (az = bs) by simp)
      have hpp : (pa == pa) = true := by simp
      go_enter Tryd.func87, Tryd.ntmps87
      have H := HS.start NoD w
      go_upto_region 1 with fail
      generalize hwb : (w.alloc _).alloc _ = w1
      replace H := HS.eqW hwb H.alloc.alloc
      try simp only [World.size_alloc, List.nil_append, List.cons_append, List.append_assoc] at H
      clear hwb
      generalize w.heap.size + 1 = bB at H ⊢
      generalize w.heap.size = bA at H ⊢
      try clear C
      have C := H.cells
      try simp only [cellsOf, cellsM, apartOf, apartM, and_true] at C
      go_wp2_with fail
      refine (HS4.out _ (HX.out.up H.done) (HY.out.up H.done)).mono ?_
      rintro _ w2 ⟨rfl, hb⟩
      replace H := H.below hb
      clear hb
      try clear C
      try simp only [World.size_alloc, List.nil_append, List.cons_append, List.append_assoc] at H
      try clear w1
      have C := H.cells
      try simp only [cellsOf, cellsM, apartOf, apartM, and_true] at C
      dsimp only
      clear HS4
      rcases Bool.eq_false_or_eq_true (decide (az = bs)) with hd | hd
      all_goals
        have HDD := Lib.hid hd
        rw [hd]
        clear hd
        go_wp2_with fail
        go_ret
        exact ⟨by rw [HD.out, HDD.out]; first | rfl | go_simp, H.done⟩
    · have hpb : (pa == pb) = false := beq_eq_false_iff_ne.2 hp
      have HD := Lib.hid (show decide ((⟨ia, az, pa⟩ : Wm) = ⟨ia, bs, pb⟩) = false by simp [hp])
      go_enter Tryd.func87, Tryd.ntmps87
      have H := HS.start NoD w
      go_upto_region 1 with fail
      generalize hwb : (w.alloc _).alloc _ = w1
      replace H := HS.eqW hwb H.alloc.alloc
      try simp only [World.size_alloc, List.nil_append, List.cons_append, List.append_assoc] at H
      clear hwb
      generalize w.heap.size + 1 = bB at H ⊢
      generalize w.heap.size = bA at H ⊢
      try clear C
      have C := H.cells
      try simp only [cellsOf, cellsM, apartOf, apartM, and_true] at C
      go_wp2_with fail
      go_ret
      exact ⟨by first | (rw [HD.out]; first | rfl | go_simp; done) | rfl | go_simp, H.done⟩
  · have hib : (ia == ib) = false := beq_eq_false_iff_ne.2 hi
    have HD := Lib.hid (show decide ((⟨ia, az, pa⟩ : Wm) = ⟨ib, bs, pb⟩) = false by simp [hi])
    go_enter Tryd.func87, Tryd.ntmps87
    have H := HS.start NoD w
    go_upto_region 1 with fail
    generalize hwb : (w.alloc _).alloc _ = w1
    replace H := HS.eqW hwb H.alloc.alloc
    try simp only [World.size_alloc, List.nil_append, List.cons_append, List.append_assoc] at H
    clear hwb
    generalize w.heap.size + 1 = bB at H ⊢
    generalize w.heap.size = bA at H ⊢
    try clear C
    have C := H.cells
    try simp only [cellsOf, cellsM, apartOf, apartM, and_true] at C
    go_wp2_with fail
    go_ret
    exact ⟨by first | (rw [HD.out]; first | rfl | go_simp; done) | rfl | go_simp, H.done⟩
set_option maxHeartbeats 8000000 in
theorem equalCw {xa ya : Option Addr} (xc yc : Nat) {qs rs : List (Wm × Sv)} (hq : qs.length ≤ 9223372036854775807) (hr : rs.length ≤ 9223372036854775807) (hqb : ∀ q ∈ qs, q.1.bs.length ≤ 9223372036854775807) (hrb : ∀ q ∈ rs, q.1.bs.length ≤ 9223372036854775807) (w : World)
    (hx : Lies w w.heap.size xa 3 qs.length (fun j => cwC qs[j]!)) (hxo : CwOk w qs) (hy : Lies w w.heap.size ya 3 rs.length (fun j => cwC rs[j]!)) (hyo : CwOk w rs) :
    Calls Tryd.prog 89 #[.slice xa qs.length xc, .slice ya rs.length yc, .func (.func 87) #[] #[]] w (Gives (.bool (decide (qs.map Prod.fst = rs.map Prod.fst))) w) := by
  have HX := Lib.hid hx
  have HY := Lib.hid hy
  have HK1 := Lib.hid hxo
  have HK3 := Lib.hid hyo
  have A3 := Lib.hid hqb
  have B3 := Lib.hid hrb
  clear hx hy hxo hyo hqb hrb
  by_cases hl : qs.length = rs.length
  · have hli : (qs.length : Int) = rs.length := by omega
    have hlb : ((qs.length : Int) != rs.length) = false := by rw [hli]; simp
    have HLE := Lib.hid hl
    clear hl
    go_enter Tryd.func89, Tryd.ntmps89
    have H := HS.start NoD w
    go_wp2_with fail
    clear hlb
    go_loopw [17] (fun i wr => ∃ (j : Nat), i = .int .i64 j ∧ j ≤ qs.length ∧ Hid ((qs.map Prod.fst).take j = (rs.map Prod.fst).take j) ∧ HS NoD w [] wr) (fun i _ => qs.length - (intOf i).toNat)
    case atStart => exact ⟨0, rfl, Nat.zero_le _, (show Hid _ from rfl), H⟩
    case round =>
      clear H
      obtain ⟨j, rfl, hj, HT, H⟩ := hrel
      skip
      by_cases hlt : j < qs.length
      · have hlt2 : j < rs.length := by have := HLE.out; omega
        have HJ := Lib.hid hlt
        obtain ⟨b, o, rfl, hb, hc⟩ := (H.lies HX.out).at hlt
        obtain ⟨b2, o2, rfl, hb2, hc2⟩ := (H.lies HY.out).at hlt2
        have HBJ := Lib.hid (HK1.out _ (mem_bang2 hlt))
        have HBK := Lib.hid (HK3.out _ (mem_bang2 hlt2))
        have h1 := A3.out _ (mem_bang2 hlt)
        have h2 := B3.out _ (mem_bang2 hlt2)
        have HNE := Lib.hid (show ¬ (qs[j]!).1 = (rs[j]!).1 → qs.map Prod.fst ≠ rs.map Prod.fst from fun he e => he (by rw [← map_bang hlt, ← map_bang hlt2, e]))
        have HST := Lib.hid (show (qs[j]!).1 = (rs[j]!).1 → (qs.map Prod.fst).take (j + 1) = (rs.map Prod.fst).take (j + 1) from fun he => take_stepG (by rw [List.length_map]; exact hlt) (by rw [List.length_map]; exact hlt2) HT.out (by rw [map_bang hlt, map_bang hlt2]; exact he))
        have HLR := Lib.hid (fun (wx : World) (hx : Lies wx wx.heap.size (some ⟨b2, o2, none⟩) 3 rs.length (fun j => cwC rs[j]!)) => show (∀ i v, (cwC rs[j]!)[i]? = some v → wx.cell? ⟨b2, o2 + j * 3 + i, none⟩ = some v) ∧ b2 < wx.heap.size from by
          obtain ⟨b9, o9, e9, hb9, h9⟩ := hx.at hlt2
          cases e9
          exact ⟨h9, hb9⟩)
        clear hc2
        generalize qs[j]! = q at HBJ HNE HST hc h1
        generalize rs[j]! = r at HBK HNE HST HLR h2
        obtain ⟨⟨ia, az, pa⟩, ⟨ba, bn, bc⟩⟩ := q
        obtain ⟨⟨ib, bs, pb⟩, ⟨ca, cn, cc⟩⟩ := r
        have HSW := Lib.hid (fun wx h3 h4 => (show Calls Tryd.prog 87 #[.agg #[.int .i64 ia, .slice ba bn bc, .bool pa], .agg #[.int .i64 ib, .slice ca cn cc, .bool pb]] wx (Gives (.bool (decide ((⟨ia, az, pa⟩ : Wm) = ⟨ib, bs, pb⟩))) wx) from same1_any ⟨ia, az, pa⟩ ⟨ib, bs, pb⟩ ⟨ba, bn, bc⟩ ⟨ca, cn, cc⟩ h1 h2 wx h3 h4))
        clear h1 h2
        have c0 : wr.cell? ⟨b, o + j * 3, none⟩ = some (.int .i64 ia) := hc 0 _ rfl
        have c1 : wr.cell? ⟨b, o + j * 3 + 1, none⟩ = some (.slice ba bn bc) := hc 1 _ rfl
        have c2 : wr.cell? ⟨b, o + j * 3 + 2, none⟩ = some (.bool pa) := hc 2 _ rfl
        have hji : (j : Int) < qs.length := by omega
        have hji2 : (j : Int) < rs.length := by omega
        have hzz := H.size
        have n1 : (b = wr.heap.size) = False := eq_false (by omega)
        have n2 : (wr.heap.size = b) = False := eq_false (by omega)
        clear hc hzz
        go_upto_region 6 with fail
        clear c0 c1 c2 n1 n2
        generalize hwb : wr.alloc _ = w1
        replace H := HS.eqW hwb H.alloc
        try simp only [World.size_alloc, List.nil_append, List.cons_append, List.append_assoc] at H
        clear hwb
        generalize wr.heap.size = b8 at H ⊢
        try clear C
        try clear wr
        have C := H.cells
        try simp only [cellsOf, cellsM, apartOf, apartM, and_true] at C
        obtain ⟨hcr, hbr⟩ := HLR.out _ (H.liesUp HY.out)
        have d0 : w1.cell? ⟨b2, o2 + j * 3, none⟩ = some (.int .i64 ib) := hcr 0 _ rfl
        have d1 : w1.cell? ⟨b2, o2 + j * 3 + 1, none⟩ = some (.slice ca cn cc) := hcr 1 _ rfl
        have d2 : w1.cell? ⟨b2, o2 + j * 3 + 2, none⟩ = some (.bool pb) := hcr 2 _ rfl
        have m1 : (b2 = w1.heap.size) = False := eq_false (by omega)
        have m2 : (w1.heap.size = b2) = False := eq_false (by omega)
        clear hcr
        go_upto_region 7 with fail
        clear d0 d1 d2 m1 m2
        generalize hwb : w1.alloc _ = w2
        replace H := HS.eqW hwb H.alloc
        try simp only [World.size_alloc, List.nil_append, List.cons_append, List.append_assoc] at H
        clear hwb
        generalize w1.heap.size = b9 at H ⊢
        try clear C
        try clear w1
        have C := H.cells
        try simp only [cellsOf, cellsM, apartOf, apartM, and_true] at C
        go_wp2_with fail
        refine (HSW.out _ (HBJ.out.up H.done) (HBK.out.up H.done)).mono ?_
        rintro _ w3 ⟨rfl, hb⟩
        replace H := H.below hb
        clear hb
        try clear C
        try simp only [World.size_alloc, List.nil_append, List.cons_append, List.append_assoc] at H
        try clear w2
        have C := H.cells
        try simp only [cellsOf, cellsM, apartOf, apartM, and_true] at C
        dsimp only
        clear HSW
        skip
        by_cases hab : (⟨ia, az, pa⟩ : Wm) = ⟨ib, bs, pb⟩
        · have HEQ := Lib.hid (HST.out hab)
          rw [decide_eq_true hab]
          clear hab
          go_wp2_with fail
          go_roundw
          case rel => exact ⟨j + 1, by go_num, HJ.out, (show Hid _ from HEQ.out), HS.less H (List.nil_sublist _)⟩
          case measure => simp [intOf]; have := HJ.out; omega
        · have HDF := Lib.hid (HNE.out hab)
          rw [decide_eq_false hab]
          clear hab
          skip
          go_wp2_with fail
          go_ret
          exact ⟨by rw [decide_eq_false HDF.out]; first | rfl | go_simp, H.done⟩
      · obtain rfl : j = qs.length := by omega
        have HEQ := Lib.hid (show qs.map Prod.fst = rs.map Prod.fst by
          have := HT.out
          rw [List.take_of_length_le (by rw [List.length_map]; exact Nat.le_refl _), List.take_of_length_le (by rw [List.length_map, HLE.out]; exact Nat.le_refl _)] at this
          exact this)
        skip
        go_wp2_with fail
        go_ret
        exact ⟨by rw [decide_eq_true HEQ.out]; first | rfl | go_simp, H.done⟩
  · have hli : ¬ (qs.length : Int) = rs.length := by omega
    have hlb : ((qs.length : Int) != rs.length) = true := bne_iff_ne.2 hli
    have HDF := Lib.hid (show qs.map Prod.fst ≠ rs.map Prod.fst from fun e => hl (by have := congrArg List.length e; simpa using this))
    clear hl
    go_enter Tryd.func89, Tryd.ntmps89
    have H := HS.start NoD w
    go_wp2_with fail
    go_ret
    exact ⟨by rw [decide_eq_false HDF.out]; first | rfl | go_simp, H.done⟩
set_option maxHeartbeats 8000000 in
theorem equalCf {xa ya : Option Addr} (xc yc : Nat) {fs gs : List Fa} (hq : fs.length ≤ 9223372036854775807) (hr : gs.length ≤ 9223372036854775807) (w : World)
    (hx : Lies w w.heap.size xa 11 fs.length (fun j => cfC fs[j]!)) (hy : Lies w w.heap.size ya 11 gs.length (fun j => cfC gs[j]!)) :
    Calls Tryd.prog 90 #[.slice xa fs.length xc, .slice ya gs.length yc] w (Gives (.bool (decide (fs = gs))) w) := by
  have HX := Lib.hid hx
  have HY := Lib.hid hy
  clear hx hy
  by_cases hl : fs.length = gs.length
  · have hli : (fs.length : Int) = gs.length := by omega
    have hlb : ((fs.length : Int) != gs.length) = false := by rw [hli]; simp
    have HLE := Lib.hid hl
    clear hl
    go_enter Tryd.func90, Tryd.ntmps90
    have H := HS.start NoD w
    go_wp2_with fail
    clear hlb
    go_loopw [13] (fun i wr => ∃ (j : Nat), i = .int .i64 j ∧ j ≤ fs.length ∧ Hid (fs.take j = gs.take j) ∧ HS NoD w [] wr) (fun i _ => fs.length - (intOf i).toNat)
    case atStart => exact ⟨0, rfl, Nat.zero_le _, (show Hid _ from rfl), H⟩
    case round =>
      clear H
      obtain ⟨j, rfl, hj, HT, H⟩ := hrel
      skip
      by_cases hlt : j < fs.length
      · have hlt2 : j < gs.length := by have := HLE.out; omega
        have HJ := Lib.hid hlt
        obtain ⟨b, o, rfl, hb, hc⟩ := (H.lies HX.out).at hlt
        obtain ⟨b2, o2, rfl, hb2, hc2⟩ := (H.lies HY.out).at hlt2
        have HNE := Lib.hid (show ¬ fs[j]! = gs[j]! → fs ≠ gs from fun he e => he (by rw [e]))
        have HST := Lib.hid (show fs[j]! = gs[j]! → fs.take (j + 1) = gs.take (j + 1) from fun he => take_stepG hlt hlt2 HT.out he)
        have HLF := Lib.hid (fun (wx : World) (hx : Lies wx wx.heap.size (some ⟨b, o, none⟩) 11 fs.length (fun j => cfC fs[j]!)) => show (∀ i v, (cfC fs[j]!)[i]? = some v → wx.cell? ⟨b, o + j * 11 + i, none⟩ = some v) ∧ b < wx.heap.size from by
          obtain ⟨b9, o9, e9, hb9, h9⟩ := hx.at hlt
          cases e9
          exact ⟨h9, hb9⟩)
        have HLG := Lib.hid (fun (wx : World) (hx : Lies wx wx.heap.size (some ⟨b2, o2, none⟩) 11 gs.length (fun j => cfC gs[j]!)) => show (∀ i v, (cfC gs[j]!)[i]? = some v → wx.cell? ⟨b2, o2 + j * 11 + i, none⟩ = some v) ∧ b2 < wx.heap.size from by
          obtain ⟨b9, o9, e9, hb9, h9⟩ := hx.at hlt2
          cases e9
          exact ⟨h9, hb9⟩)
        clear hc hc2
        have hji : (j : Int) < fs.length := by omega
        have hji2 : (j : Int) < gs.length := by omega
        generalize fs[j]! = f at HNE HST HLF
        generalize gs[j]! = g at HNE HST HLG
        have hne := fun w => neqF f g w
        obtain ⟨k, p0, p1, p2, p3, p4, p5, ch, ms, vl, hd⟩ := f
        obtain ⟨k', p0', p1', p2', p3', p4', p5', ch', ms', vl', hd'⟩ := g
        simp only [cfC] at hne
        go_upto_region 6 with fail
        skip
        by_cases hfg : (⟨k, p0, p1, p2, p3, p4, p5, ch, ms, vl, hd⟩ : Fa) = ⟨k', p0', p1', p2', p3', p4', p5', ch', ms', vl', hd'⟩
        · have HEQ := Lib.hid (HST.out hfg)
          rw [decide_eq_true hfg] at hne
          clear hfg HNE HST
          refine wp_region_xH (by kernel_rfl) (by kernel_rfl) (by kernel_rfl) (by kernel_rfl) (fun _ => False) (H) ?_
          clear H; intro w1 H hz0 hs0
          try clear C
          try simp only [World.size_alloc, List.nil_append, List.cons_append, List.append_assoc] at H hz0
          clear hz0
          try clear wr
          have C := H.cells
          try simp only [cellsOf, cellsM, apartOf, apartM, and_true] at C
          have Z := H.zs
          try simp only [ltsOf, ltsM, and_true] at Z
          have hz0 := Nat.le_refl w1.heap.size
          obtain ⟨hcq, hbq⟩ := HLF.out _ (H.liesUp HX.out)
          obtain ⟨hcr, hbr⟩ := HLG.out _ (H.liesUp HY.out)
          have c0 : w1.cell? ⟨b, o + j * 11, none⟩ = some (.int .i64 k) := hcq 0 _ rfl
          have c1 : w1.cell? ⟨b, o + j * 11 + 1, none⟩ = some (.int .i64 p0) := hcq 1 _ rfl
          have c2 : w1.cell? ⟨b, o + j * 11 + 2, none⟩ = some (.int .i64 p1) := hcq 2 _ rfl
          have c3 : w1.cell? ⟨b, o + j * 11 + 3, none⟩ = some (.int .i64 p2) := hcq 3 _ rfl
          have c4 : w1.cell? ⟨b, o + j * 11 + 4, none⟩ = some (.int .i64 p3) := hcq 4 _ rfl
          have c5 : w1.cell? ⟨b, o + j * 11 + 5, none⟩ = some (.int .i64 p4) := hcq 5 _ rfl
          have c6 : w1.cell? ⟨b, o + j * 11 + 6, none⟩ = some (.int .i64 p5) := hcq 6 _ rfl
          have c7 : w1.cell? ⟨b, o + j * 11 + 7, none⟩ = some (.int .i64 ch) := hcq 7 _ rfl
          have c8 : w1.cell? ⟨b, o + j * 11 + 8, none⟩ = some (.int .u8 ms) := hcq 8 _ rfl
          have c9 : w1.cell? ⟨b, o + j * 11 + 9, none⟩ = some (.int .u8 vl) := hcq 9 _ rfl
          have c10 : w1.cell? ⟨b, o + j * 11 + 10, none⟩ = some (.bool hd) := hcq 10 _ rfl
          have d0 : w1.cell? ⟨b2, o2 + j * 11, none⟩ = some (.int .i64 k') := hcr 0 _ rfl
          have d1 : w1.cell? ⟨b2, o2 + j * 11 + 1, none⟩ = some (.int .i64 p0') := hcr 1 _ rfl
          have d2 : w1.cell? ⟨b2, o2 + j * 11 + 2, none⟩ = some (.int .i64 p1') := hcr 2 _ rfl
          have d3 : w1.cell? ⟨b2, o2 + j * 11 + 3, none⟩ = some (.int .i64 p2') := hcr 3 _ rfl
          have d4 : w1.cell? ⟨b2, o2 + j * 11 + 4, none⟩ = some (.int .i64 p3') := hcr 4 _ rfl
          have d5 : w1.cell? ⟨b2, o2 + j * 11 + 5, none⟩ = some (.int .i64 p4') := hcr 5 _ rfl
          have d6 : w1.cell? ⟨b2, o2 + j * 11 + 6, none⟩ = some (.int .i64 p5') := hcr 6 _ rfl
          have d7 : w1.cell? ⟨b2, o2 + j * 11 + 7, none⟩ = some (.int .i64 ch') := hcr 7 _ rfl
          have d8 : w1.cell? ⟨b2, o2 + j * 11 + 8, none⟩ = some (.int .u8 ms') := hcr 8 _ rfl
          have d9 : w1.cell? ⟨b2, o2 + j * 11 + 9, none⟩ = some (.int .u8 vl') := hcr 9 _ rfl
          have d10 : w1.cell? ⟨b2, o2 + j * 11 + 10, none⟩ = some (.bool hd') := hcr 10 _ rfl
          clear hcq hcr
          repeat (first | (refine wpX_skip rfl ?_; go_simp) | (refine wpX_free rfl rfl rfl (fun K hK => ?_); go_step; refine hK _ _ ?_; clear hK K) | (refine wpX_load rfl rfl rfl (by simp [Stay, OneD, NoD, *]) hs0 (by simp [*]) (fun K hK => ?_); go_step; refine hK _ _ ?_; clear hK K))
          (refine wpX_yield rfl rfl ((.bool false)) (fun w hw => by go_simp) ?_; go_simp)
          repeat (first | (refine wpX_skip rfl ?_; go_simp) | (refine wpX_free rfl rfl rfl (fun K hK => ?_); go_step; refine hK _ _ ?_; clear hK K) | (refine wpX_load rfl rfl rfl (by simp [Stay, OneD, NoD, *]) hs0 (by simp [*]) (fun K hK => ?_); go_step; refine hK _ _ ?_; clear hK K))
          (refine wpX_nil ?_; go_step)
          go_wp2_with fail
          go_roundw
          case rel => exact ⟨j + 1, by go_num, HJ.out, (show Hid _ from HEQ.out), H⟩
          case measure => simp [intOf]; have := HJ.out; omega
        · skip
          have HEQ := Lib.hid (HNE.out hfg)
          rw [decide_eq_false hfg] at hne
          clear hfg HNE HST
          refine wp_region_xH (by kernel_rfl) (by kernel_rfl) (by kernel_rfl) (by kernel_rfl) (fun _ => False) (H) ?_
          clear H; intro w2 H hz0 hs0
          try clear C
          try simp only [World.size_alloc, List.nil_append, List.cons_append, List.append_assoc] at H hz0
          clear hz0
          try clear wr
          have C := H.cells
          try simp only [cellsOf, cellsM, apartOf, apartM, and_true] at C
          have Z := H.zs
          try simp only [ltsOf, ltsM, and_true] at Z
          have hz0 := Nat.le_refl w2.heap.size
          obtain ⟨hcq, hbq⟩ := HLF.out _ (H.liesUp HX.out)
          obtain ⟨hcr, hbr⟩ := HLG.out _ (H.liesUp HY.out)
          have c0 : w2.cell? ⟨b, o + j * 11, none⟩ = some (.int .i64 k) := hcq 0 _ rfl
          have c1 : w2.cell? ⟨b, o + j * 11 + 1, none⟩ = some (.int .i64 p0) := hcq 1 _ rfl
          have c2 : w2.cell? ⟨b, o + j * 11 + 2, none⟩ = some (.int .i64 p1) := hcq 2 _ rfl
          have c3 : w2.cell? ⟨b, o + j * 11 + 3, none⟩ = some (.int .i64 p2) := hcq 3 _ rfl
          have c4 : w2.cell? ⟨b, o + j * 11 + 4, none⟩ = some (.int .i64 p3) := hcq 4 _ rfl
          have c5 : w2.cell? ⟨b, o + j * 11 + 5, none⟩ = some (.int .i64 p4) := hcq 5 _ rfl
          have c6 : w2.cell? ⟨b, o + j * 11 + 6, none⟩ = some (.int .i64 p5) := hcq 6 _ rfl
          have c7 : w2.cell? ⟨b, o + j * 11 + 7, none⟩ = some (.int .i64 ch) := hcq 7 _ rfl
          have c8 : w2.cell? ⟨b, o + j * 11 + 8, none⟩ = some (.int .u8 ms) := hcq 8 _ rfl
          have c9 : w2.cell? ⟨b, o + j * 11 + 9, none⟩ = some (.int .u8 vl) := hcq 9 _ rfl
          have c10 : w2.cell? ⟨b, o + j * 11 + 10, none⟩ = some (.bool hd) := hcq 10 _ rfl
          have d0 : w2.cell? ⟨b2, o2 + j * 11, none⟩ = some (.int .i64 k') := hcr 0 _ rfl
          have d1 : w2.cell? ⟨b2, o2 + j * 11 + 1, none⟩ = some (.int .i64 p0') := hcr 1 _ rfl
          have d2 : w2.cell? ⟨b2, o2 + j * 11 + 2, none⟩ = some (.int .i64 p1') := hcr 2 _ rfl
          have d3 : w2.cell? ⟨b2, o2 + j * 11 + 3, none⟩ = some (.int .i64 p2') := hcr 3 _ rfl
          have d4 : w2.cell? ⟨b2, o2 + j * 11 + 4, none⟩ = some (.int .i64 p3') := hcr 4 _ rfl
          have d5 : w2.cell? ⟨b2, o2 + j * 11 + 5, none⟩ = some (.int .i64 p4') := hcr 5 _ rfl
          have d6 : w2.cell? ⟨b2, o2 + j * 11 + 6, none⟩ = some (.int .i64 p5') := hcr 6 _ rfl
          have d7 : w2.cell? ⟨b2, o2 + j * 11 + 7, none⟩ = some (.int .i64 ch') := hcr 7 _ rfl
          have d8 : w2.cell? ⟨b2, o2 + j * 11 + 8, none⟩ = some (.int .u8 ms') := hcr 8 _ rfl
          have d9 : w2.cell? ⟨b2, o2 + j * 11 + 9, none⟩ = some (.int .u8 vl') := hcr 9 _ rfl
          have d10 : w2.cell? ⟨b2, o2 + j * 11 + 10, none⟩ = some (.bool hd') := hcr 10 _ rfl
          clear hcq hcr
          repeat (first | (refine wpX_skip rfl ?_; go_simp) | (refine wpX_free rfl rfl rfl (fun K hK => ?_); go_step; refine hK _ _ ?_; clear hK K) | (refine wpX_load rfl rfl rfl (by simp [Stay, OneD, NoD, *]) hs0 (by simp [*]) (fun K hK => ?_); go_step; refine hK _ _ ?_; clear hK K))
          (refine wpX_yield rfl rfl ((.bool true)) (fun w hw => by go_simp) ?_; go_simp)
          repeat (first | (refine wpX_skip rfl ?_; go_simp) | (refine wpX_free rfl rfl rfl (fun K hK => ?_); go_step; refine hK _ _ ?_; clear hK K) | (refine wpX_load rfl rfl rfl (by simp [Stay, OneD, NoD, *]) hs0 (by simp [*]) (fun K hK => ?_); go_step; refine hK _ _ ?_; clear hK K))
          (refine wpX_nil ?_; go_step)
          go_wp2_with fail
          go_ret
          exact ⟨by rw [decide_eq_false HEQ.out]; first | rfl | go_simp, H.done⟩
      · obtain rfl : j = fs.length := by omega
        skip
        go_wp2_with fail
        go_ret
        exact ⟨by have := HT.out; rw [List.take_length, HLE.out, List.take_length] at this; rw [decide_eq_true this]; first | rfl | go_simp, H.done⟩
  · have hli : ¬ (fs.length : Int) = gs.length := by omega
    have hlb : ((fs.length : Int) != gs.length) = true := bne_iff_ne.2 hli
    have HDF := Lib.hid (show fs ≠ gs from fun e => hl (by rw [e]))
    clear hl
    go_enter Tryd.func90, Tryd.ntmps90
    have H := HS.start NoD w
    go_wp2_with fail
    go_ret
    exact ⟨by rw [decide_eq_false HDF.out]; first | rfl | go_simp, H.done⟩
set_option maxHeartbeats 8000000 in
theorem csame_any (A B : Mm) (x y u v : Sv) (hA : LongM A) (hB : LongM B) (w : World) (ha : MeAt w x y A) (hb : MeAt w u v B) : Calls Tryd.prog 68 #[meV A x y, meV B u v] w (Gives (.bool (decide (A = B))) w) := by
  obtain ⟨s0, s1, s2, s3, s4, s5, kd, dt, ck, fx, ws, fs⟩ := A
  obtain ⟨t0, t1, t2, t3, t4, t5, ke, du, cl, fy, vs, gs⟩ := B
  obtain ⟨xa, xn, xc⟩ := x
  obtain ⟨ya, yn, yc⟩ := y
  obtain ⟨ua, un, uc⟩ := u
  obtain ⟨va, vn, vc⟩ := v
  obtain ⟨⟨qs, rfl, hn1, -, hl1, hk1⟩, hn2, -, hl2⟩ := ha
  obtain ⟨⟨rs, rfl, hn3, -, hl3, hk3⟩, hn4, -, hl4⟩ := hb
  dsimp only at hn1 hn2 hn3 hn4 hl1 hl2 hl3 hl4
  subst hn1 hn2 hn3 hn4
  obtain ⟨a1, a2, a3⟩ := hA
  obtain ⟨b1, b2, b3⟩ := hB
  dsimp only at a1 a2 a3 b1 b2 b3
  rw [List.length_map] at a1 b1
  have HL1 := Lib.hid hl1
  have HL2 := Lib.hid hl2
  have HL3 := Lib.hid hl3
  have HL4 := Lib.hid hl4
  have HK1 := Lib.hid hk1
  have HK3 := Lib.hid hk3
  have HEW := Lib.hid (fun wx h1 h2 h3 h4 => equalCw (xa := xa) (ya := ua) xc uc (qs := qs) (rs := rs) a1 b1 (fun q hq => a3 _ (List.mem_map.2 ⟨q, hq, rfl⟩)) (fun q hq => b3 _ (List.mem_map.2 ⟨q, hq, rfl⟩)) wx h1 h2 h3 h4)
  have HEF := Lib.hid (fun wx h1 h2 => equalCf (xa := ya) (ya := va) yc vc (fs := fs) (gs := gs) a2 b2 wx h1 h2)
  clear hl1 hl2 hl3 hl4 hk1 hk3 a3 b3 a1 b1 a2 b2
  show Calls Tryd.prog 68 #[.agg #[.int .i64 s0, .int .i64 s1, .int .i64 s2, .int .i64 s3, .int .i64 s4, .int .i64 s5, .int .i64 kd, .int .i64 dt, .int .i64 ck, .int .i64 fx, .slice xa qs.length xc, .slice ya fs.length yc], .agg #[.int .i64 t0, .int .i64 t1, .int .i64 t2, .int .i64 t3, .int .i64 t4, .int .i64 t5, .int .i64 ke, .int .i64 du, .int .i64 cl, .int .i64 fy, .slice ua rs.length uc, .slice va gs.length vc]] w _
  obtain ⟨r9, hr9⟩ : ∃ r, r = decide ((⟨s0, s1, s2, s3, s4, s5, kd, dt, ck, fx, qs.map Prod.fst, fs⟩ : Mm) = ⟨t0, t1, t2, t3, t4, t5, ke, du, cl, fy, rs.map Prod.fst, gs⟩) := ⟨_, rfl⟩
  rw [← hr9]
  have HR9 := Lib.hid hr9
  clear hr9
  have hqs := fun w => eqlSh s0 s1 s2 s3 s4 s5 t0 t1 t2 t3 t4 t5 w
  have hqc := fun w => eqlCo kd dt ck fx ke du cl fy w
  by_cases hs : s0 = t0 ∧ s1 = t1 ∧ s2 = t2 ∧ s3 = t3 ∧ s4 = t4 ∧ s5 = t5
  · rw [decide_eq_true hs] at hqs
    by_cases hc : kd = ke ∧ dt = du ∧ ck = cl ∧ fx = fy
    · rw [decide_eq_true hc] at hqc
      obtain ⟨rfl, rfl, rfl, rfl, rfl, rfl⟩ := hs
      obtain ⟨rfl, rfl, rfl, rfl⟩ := hc
      by_cases hw : qs.map Prod.fst = rs.map Prod.fst
      · rw [decide_eq_true hw] at HEW
        have HD := Lib.hid (show r9 = decide (fs = gs) by rw [HR9.out, hw]; simp)
        clear hw HR9
        go_enter Tryd.func68, Tryd.ntmps68
        have H := HS.start NoD w
        go_upto_region 1 with fail
        generalize hwb : (w.alloc _).alloc _ = w1
        replace H := HS.eqW hwb H.alloc.alloc
        try simp only [World.size_alloc, List.nil_append, List.cons_append, List.append_assoc] at H
        clear hwb
        generalize w.heap.size + 1 = bB at H ⊢
        generalize w.heap.size = bA at H ⊢
        try clear C
        have C := H.cells
        try simp only [cellsOf, cellsM, apartOf, apartM, and_true] at C
        go_wp2_with fail
        refine (HEW.out _ (H.liesUp HL1.out) (fun q hq => (HK1.out q hq).up H.done) (H.liesUp HL3.out) (fun q hq => (HK3.out q hq).up H.done)).mono ?_
        rintro _ w2 ⟨rfl, hb⟩
        replace H := H.below hb
        clear hb
        try clear C
        try simp only [World.size_alloc, List.nil_append, List.cons_append, List.append_assoc] at H
        try clear w1
        have C := H.cells
        try simp only [cellsOf, cellsM, apartOf, apartM, and_true] at C
        dsimp only
        clear HEW
        go_wp2_with fail
        refine (HEF.out _ (H.liesUp HL2.out) (H.liesUp HL4.out)).mono ?_
        rintro _ w3 ⟨rfl, hb⟩
        replace H := H.below hb
        clear hb
        try clear C
        try simp only [World.size_alloc, List.nil_append, List.cons_append, List.append_assoc] at H
        try clear w2
        have C := H.cells
        try simp only [cellsOf, cellsM, apartOf, apartM, and_true] at C
        dsimp only
        clear HEF
        rw [← HD.out]
        go_wp2_with fail
        go_ret
        exact ⟨rfl, H.done⟩
      · rw [decide_eq_false hw] at HEW
        obtain rfl : r9 = false := by rw [HR9.out]; simp [hw]
        clear hw HR9
        go_enter Tryd.func68, Tryd.ntmps68
        have H := HS.start NoD w
        go_upto_region 1 with fail
        generalize hwb : (w.alloc _).alloc _ = w1
        replace H := HS.eqW hwb H.alloc.alloc
        try simp only [World.size_alloc, List.nil_append, List.cons_append, List.append_assoc] at H
        clear hwb
        generalize w.heap.size + 1 = bB at H ⊢
        generalize w.heap.size = bA at H ⊢
        try clear C
        have C := H.cells
        try simp only [cellsOf, cellsM, apartOf, apartM, and_true] at C
        go_wp2_with fail
        refine (HEW.out _ (H.liesUp HL1.out) (fun q hq => (HK1.out q hq).up H.done) (H.liesUp HL3.out) (fun q hq => (HK3.out q hq).up H.done)).mono ?_
        rintro _ w2 ⟨rfl, hb⟩
        replace H := H.below hb
        clear hb
        try clear C
        try simp only [World.size_alloc, List.nil_append, List.cons_append, List.append_assoc] at H
        try clear w1
        have C := H.cells
        try simp only [cellsOf, cellsM, apartOf, apartM, and_true] at C
        dsimp only
        clear HEW
        go_wp2_with fail
        go_ret
        exact ⟨by first | rfl | go_simp, H.done⟩
    · rw [decide_eq_false hc] at hqc
      obtain rfl : r9 = false := by rw [HR9.out]; refine decide_eq_false fun e => hc ?_; injection e with e0 e1 e2 e3 e4 e5 e6 e7 e8 e9; exact ⟨e6, e7, e8, e9⟩
      clear hs hc HR9
      go_enter Tryd.func68, Tryd.ntmps68
      have H := HS.start NoD w
      go_upto_region 1 with fail
      generalize hwb : (w.alloc _).alloc _ = w1
      replace H := HS.eqW hwb H.alloc.alloc
      try simp only [World.size_alloc, List.nil_append, List.cons_append, List.append_assoc] at H
      clear hwb
      generalize w.heap.size + 1 = bB at H ⊢
      generalize w.heap.size = bA at H ⊢
      try clear C
      have C := H.cells
      try simp only [cellsOf, cellsM, apartOf, apartM, and_true] at C
      go_wp2_with fail
      go_ret
      exact ⟨by first | rfl | go_simp, H.done⟩
  · rw [decide_eq_false hs] at hqs
    obtain rfl : r9 = false := by rw [HR9.out]; refine decide_eq_false fun e => hs ?_; injection e with e0 e1 e2 e3 e4 e5 e6 e7 e8 e9; exact ⟨e0, e1, e2, e3, e4, e5⟩
    clear hs HR9
    go_enter Tryd.func68, Tryd.ntmps68
    have H := HS.start NoD w
    go_upto_region 1 with fail
    generalize hwb : (w.alloc _).alloc _ = w1
    replace H := HS.eqW hwb H.alloc.alloc
    try simp only [World.size_alloc, List.nil_append, List.cons_append, List.append_assoc] at H
    clear hwb
    generalize w.heap.size + 1 = bB at H ⊢
    generalize w.heap.size = bA at H ⊢
    try clear C
    have C := H.cells
    try simp only [cellsOf, cellsM, apartOf, apartM, and_true] at C
    go_wp2_with fail
    go_ret
    exact ⟨by first | rfl | go_simp, H.done⟩
end Go.Proofs.YtplflpmkomeadaaDoor
