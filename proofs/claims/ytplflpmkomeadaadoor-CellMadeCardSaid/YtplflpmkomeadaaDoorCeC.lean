/- Chapter 13's reference: SameWord and Same: whether two words, two memories are one. -/
import Derived.Test.YtplflpmkomeadaaDoorCeB
namespace Go.Proofs.YtplflpmkomeadaaDoor
set_option linter.unusedSimpArgs false
set_option linter.unusedVariables false
open Go.RowKit
set_option maxRecDepth 100000
attribute [local irreducible] wpX wpF Calls

set_option maxHeartbeats 2000000 in
theorem neqSh (a0 a1 a2 a3 a4 a5 a0' a1' a2' a3' a4' a5' : Int) (w : World) : (binOp .neq 28 (.agg #[.int .i64 a0, .int .i64 a1, .int .i64 a2, .int .i64 a3, .int .i64 a4, .int .i64 a5]) (.agg #[.int .i64 a0', .int .i64 a1', .int .i64 a2', .int .i64 a3', .int .i64 a4', .int .i64 a5'])).run Tryd.prog w = .ok (.bool (!decide (a0 = a0' ∧ a1 = a1' ∧ a2 = a2' ∧ a3 = a3' ∧ a4 = a4' ∧ a5 = a5'))) w := by
  by_cases h0 : a0 = a0'
  · skip
    by_cases h1 : a1 = a1'
    · skip
      by_cases h2 : a2 = a2'
      · skip
        by_cases h3 : a3 = a3'
        · skip
          by_cases h4 : a4 = a4'
          · skip
            by_cases h5 : a5 = a5'
            · skip
              subst h0 h1 h2 h3 h4 h5; go_simp
            · go_simp
          · go_simp
        · go_simp
      · go_simp
    · go_simp
  · go_simp
set_option maxHeartbeats 2000000 in
theorem neqCo (kd dt ck fx kd' dt' ck' fx' : Int) (w : World) : (binOp .neq 30 (.agg #[.int .i64 kd, .int .i64 dt, .int .i64 ck, .int .i64 fx]) (.agg #[.int .i64 kd', .int .i64 dt', .int .i64 ck', .int .i64 fx'])).run Tryd.prog w = .ok (.bool (!decide (kd = kd' ∧ dt = dt' ∧ ck = ck' ∧ fx = fx'))) w := by
  by_cases h0 : kd = kd'
  · skip
    by_cases h1 : dt = dt'
    · skip
      by_cases h2 : ck = ck'
      · skip
        by_cases h3 : fx = fx'
        · skip
          subst h0 h1 h2 h3; go_simp
        · go_simp
      · go_simp
    · go_simp
  · go_simp
set_option maxHeartbeats 2000000 in
theorem eqlSh (a0 a1 a2 a3 a4 a5 a0' a1' a2' a3' a4' a5' : Int) (w : World) : (binOp .eql 28 (.agg #[.int .i64 a0, .int .i64 a1, .int .i64 a2, .int .i64 a3, .int .i64 a4, .int .i64 a5]) (.agg #[.int .i64 a0', .int .i64 a1', .int .i64 a2', .int .i64 a3', .int .i64 a4', .int .i64 a5'])).run Tryd.prog w = .ok (.bool (decide (a0 = a0' ∧ a1 = a1' ∧ a2 = a2' ∧ a3 = a3' ∧ a4 = a4' ∧ a5 = a5'))) w := by
  by_cases h0 : a0 = a0'
  · skip
    by_cases h1 : a1 = a1'
    · skip
      by_cases h2 : a2 = a2'
      · skip
        by_cases h3 : a3 = a3'
        · skip
          by_cases h4 : a4 = a4'
          · skip
            by_cases h5 : a5 = a5'
            · skip
              subst h0 h1 h2 h3 h4 h5; go_simp
            · go_simp
          · go_simp
        · go_simp
      · go_simp
    · go_simp
  · go_simp
set_option maxHeartbeats 2000000 in
theorem eqlCo (kd dt ck fx kd' dt' ck' fx' : Int) (w : World) : (binOp .eql 30 (.agg #[.int .i64 kd, .int .i64 dt, .int .i64 ck, .int .i64 fx]) (.agg #[.int .i64 kd', .int .i64 dt', .int .i64 ck', .int .i64 fx'])).run Tryd.prog w = .ok (.bool (decide (kd = kd' ∧ dt = dt' ∧ ck = ck' ∧ fx = fx'))) w := by
  by_cases h0 : kd = kd'
  · skip
    by_cases h1 : dt = dt'
    · skip
      by_cases h2 : ck = ck'
      · skip
        by_cases h3 : fx = fx'
        · skip
          subst h0 h1 h2 h3; go_simp
        · go_simp
      · go_simp
    · go_simp
  · go_simp
set_option maxHeartbeats 2000000 in
theorem neqFa (k p0 p1 p2 p3 p4 p5 ch ms vl k' p0' p1' p2' p3' p4' p5' ch' ms' vl' : Int) (hd hd' : Bool) (w : World) : (binOp .neq 38 (.agg #[.int .i64 k, .int .i64 p0, .int .i64 p1, .int .i64 p2, .int .i64 p3, .int .i64 p4, .int .i64 p5, .int .i64 ch, .int .u8 ms, .int .u8 vl, .bool hd]) (.agg #[.int .i64 k', .int .i64 p0', .int .i64 p1', .int .i64 p2', .int .i64 p3', .int .i64 p4', .int .i64 p5', .int .i64 ch', .int .u8 ms', .int .u8 vl', .bool hd'])).run Tryd.prog w = .ok (.bool (!decide (k = k' ∧ p0 = p0' ∧ p1 = p1' ∧ p2 = p2' ∧ p3 = p3' ∧ p4 = p4' ∧ p5 = p5' ∧ ch = ch' ∧ ms = ms' ∧ vl = vl' ∧ hd = hd'))) w := by
  by_cases h0 : k = k'
  · skip
    by_cases h1 : p0 = p0'
    · skip
      by_cases h2 : p1 = p1'
      · skip
        by_cases h3 : p2 = p2'
        · skip
          by_cases h4 : p3 = p3'
          · skip
            by_cases h5 : p4 = p4'
            · skip
              by_cases h6 : p5 = p5'
              · skip
                by_cases h7 : ch = ch'
                · skip
                  by_cases h8 : ms = ms'
                  · skip
                    by_cases h9 : vl = vl'
                    · skip
                      by_cases h10 : hd = hd'
                      · skip
                        subst h0 h1 h2 h3 h4 h5 h6 h7 h8 h9 h10; go_simp
                      · go_simp
                    · go_simp
                  · go_simp
                · go_simp
              · go_simp
            · go_simp
          · go_simp
        · go_simp
      · go_simp
    · go_simp
  · go_simp
set_option maxHeartbeats 2000000 in
theorem eqlFa (k p0 p1 p2 p3 p4 p5 ch ms vl k' p0' p1' p2' p3' p4' p5' ch' ms' vl' : Int) (hd hd' : Bool) (w : World) : (binOp .eql 38 (.agg #[.int .i64 k, .int .i64 p0, .int .i64 p1, .int .i64 p2, .int .i64 p3, .int .i64 p4, .int .i64 p5, .int .i64 ch, .int .u8 ms, .int .u8 vl, .bool hd]) (.agg #[.int .i64 k', .int .i64 p0', .int .i64 p1', .int .i64 p2', .int .i64 p3', .int .i64 p4', .int .i64 p5', .int .i64 ch', .int .u8 ms', .int .u8 vl', .bool hd'])).run Tryd.prog w = .ok (.bool (decide (k = k' ∧ p0 = p0' ∧ p1 = p1' ∧ p2 = p2' ∧ p3 = p3' ∧ p4 = p4' ∧ p5 = p5' ∧ ch = ch' ∧ ms = ms' ∧ vl = vl' ∧ hd = hd'))) w := by
  by_cases h0 : k = k'
  · skip
    by_cases h1 : p0 = p0'
    · skip
      by_cases h2 : p1 = p1'
      · skip
        by_cases h3 : p2 = p2'
        · skip
          by_cases h4 : p3 = p3'
          · skip
            by_cases h5 : p4 = p4'
            · skip
              by_cases h6 : p5 = p5'
              · skip
                by_cases h7 : ch = ch'
                · skip
                  by_cases h8 : ms = ms'
                  · skip
                    by_cases h9 : vl = vl'
                    · skip
                      by_cases h10 : hd = hd'
                      · skip
                        subst h0 h1 h2 h3 h4 h5 h6 h7 h8 h9 h10; go_simp
                      · go_simp
                    · go_simp
                  · go_simp
                · go_simp
              · go_simp
            · go_simp
          · go_simp
        · go_simp
      · go_simp
    · go_simp
  · go_simp
theorem neqF (f g : Fa) (w : World) : (binOp .neq 38 (.agg (cfC f).toArray) (.agg (cfC g).toArray)).run Tryd.prog w = .ok (.bool (!decide (f = g))) w := by
  obtain ⟨k, p0, p1, p2, p3, p4, p5, ch, ms, vl, hd⟩ := f
  obtain ⟨k', p0', p1', p2', p3', p4', p5', ch', ms', vl', hd'⟩ := g
  refine (neqFa k p0 p1 p2 p3 p4 p5 ch ms vl k' p0' p1' p2' p3' p4' p5' ch' ms' vl' hd hd' w).trans ?_
  rw [show decide ((⟨k, p0, p1, p2, p3, p4, p5, ch, ms, vl, hd⟩ : Fa) = ⟨k', p0', p1', p2', p3', p4', p5', ch', ms', vl', hd'⟩) = decide (k = k' ∧ p0 = p0' ∧ p1 = p1' ∧ p2 = p2' ∧ p3 = p3' ∧ p4 = p4' ∧ p5 = p5' ∧ ch = ch' ∧ ms = ms' ∧ vl = vl' ∧ hd = hd') by simp only [Fa.mk.injEq]]
theorem eqlF (f g : Fa) (w : World) : (binOp .eql 38 (.agg (cfC f).toArray) (.agg (cfC g).toArray)).run Tryd.prog w = .ok (.bool (decide (f = g))) w := by
  obtain ⟨k, p0, p1, p2, p3, p4, p5, ch, ms, vl, hd⟩ := f
  obtain ⟨k', p0', p1', p2', p3', p4', p5', ch', ms', vl', hd'⟩ := g
  refine (eqlFa k p0 p1 p2 p3 p4 p5 ch ms vl k' p0' p1' p2' p3' p4' p5' ch' ms' vl' hd hd' w).trans ?_
  rw [show decide ((⟨k, p0, p1, p2, p3, p4, p5, ch, ms, vl, hd⟩ : Fa) = ⟨k', p0', p1', p2', p3', p4', p5', ch', ms', vl', hd'⟩) = decide (k = k' ∧ p0 = p0' ∧ p1 = p1' ∧ p2 = p2' ∧ p3 = p3' ∧ p4 = p4' ∧ p5 = p5' ∧ ch = ch' ∧ ms = ms' ∧ vl = vl' ∧ hd = hd') by simp only [Fa.mk.injEq]]
set_option maxHeartbeats 4000000 in
theorem sameWord13_any (a b : Wm) (x y : Sv) (hla : a.bs.length ≤ 9223372036854775807) (hlb : b.bs.length ≤ 9223372036854775807) (w : World) (hx : BytesAt w x a.bs) (hy : BytesAt w y b.bs) : Calls Tryd.prog 23 #[cwV a x, cwV b y] w (Gives (.bool (decide (a = b))) w) := by
  obtain ⟨ia, az, pa⟩ := a
  obtain ⟨ib, bs, pb⟩ := b
  obtain ⟨xa, xn, xc⟩ := x
  obtain ⟨ya, yn, yc⟩ := y
  have HX := Lib.hid hx
  have HY := Lib.hid hy
  have HS4 := Lib.hid (fun wx h1 h2 => r04same_any ⟨xa, xn, xc⟩ ⟨ya, yn, yc⟩ az bs hla hlb wx h1 h2)
  clear hx hy hla hlb
  show Calls Tryd.prog 23 #[.agg #[.int .i64 ia, .slice xa xn xc, .bool pa], .agg #[.int .i64 ib, .slice ya yn yc, .bool pb]] w _
  by_cases hi : ia = ib
  · subst hi
    by_cases hp : pa = pb
    · subst hp
      have HD := Lib.hid (show decide ((⟨ia, az, pa⟩ : Wm) = ⟨ia, bs, pa⟩) = decide (az = bs) by simp)
      have hpp : (pa == pa) = true := by simp
      go_enter Tryd.func23, Tryd.ntmps23
      have H := HS.start NoD w
      go_upto_region 1 with fail
      generalize hwb : (w.alloc _).alloc _ = w1
      replace H := HS.eqW hwb H.alloc.alloc
      try simp only [World.size_alloc, List.nil_append, List.cons_append, List.append_assoc] at H
      clear hwb
      generalize w.heap.size + 1 = bB at H ⊢
      generalize w.heap.size = bA at H ⊢
      try clear C
      have C := H.cells
      try simp only [cellsOf, cellsM, apartOf, apartM, and_true] at C
      go_wp2_with fail
      refine (HS4.out _ (HX.out.up H.done) (HY.out.up H.done)).mono ?_
      rintro _ w2 ⟨rfl, hb⟩
      replace H := H.below hb
      clear hb
      try clear C
      try simp only [World.size_alloc, List.nil_append, List.cons_append, List.append_assoc] at H
      try clear w1
      have C := H.cells
      try simp only [cellsOf, cellsM, apartOf, apartM, and_true] at C
      dsimp only
      clear HS4
      rcases Bool.eq_false_or_eq_true (decide (az = bs)) with hd | hd
      all_goals
        have HDD := Lib.hid hd
        rw [hd]
        clear hd
        go_wp2_with fail
        go_ret
        exact ⟨by rw [HD.out, HDD.out]; first | rfl | go_simp, H.done⟩
    · have hpb : (pa == pb) = false := beq_eq_false_iff_ne.2 hp
      have HD := Lib.hid (show decide ((⟨ia, az, pa⟩ : Wm) = ⟨ia, bs, pb⟩) = false by simp [hp])
      go_enter Tryd.func23, Tryd.ntmps23
      have H := HS.start NoD w
      go_upto_region 1 with fail
      generalize hwb : (w.alloc _).alloc _ = w1
      replace H := HS.eqW hwb H.alloc.alloc
      try simp only [World.size_alloc, List.nil_append, List.cons_append, List.append_assoc] at H
      clear hwb
      generalize w.heap.size + 1 = bB at H ⊢
      generalize w.heap.size = bA at H ⊢
      try clear C
      have C := H.cells
      try simp only [cellsOf, cellsM, apartOf, apartM, and_true] at C
      go_wp2_with fail
      go_ret
      exact ⟨by first | (rw [HD.out]; first | rfl | go_simp; done) | rfl | go_simp, H.done⟩
  · have hib : (ia == ib) = false := beq_eq_false_iff_ne.2 hi
    have HD := Lib.hid (show decide ((⟨ia, az, pa⟩ : Wm) = ⟨ib, bs, pb⟩) = false by simp [hi])
    go_enter Tryd.func23, Tryd.ntmps23
    have H := HS.start NoD w
    go_upto_region 1 with fail
    generalize hwb : (w.alloc _).alloc _ = w1
    replace H := HS.eqW hwb H.alloc.alloc
    try simp only [World.size_alloc, List.nil_append, List.cons_append, List.append_assoc] at H
    clear hwb
    generalize w.heap.size + 1 = bB at H ⊢
    generalize w.heap.size = bA at H ⊢
    try clear C
    have C := H.cells
    try simp only [cellsOf, cellsM, apartOf, apartM, and_true] at C
    go_wp2_with fail
    go_ret
    exact ⟨by first | (rw [HD.out]; first | rfl | go_simp; done) | rfl | go_simp, H.done⟩
/-- No list is longer than a number can say. -/
structure LongM (m : Mm) : Prop where
  ws : m.ws.length ≤ 9223372036854775807
  fs : m.fs.length ≤ 9223372036854775807
  bs : ∀ x ∈ m.ws, x.bs.length ≤ 9223372036854775807
theorem take_stepG {α : Type} [Inhabited α] {xs ys : List α} {j : Nat} (h1 : j < xs.length) (h2 : j < ys.length) (h : xs.take j = ys.take j) (he : xs[j]! = ys[j]!) : xs.take (j + 1) = ys.take (j + 1) := by
  rw [List.take_succ_eq_append_getElem h1, List.take_succ_eq_append_getElem h2, h, ← getElem!_pos xs j h1, ← getElem!_pos ys j h2, he]
theorem map_bang {qs : List (Wm × Sv)} {j : Nat} (h : j < qs.length) : (qs.map Prod.fst)[j]! = (qs[j]!).1 := by
  rw [getElem!_pos (qs.map Prod.fst) j (by rw [List.length_map]; exact h), List.getElem_map, getElem!_pos qs j h]
theorem mem_bang2 {qs : List (Wm × Sv)} {i : Nat} (h : i < qs.length) : qs[i]! ∈ qs := by
  rw [getElem!_pos qs i h]; exact List.getElem_mem h
theorem map_mem2 {qs : List (Wm × Sv)} {i : Nat} (h : i < qs.length) : (qs[i]!).1 ∈ qs.map Prod.fst := List.mem_map.2 ⟨_, mem_bang2 h, rfl⟩
set_option maxHeartbeats 8000000 in
theorem same13_any (A B : Mm) (x y u v : Sv) (hA : LongM A) (hB : LongM B) (w : World) (ha : MeAt w x y A) (hb : MeAt w u v B) : Calls Tryd.prog 20 #[meV A x y, meV B u v] w (Gives (.bool (decide (A = B))) w) := by
  obtain ⟨s0, s1, s2, s3, s4, s5, kd, dt, ck, fx, ws, fs⟩ := A
  obtain ⟨t0, t1, t2, t3, t4, t5, ke, du, cl, fy, vs, gs⟩ := B
  obtain ⟨xa, xn, xc⟩ := x
  obtain ⟨ya, yn, yc⟩ := y
  obtain ⟨ua, un, uc⟩ := u
  obtain ⟨va, vn, vc⟩ := v
  obtain ⟨⟨qs, rfl, hn1, -, hl1, hk1⟩, hn2, -, hl2⟩ := ha
  obtain ⟨⟨rs, rfl, hn3, -, hl3, hk3⟩, hn4, -, hl4⟩ := hb
  dsimp only at hn1 hn2 hn3 hn4 hl1 hl2 hl3 hl4
  subst hn1 hn2 hn3 hn4
  obtain ⟨a1, a2, a3⟩ := hA
  obtain ⟨b1, b2, b3⟩ := hB
  dsimp only at a1 a2 a3 b1 b2 b3
  rw [List.length_map] at a1 b1
  have HL1 := Lib.hid hl1
  have HL2 := Lib.hid hl2
  have HL3 := Lib.hid hl3
  have HL4 := Lib.hid hl4
  have HK1 := Lib.hid hk1
  have HK3 := Lib.hid hk3
  have A3 := Lib.hid a3
  have B3 := Lib.hid b3
  clear hl1 hl2 hl3 hl4 hk1 hk3 a3 b3
  show Calls Tryd.prog 20 #[.agg #[.int .i64 s0, .int .i64 s1, .int .i64 s2, .int .i64 s3, .int .i64 s4, .int .i64 s5, .int .i64 kd, .int .i64 dt, .int .i64 ck, .int .i64 fx, .slice xa qs.length xc, .slice ya fs.length yc], .agg #[.int .i64 t0, .int .i64 t1, .int .i64 t2, .int .i64 t3, .int .i64 t4, .int .i64 t5, .int .i64 ke, .int .i64 du, .int .i64 cl, .int .i64 fy, .slice ua rs.length uc, .slice va gs.length vc]] w _
  obtain ⟨r9, hr9⟩ : ∃ r, r = decide ((⟨s0, s1, s2, s3, s4, s5, kd, dt, ck, fx, qs.map Prod.fst, fs⟩ : Mm) = ⟨t0, t1, t2, t3, t4, t5, ke, du, cl, fy, rs.map Prod.fst, gs⟩) := ⟨_, rfl⟩
  rw [← hr9]
  have HR9 := Lib.hid hr9
  clear hr9
  have hqs := fun w => neqSh s0 s1 s2 s3 s4 s5 t0 t1 t2 t3 t4 t5 w
  have hqc := fun w => neqCo kd dt ck fx ke du cl fy w
  by_cases hs : s0 = t0 ∧ s1 = t1 ∧ s2 = t2 ∧ s3 = t3 ∧ s4 = t4 ∧ s5 = t5
  · rw [decide_eq_true hs] at hqs
    by_cases hc : kd = ke ∧ dt = du ∧ ck = cl ∧ fx = fy
    · rw [decide_eq_true hc] at hqc
      obtain ⟨rfl, rfl, rfl, rfl, rfl, rfl⟩ := hs
      obtain ⟨rfl, rfl, rfl, rfl⟩ := hc
      by_cases hw : qs.length = rs.length
      · by_cases hf : fs.length = gs.length
        · have hwi : (qs.length : Int) = rs.length := by omega
          have hfi : (fs.length : Int) = gs.length := by omega
          have hwb : ((qs.length : Int) != rs.length) = false := by rw [hwi]; simp
          have hfb : ((fs.length : Int) != gs.length) = false := by rw [hfi]; simp
          have HW := Lib.hid hw
          have HF := Lib.hid hf
          clear hw hf hwi hfi
          go_enter Tryd.func20, Tryd.ntmps20
          have H := HS.start NoD w
          go_upto_region 1 with fail
          generalize hwb : (w.alloc _).alloc _ = w1
          replace H := HS.eqW hwb H.alloc.alloc
          try simp only [World.size_alloc, List.nil_append, List.cons_append, List.append_assoc] at H
          clear hwb
          generalize w.heap.size + 1 = bB at H ⊢
          generalize w.heap.size = bA at H ⊢
          try clear C
          have C := H.cells
          try simp only [cellsOf, cellsM, apartOf, apartM, and_true] at C
          go_wp2_with fail
          clear hwb hfb hqs hqc
          go_loopw [5] (fun i wr => ∃ (j : Nat), i = .int .i64 j ∧ j ≤ qs.length ∧ Hid ((qs.map Prod.fst).take j = (rs.map Prod.fst).take j) ∧ HS NoD w [.blk bA #[.int .i64 s0, .int .i64 s1, .int .i64 s2, .int .i64 s3, .int .i64 s4, .int .i64 s5, .int .i64 kd, .int .i64 dt, .int .i64 ck, .int .i64 fx, .slice xa qs.length xc, .slice ya fs.length yc] 34, .blk bB #[.int .i64 s0, .int .i64 s1, .int .i64 s2, .int .i64 s3, .int .i64 s4, .int .i64 s5, .int .i64 kd, .int .i64 dt, .int .i64 ck, .int .i64 fx, .slice ua rs.length uc, .slice va gs.length vc] 34] wr) (fun i _ => qs.length - (intOf i).toNat)
          case atStart => exact ⟨0, rfl, Nat.zero_le _, (show Hid _ from rfl), H⟩
          case round =>
            clear H C
            obtain ⟨j, rfl, hj, HT, H⟩ := hrel
            skip
            try clear C
            try simp only [World.size_alloc, List.nil_append, List.cons_append, List.append_assoc] at H
            have C := H.cells
            try simp only [cellsOf, cellsM, apartOf, apartM, and_true] at C
            by_cases hlt : j < qs.length
            · have hlt2 : j < rs.length := by have := HW.out; omega
              have HJ := Lib.hid hlt
              obtain ⟨b, o, rfl, hb, hc⟩ := (H.lies HL1.out).at hlt
              obtain ⟨b2, o2, rfl, hb2, hc2⟩ := (H.lies HL3.out).at hlt2
              have HBJ := Lib.hid (HK1.out _ (mem_bang2 hlt))
              have HBK := Lib.hid (HK3.out _ (mem_bang2 hlt2))
              have h1 := A3.out _ (map_mem2 hlt)
              have h2 := B3.out _ (map_mem2 hlt2)
              have HNE := Lib.hid (show ¬ (qs[j]!).1 = (rs[j]!).1 → qs.map Prod.fst ≠ rs.map Prod.fst from fun he e => he (by rw [← map_bang hlt, ← map_bang hlt2, e]))
              have HST := Lib.hid (show (qs[j]!).1 = (rs[j]!).1 → (qs.map Prod.fst).take (j + 1) = (rs.map Prod.fst).take (j + 1) from fun he => take_stepG (by rw [List.length_map]; exact hlt) (by rw [List.length_map]; exact hlt2) HT.out (by rw [map_bang hlt, map_bang hlt2]; exact he))
              have HLQ := Lib.hid (fun (wx : World) (hx : Lies wx wx.heap.size (some ⟨b, o, none⟩) 3 qs.length (fun j => cwC qs[j]!)) => show (∀ i v, (cwC qs[j]!)[i]? = some v → wx.cell? ⟨b, o + j * 3 + i, none⟩ = some v) ∧ b < wx.heap.size from by
                obtain ⟨b9, o9, e9, hb9, h9⟩ := hx.at hlt
                cases e9
                exact ⟨h9, hb9⟩)
              have HLR := Lib.hid (fun (wx : World) (hx : Lies wx wx.heap.size (some ⟨b2, o2, none⟩) 3 rs.length (fun j => cwC rs[j]!)) => show (∀ i v, (cwC rs[j]!)[i]? = some v → wx.cell? ⟨b2, o2 + j * 3 + i, none⟩ = some v) ∧ b2 < wx.heap.size from by
                obtain ⟨b9, o9, e9, hb9, h9⟩ := hx.at hlt2
                cases e9
                exact ⟨h9, hb9⟩)
              clear hc hc2
              generalize qs[j]! = q at HBJ HNE HST HLQ h1
              generalize rs[j]! = r at HBK HNE HST HLR h2
              obtain ⟨⟨ia, az, pa⟩, ⟨ba, bn, bc⟩⟩ := q
              obtain ⟨⟨ib, bs, pb⟩, ⟨ca, cn, cc⟩⟩ := r
              have HSW := Lib.hid (fun wx h3 h4 => (show Calls Tryd.prog 23 #[.agg #[.int .i64 ia, .slice ba bn bc, .bool pa], .agg #[.int .i64 ib, .slice ca cn cc, .bool pb]] wx (Gives (.bool (decide ((⟨ia, az, pa⟩ : Wm) = ⟨ib, bs, pb⟩))) wx) from sameWord13_any ⟨ia, az, pa⟩ ⟨ib, bs, pb⟩ ⟨ba, bn, bc⟩ ⟨ca, cn, cc⟩ h1 h2 wx h3 h4))
              clear h1 h2
              go_upto_region 6 with fail
              skip
              by_cases hab : (⟨ia, az, pa⟩ : Wm) = ⟨ib, bs, pb⟩
              · replace HSW := Lib.hid (fun wx h3 h4 => by have := HSW.out wx h3 h4; rw [decide_eq_true hab] at this; exact this)
                have HEQ := Lib.hid (HST.out hab)
                clear hab
                refine wp_region_xH (by kernel_rfl) (by kernel_rfl) (by kernel_rfl) (by kernel_rfl) (fun _ => False) (H) ?_
                clear H; intro w2 H hz0 hs0
                try clear C
                try simp only [World.size_alloc, List.nil_append, List.cons_append, List.append_assoc] at H hz0
                clear hz0
                try clear wr
                have C := H.cells
                try simp only [cellsOf, cellsM, apartOf, apartM, and_true] at C
                have Z := H.zs
                try simp only [ltsOf, ltsM, and_true] at Z
                have hz0 := Nat.le_refl w2.heap.size
                obtain ⟨hcq, hbq⟩ := HLQ.out _ (H.liesUp HL1.out)
                obtain ⟨hcr, hbr⟩ := HLR.out _ (H.liesUp HL3.out)
                have c0 : w2.cell? ⟨b, o + j * 3, none⟩ = some (.int .i64 ia) := hcq 0 _ rfl
                have c1 : w2.cell? ⟨b, o + j * 3 + 1, none⟩ = some (.slice ba bn bc) := hcq 1 _ rfl
                have c2 : w2.cell? ⟨b, o + j * 3 + 2, none⟩ = some (.bool pa) := hcq 2 _ rfl
                have d0 : w2.cell? ⟨b2, o2 + j * 3, none⟩ = some (.int .i64 ib) := hcr 0 _ rfl
                have d1 : w2.cell? ⟨b2, o2 + j * 3 + 1, none⟩ = some (.slice ca cn cc) := hcr 1 _ rfl
                have d2 : w2.cell? ⟨b2, o2 + j * 3 + 2, none⟩ = some (.bool pb) := hcr 2 _ rfl
                clear hcq hcr
                repeat (first | (refine wpX_skip rfl ?_; go_simp) | (refine wpX_free rfl rfl rfl (fun K hK => ?_); go_step; refine hK _ _ ?_; clear hK K) | (refine wpX_load rfl rfl rfl (by simp [Stay, OneD, NoD, *]) hs0 (by simp [*]) (fun K hK => ?_); go_step; refine hK _ _ ?_; clear hK K))
                refine wpX_eff rfl rfl (fun _ _ => ?_)
                go_step
                refine (HSW.out _ (HBJ.out.up H.done) (HBK.out.up H.done)).mono ?_
                rintro _ w3 ⟨rfl, hb⟩
                replace hs0 := hs0.belowS hz0 hb
                replace hz0 := Nat.le_trans hz0 hb.size
                replace H := H.below hb
                clear hb
                try clear C
                have C := H.cells
                try simp only [cellsOf, cellsM, apartOf, apartM, and_true] at C
                try clear w2
                dsimp only
                go_step
                refine ⟨hs0, ?_⟩
                repeat (first | (refine wpX_skip rfl ?_; go_simp) | (refine wpX_free rfl rfl rfl (fun K hK => ?_); go_step; refine hK _ _ ?_; clear hK K) | (refine wpX_load rfl rfl rfl (by simp [Stay, OneD, NoD, *]) hs0 (by simp [*]) (fun K hK => ?_); go_step; refine hK _ _ ?_; clear hK K))
                (refine wpX_nil ?_; go_step)
                go_wp2_with fail
                go_roundw
                case rel => exact ⟨j + 1, by go_num, by omega, (show Hid _ from HEQ.out), H⟩
                case measure => simp [intOf]; omega
              · skip
                replace HSW := Lib.hid (fun wx h3 h4 => by have := HSW.out wx h3 h4; rw [decide_eq_false hab] at this; exact this)
                have HEQ := Lib.hid (HNE.out hab)
                clear hab
                refine wp_region_xH (by kernel_rfl) (by kernel_rfl) (by kernel_rfl) (by kernel_rfl) (fun _ => False) (H) ?_
                clear H; intro w4 H hz0 hs0
                try clear C
                try simp only [World.size_alloc, List.nil_append, List.cons_append, List.append_assoc] at H hz0
                clear hz0
                try clear wr
                have C := H.cells
                try simp only [cellsOf, cellsM, apartOf, apartM, and_true] at C
                have Z := H.zs
                try simp only [ltsOf, ltsM, and_true] at Z
                have hz0 := Nat.le_refl w4.heap.size
                obtain ⟨hcq, hbq⟩ := HLQ.out _ (H.liesUp HL1.out)
                obtain ⟨hcr, hbr⟩ := HLR.out _ (H.liesUp HL3.out)
                have c0 : w4.cell? ⟨b, o + j * 3, none⟩ = some (.int .i64 ia) := hcq 0 _ rfl
                have c1 : w4.cell? ⟨b, o + j * 3 + 1, none⟩ = some (.slice ba bn bc) := hcq 1 _ rfl
                have c2 : w4.cell? ⟨b, o + j * 3 + 2, none⟩ = some (.bool pa) := hcq 2 _ rfl
                have d0 : w4.cell? ⟨b2, o2 + j * 3, none⟩ = some (.int .i64 ib) := hcr 0 _ rfl
                have d1 : w4.cell? ⟨b2, o2 + j * 3 + 1, none⟩ = some (.slice ca cn cc) := hcr 1 _ rfl
                have d2 : w4.cell? ⟨b2, o2 + j * 3 + 2, none⟩ = some (.bool pb) := hcr 2 _ rfl
                clear hcq hcr
                repeat (first | (refine wpX_skip rfl ?_; go_simp) | (refine wpX_free rfl rfl rfl (fun K hK => ?_); go_step; refine hK _ _ ?_; clear hK K) | (refine wpX_load rfl rfl rfl (by simp [Stay, OneD, NoD, *]) hs0 (by simp [*]) (fun K hK => ?_); go_step; refine hK _ _ ?_; clear hK K))
                refine wpX_eff rfl rfl (fun _ _ => ?_)
                go_step
                refine (HSW.out _ (HBJ.out.up H.done) (HBK.out.up H.done)).mono ?_
                rintro _ w5 ⟨rfl, hb⟩
                replace hs0 := hs0.belowS hz0 hb
                replace hz0 := Nat.le_trans hz0 hb.size
                replace H := H.below hb
                clear hb
                try clear C
                have C := H.cells
                try simp only [cellsOf, cellsM, apartOf, apartM, and_true] at C
                try clear w4
                dsimp only
                go_step
                refine ⟨hs0, ?_⟩
                repeat (first | (refine wpX_skip rfl ?_; go_simp) | (refine wpX_free rfl rfl rfl (fun K hK => ?_); go_step; refine hK _ _ ?_; clear hK K) | (refine wpX_load rfl rfl rfl (by simp [Stay, OneD, NoD, *]) hs0 (by simp [*]) (fun K hK => ?_); go_step; refine hK _ _ ?_; clear hK K))
                (refine wpX_nil ?_; go_step)
                go_wp2_with fail
                go_ret
                exact ⟨by rw [HR9.out.trans (decide_eq_false (fun e => HEQ.out (Mm.mk.inj e).2.2.2.2.2.2.2.2.2.2.1))]; first | rfl | go_simp, H.done⟩
            · obtain rfl : j = qs.length := by omega
              have HWS := Lib.hid (show qs.map Prod.fst = rs.map Prod.fst by
                have h9 := HT.out
                have e1 : (qs.map Prod.fst).length ≤ qs.length := by rw [List.length_map]; exact Nat.le_refl _
                have e2 : (rs.map Prod.fst).length ≤ qs.length := by rw [List.length_map]; exact Nat.le_of_eq HW.out.symm
                rwa [List.take_of_length_le e1, List.take_of_length_le e2] at h9)
              clear hlt hj HT
              go_wp2_with fail
              go_loopw [6] (fun i wr => ∃ (j : Nat), i = .int .i64 j ∧ j ≤ fs.length ∧ Hid (fs.take j = gs.take j) ∧ HS NoD w [.blk bA #[.int .i64 s0, .int .i64 s1, .int .i64 s2, .int .i64 s3, .int .i64 s4, .int .i64 s5, .int .i64 kd, .int .i64 dt, .int .i64 ck, .int .i64 fx, .slice xa qs.length xc, .slice ya fs.length yc] 34, .blk bB #[.int .i64 s0, .int .i64 s1, .int .i64 s2, .int .i64 s3, .int .i64 s4, .int .i64 s5, .int .i64 kd, .int .i64 dt, .int .i64 ck, .int .i64 fx, .slice ua rs.length uc, .slice va gs.length vc] 34] wr) (fun i _ => fs.length - (intOf i).toNat)
              case atStart => exact ⟨0, rfl, Nat.zero_le _, (show Hid _ from rfl), H⟩
              case round =>
                clear H C
                obtain ⟨j, rfl, hj, HT, H⟩ := hrel
                skip
                try clear C
                try simp only [World.size_alloc, List.nil_append, List.cons_append, List.append_assoc] at H
                have C := H.cells
                try simp only [cellsOf, cellsM, apartOf, apartM, and_true] at C
                by_cases hlt : j < fs.length
                · have hlt2 : j < gs.length := by have := HF.out; omega
                  have HJ := Lib.hid hlt
                  obtain ⟨b, o, rfl, hb, hc⟩ := (H.lies HL2.out).at hlt
                  obtain ⟨b2, o2, rfl, hb2, hc2⟩ := (H.lies HL4.out).at hlt2
                  have HNE := Lib.hid (show ¬ fs[j]! = gs[j]! → fs ≠ gs from fun he e => he (by rw [e]))
                  have HST := Lib.hid (show fs[j]! = gs[j]! → fs.take (j + 1) = gs.take (j + 1) from fun he => take_stepG hlt hlt2 HT.out he)
                  have HLF := Lib.hid (fun (wx : World) (hx : Lies wx wx.heap.size (some ⟨b, o, none⟩) 11 fs.length (fun j => cfC fs[j]!)) => show (∀ i v, (cfC fs[j]!)[i]? = some v → wx.cell? ⟨b, o + j * 11 + i, none⟩ = some v) ∧ b < wx.heap.size from by
                    obtain ⟨b9, o9, e9, hb9, h9⟩ := hx.at hlt
                    cases e9
                    exact ⟨h9, hb9⟩)
                  have HLG := Lib.hid (fun (wx : World) (hx : Lies wx wx.heap.size (some ⟨b2, o2, none⟩) 11 gs.length (fun j => cfC gs[j]!)) => show (∀ i v, (cfC gs[j]!)[i]? = some v → wx.cell? ⟨b2, o2 + j * 11 + i, none⟩ = some v) ∧ b2 < wx.heap.size from by
                    obtain ⟨b9, o9, e9, hb9, h9⟩ := hx.at hlt2
                    cases e9
                    exact ⟨h9, hb9⟩)
                  clear hc hc2
                  generalize fs[j]! = f at HNE HST HLF
                  generalize gs[j]! = g at HNE HST HLG
                  have hne := fun w => neqF f g w
                  obtain ⟨k, p0, p1, p2, p3, p4, p5, ch, ms, vl, hd⟩ := f
                  obtain ⟨k', p0', p1', p2', p3', p4', p5', ch', ms', vl', hd'⟩ := g
                  simp only [cfC] at hne
                  go_upto_region 11 with fail
                  skip
                  by_cases hfg : (⟨k, p0, p1, p2, p3, p4, p5, ch, ms, vl, hd⟩ : Fa) = ⟨k', p0', p1', p2', p3', p4', p5', ch', ms', vl', hd'⟩
                  · have HEQ := Lib.hid (HST.out hfg)
                    rw [decide_eq_true hfg] at hne
                    clear hfg HNE HST
                    refine wp_region_xH (by kernel_rfl) (by kernel_rfl) (by kernel_rfl) (by kernel_rfl) (fun _ => False) (H) ?_
                    clear H; intro w6 H hz0 hs0
                    try clear C
                    try simp only [World.size_alloc, List.nil_append, List.cons_append, List.append_assoc] at H hz0
                    clear hz0
                    try clear wr
                    have C := H.cells
                    try simp only [cellsOf, cellsM, apartOf, apartM, and_true] at C
                    have Z := H.zs
                    try simp only [ltsOf, ltsM, and_true] at Z
                    have hz0 := Nat.le_refl w6.heap.size
                    obtain ⟨hcq, hbq⟩ := HLF.out _ (H.liesUp HL2.out)
                    obtain ⟨hcr, hbr⟩ := HLG.out _ (H.liesUp HL4.out)
                    have c0 : w6.cell? ⟨b, o + j * 11, none⟩ = some (.int .i64 k) := hcq 0 _ rfl
                    have c1 : w6.cell? ⟨b, o + j * 11 + 1, none⟩ = some (.int .i64 p0) := hcq 1 _ rfl
                    have c2 : w6.cell? ⟨b, o + j * 11 + 2, none⟩ = some (.int .i64 p1) := hcq 2 _ rfl
                    have c3 : w6.cell? ⟨b, o + j * 11 + 3, none⟩ = some (.int .i64 p2) := hcq 3 _ rfl
                    have c4 : w6.cell? ⟨b, o + j * 11 + 4, none⟩ = some (.int .i64 p3) := hcq 4 _ rfl
                    have c5 : w6.cell? ⟨b, o + j * 11 + 5, none⟩ = some (.int .i64 p4) := hcq 5 _ rfl
                    have c6 : w6.cell? ⟨b, o + j * 11 + 6, none⟩ = some (.int .i64 p5) := hcq 6 _ rfl
                    have c7 : w6.cell? ⟨b, o + j * 11 + 7, none⟩ = some (.int .i64 ch) := hcq 7 _ rfl
                    have c8 : w6.cell? ⟨b, o + j * 11 + 8, none⟩ = some (.int .u8 ms) := hcq 8 _ rfl
                    have c9 : w6.cell? ⟨b, o + j * 11 + 9, none⟩ = some (.int .u8 vl) := hcq 9 _ rfl
                    have c10 : w6.cell? ⟨b, o + j * 11 + 10, none⟩ = some (.bool hd) := hcq 10 _ rfl
                    have d0 : w6.cell? ⟨b2, o2 + j * 11, none⟩ = some (.int .i64 k') := hcr 0 _ rfl
                    have d1 : w6.cell? ⟨b2, o2 + j * 11 + 1, none⟩ = some (.int .i64 p0') := hcr 1 _ rfl
                    have d2 : w6.cell? ⟨b2, o2 + j * 11 + 2, none⟩ = some (.int .i64 p1') := hcr 2 _ rfl
                    have d3 : w6.cell? ⟨b2, o2 + j * 11 + 3, none⟩ = some (.int .i64 p2') := hcr 3 _ rfl
                    have d4 : w6.cell? ⟨b2, o2 + j * 11 + 4, none⟩ = some (.int .i64 p3') := hcr 4 _ rfl
                    have d5 : w6.cell? ⟨b2, o2 + j * 11 + 5, none⟩ = some (.int .i64 p4') := hcr 5 _ rfl
                    have d6 : w6.cell? ⟨b2, o2 + j * 11 + 6, none⟩ = some (.int .i64 p5') := hcr 6 _ rfl
                    have d7 : w6.cell? ⟨b2, o2 + j * 11 + 7, none⟩ = some (.int .i64 ch') := hcr 7 _ rfl
                    have d8 : w6.cell? ⟨b2, o2 + j * 11 + 8, none⟩ = some (.int .u8 ms') := hcr 8 _ rfl
                    have d9 : w6.cell? ⟨b2, o2 + j * 11 + 9, none⟩ = some (.int .u8 vl') := hcr 9 _ rfl
                    have d10 : w6.cell? ⟨b2, o2 + j * 11 + 10, none⟩ = some (.bool hd') := hcr 10 _ rfl
                    clear hcq hcr
                    repeat (first | (refine wpX_skip rfl ?_; go_simp) | (refine wpX_free rfl rfl rfl (fun K hK => ?_); go_step; refine hK _ _ ?_; clear hK K) | (refine wpX_load rfl rfl rfl (by simp [Stay, OneD, NoD, *]) hs0 (by simp [*]) (fun K hK => ?_); go_step; refine hK _ _ ?_; clear hK K))
                    (refine wpX_yield rfl rfl ((.bool false)) (fun w hw => by go_simp) ?_; go_simp)
                    repeat (first | (refine wpX_skip rfl ?_; go_simp) | (refine wpX_free rfl rfl rfl (fun K hK => ?_); go_step; refine hK _ _ ?_; clear hK K) | (refine wpX_load rfl rfl rfl (by simp [Stay, OneD, NoD, *]) hs0 (by simp [*]) (fun K hK => ?_); go_step; refine hK _ _ ?_; clear hK K))
                    (refine wpX_nil ?_; go_step)
                    go_wp2_with fail
                    go_roundw
                    case rel => exact ⟨j + 1, by go_num, by omega, (show Hid _ from HEQ.out), H⟩
                    case measure => simp [intOf]; omega
                  · skip
                    have HEQ := Lib.hid (HNE.out hfg)
                    rw [decide_eq_false hfg] at hne
                    clear hfg HNE HST
                    refine wp_region_xH (by kernel_rfl) (by kernel_rfl) (by kernel_rfl) (by kernel_rfl) (fun _ => False) (H) ?_
                    clear H; intro w7 H hz0 hs0
                    try clear C
                    try simp only [World.size_alloc, List.nil_append, List.cons_append, List.append_assoc] at H hz0
                    clear hz0
                    try clear wr
                    have C := H.cells
                    try simp only [cellsOf, cellsM, apartOf, apartM, and_true] at C
                    have Z := H.zs
                    try simp only [ltsOf, ltsM, and_true] at Z
                    have hz0 := Nat.le_refl w7.heap.size
                    obtain ⟨hcq, hbq⟩ := HLF.out _ (H.liesUp HL2.out)
                    obtain ⟨hcr, hbr⟩ := HLG.out _ (H.liesUp HL4.out)
                    have c0 : w7.cell? ⟨b, o + j * 11, none⟩ = some (.int .i64 k) := hcq 0 _ rfl
                    have c1 : w7.cell? ⟨b, o + j * 11 + 1, none⟩ = some (.int .i64 p0) := hcq 1 _ rfl
                    have c2 : w7.cell? ⟨b, o + j * 11 + 2, none⟩ = some (.int .i64 p1) := hcq 2 _ rfl
                    have c3 : w7.cell? ⟨b, o + j * 11 + 3, none⟩ = some (.int .i64 p2) := hcq 3 _ rfl
                    have c4 : w7.cell? ⟨b, o + j * 11 + 4, none⟩ = some (.int .i64 p3) := hcq 4 _ rfl
                    have c5 : w7.cell? ⟨b, o + j * 11 + 5, none⟩ = some (.int .i64 p4) := hcq 5 _ rfl
                    have c6 : w7.cell? ⟨b, o + j * 11 + 6, none⟩ = some (.int .i64 p5) := hcq 6 _ rfl
                    have c7 : w7.cell? ⟨b, o + j * 11 + 7, none⟩ = some (.int .i64 ch) := hcq 7 _ rfl
                    have c8 : w7.cell? ⟨b, o + j * 11 + 8, none⟩ = some (.int .u8 ms) := hcq 8 _ rfl
                    have c9 : w7.cell? ⟨b, o + j * 11 + 9, none⟩ = some (.int .u8 vl) := hcq 9 _ rfl
                    have c10 : w7.cell? ⟨b, o + j * 11 + 10, none⟩ = some (.bool hd) := hcq 10 _ rfl
                    have d0 : w7.cell? ⟨b2, o2 + j * 11, none⟩ = some (.int .i64 k') := hcr 0 _ rfl
                    have d1 : w7.cell? ⟨b2, o2 + j * 11 + 1, none⟩ = some (.int .i64 p0') := hcr 1 _ rfl
                    have d2 : w7.cell? ⟨b2, o2 + j * 11 + 2, none⟩ = some (.int .i64 p1') := hcr 2 _ rfl
                    have d3 : w7.cell? ⟨b2, o2 + j * 11 + 3, none⟩ = some (.int .i64 p2') := hcr 3 _ rfl
                    have d4 : w7.cell? ⟨b2, o2 + j * 11 + 4, none⟩ = some (.int .i64 p3') := hcr 4 _ rfl
                    have d5 : w7.cell? ⟨b2, o2 + j * 11 + 5, none⟩ = some (.int .i64 p4') := hcr 5 _ rfl
                    have d6 : w7.cell? ⟨b2, o2 + j * 11 + 6, none⟩ = some (.int .i64 p5') := hcr 6 _ rfl
                    have d7 : w7.cell? ⟨b2, o2 + j * 11 + 7, none⟩ = some (.int .i64 ch') := hcr 7 _ rfl
                    have d8 : w7.cell? ⟨b2, o2 + j * 11 + 8, none⟩ = some (.int .u8 ms') := hcr 8 _ rfl
                    have d9 : w7.cell? ⟨b2, o2 + j * 11 + 9, none⟩ = some (.int .u8 vl') := hcr 9 _ rfl
                    have d10 : w7.cell? ⟨b2, o2 + j * 11 + 10, none⟩ = some (.bool hd') := hcr 10 _ rfl
                    clear hcq hcr
                    repeat (first | (refine wpX_skip rfl ?_; go_simp) | (refine wpX_free rfl rfl rfl (fun K hK => ?_); go_step; refine hK _ _ ?_; clear hK K) | (refine wpX_load rfl rfl rfl (by simp [Stay, OneD, NoD, *]) hs0 (by simp [*]) (fun K hK => ?_); go_step; refine hK _ _ ?_; clear hK K))
                    (refine wpX_yield rfl rfl ((.bool true)) (fun w hw => by go_simp) ?_; go_simp)
                    repeat (first | (refine wpX_skip rfl ?_; go_simp) | (refine wpX_free rfl rfl rfl (fun K hK => ?_); go_step; refine hK _ _ ?_; clear hK K) | (refine wpX_load rfl rfl rfl (by simp [Stay, OneD, NoD, *]) hs0 (by simp [*]) (fun K hK => ?_); go_step; refine hK _ _ ?_; clear hK K))
                    (refine wpX_nil ?_; go_step)
                    go_wp2_with fail
                    go_ret
                    exact ⟨by rw [HR9.out.trans (decide_eq_false (fun e => HEQ.out (Mm.mk.inj e).2.2.2.2.2.2.2.2.2.2.2))]; first | rfl | go_simp, H.done⟩
                · obtain rfl : j = fs.length := by omega
                  go_wp2_with fail
                  go_ret
                  exact ⟨by
                    have h9 := HT.out
                    rw [List.take_of_length_le (Nat.le_refl _), List.take_of_length_le (Nat.le_of_eq HF.out.symm)] at h9
                    rw [HR9.out.trans (decide_eq_true (by rw [HWS.out, h9]))]; first | rfl | go_simp, H.done⟩
        · have hwi : (qs.length : Int) = rs.length := by omega
          have hfi : ¬ (fs.length : Int) = gs.length := by omega
          have hwb : ((qs.length : Int) != rs.length) = false := by rw [hwi]; simp
          have hfb : ((fs.length : Int) != gs.length) = true := bne_iff_ne.2 hfi
          have HD := Lib.hid (show r9 = false from HR9.out.trans (decide_eq_false (fun e => by
            exact hf (congrArg List.length (Mm.mk.inj e).2.2.2.2.2.2.2.2.2.2.2))))
          clear hw hf
          go_enter Tryd.func20, Tryd.ntmps20
          have H := HS.start NoD w
          go_upto_region 1 with fail
          generalize hwb : (w.alloc _).alloc _ = w1
          replace H := HS.eqW hwb H.alloc.alloc
          try simp only [World.size_alloc, List.nil_append, List.cons_append, List.append_assoc] at H
          clear hwb
          generalize w.heap.size + 1 = bB at H ⊢
          generalize w.heap.size = bA at H ⊢
          try clear C
          have C := H.cells
          try simp only [cellsOf, cellsM, apartOf, apartM, and_true] at C
          go_wp2_with fail
          go_ret
          exact ⟨by first | (rw [HD.out]; first | rfl | go_simp; done) | rfl | go_simp, H.done⟩
      · have hwi : ¬ (qs.length : Int) = rs.length := by omega
        have hwb : ((qs.length : Int) != rs.length) = true := bne_iff_ne.2 hwi
        have HD := Lib.hid (show r9 = false from HR9.out.trans (decide_eq_false (fun e => by
          have := congrArg List.length (Mm.mk.inj e).2.2.2.2.2.2.2.2.2.2.1; rw [List.length_map, List.length_map] at this; exact hw this)))
        clear hw
        go_enter Tryd.func20, Tryd.ntmps20
        have H := HS.start NoD w
        go_upto_region 1 with fail
        generalize hwb : (w.alloc _).alloc _ = w1
        replace H := HS.eqW hwb H.alloc.alloc
        try simp only [World.size_alloc, List.nil_append, List.cons_append, List.append_assoc] at H
        clear hwb
        generalize w.heap.size + 1 = bB at H ⊢
        generalize w.heap.size = bA at H ⊢
        try clear C
        have C := H.cells
        try simp only [cellsOf, cellsM, apartOf, apartM, and_true] at C
        go_wp2_with fail
        go_ret
        exact ⟨by first | (rw [HD.out]; first | rfl | go_simp; done) | rfl | go_simp, H.done⟩
    · rw [decide_eq_false hc] at hqc
      obtain ⟨rfl, rfl, rfl, rfl, rfl, rfl⟩ := hs
      have HD := Lib.hid (show r9 = false from HR9.out.trans (decide_eq_false (fun e => by
        have h9 := (Mm.mk.inj e).2.2.2.2.2.2; exact hc ⟨h9.1, h9.2.1, h9.2.2.1, h9.2.2.2.1⟩)))
      clear hc
      go_enter Tryd.func20, Tryd.ntmps20
      have H := HS.start NoD w
      go_upto_region 1 with fail
      generalize hwb : (w.alloc _).alloc _ = w1
      replace H := HS.eqW hwb H.alloc.alloc
      try simp only [World.size_alloc, List.nil_append, List.cons_append, List.append_assoc] at H
      clear hwb
      generalize w.heap.size + 1 = bB at H ⊢
      generalize w.heap.size = bA at H ⊢
      try clear C
      have C := H.cells
      try simp only [cellsOf, cellsM, apartOf, apartM, and_true] at C
      go_wp2_with fail
      go_ret
      exact ⟨by first | (rw [HD.out]; first | rfl | go_simp; done) | rfl | go_simp, H.done⟩
  · rw [decide_eq_false hs] at hqs
    have HD := Lib.hid (show r9 = false from HR9.out.trans (decide_eq_false (fun e => by
      have h9 := Mm.mk.inj e; exact hs ⟨h9.1, h9.2.1, h9.2.2.1, h9.2.2.2.1, h9.2.2.2.2.1, h9.2.2.2.2.2.1⟩)))
    clear hs
    go_enter Tryd.func20, Tryd.ntmps20
    have H := HS.start NoD w
    go_upto_region 1 with fail
    generalize hwb : (w.alloc _).alloc _ = w1
    replace H := HS.eqW hwb H.alloc.alloc
    try simp only [World.size_alloc, List.nil_append, List.cons_append, List.append_assoc] at H
    clear hwb
    generalize w.heap.size + 1 = bB at H ⊢
    generalize w.heap.size = bA at H ⊢
    try clear C
    have C := H.cells
    try simp only [cellsOf, cellsM, apartOf, apartM, and_true] at C
    go_wp2_with fail
    go_ret
    exact ⟨by first | (rw [HD.out]; first | rfl | go_simp; done) | rfl | go_simp, H.done⟩
end Go.Proofs.YtplflpmkomeadaaDoor
