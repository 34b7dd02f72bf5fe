/- CellRaw's walk. -/
import Derived.Test.YtplflpmkomeadaaDoorCeAg
namespace Go.Proofs.YtplflpmkomeadaaDoor
set_option linter.unusedSimpArgs false
set_option linter.unusedVariables false
open Go.RowKit
set_option maxRecDepth 100000
attribute [local irreducible] wpX wpF Calls

def bitsF (s0 s1 s2 s3 s4 s5 : Int) : Int := IntKind.i64.wrap (IntKind.i64.wrap (IntKind.i64.wrap (IntKind.i64.wrap (IntKind.i64.wrap (s0 + s1) + s2) + s3) + s4) + s5)
theorem bits13_any (s0 s1 s2 s3 s4 s5 : Int) (w : World) : Calls Tryd.prog 31 #[.agg #[.int .i64 s0, .int .i64 s1, .int .i64 s2, .int .i64 s3, .int .i64 s4, .int .i64 s5]] w (Gives (.int .i64 (bitsF s0 s1 s2 s3 s4 s5)) w) := by
  go_enter Tryd.func31, Tryd.ntmps31
  have H := HS.start NoD w
  go_upto_region 1 with fail
  generalize hwb : w.alloc _ = w1
  replace H := HS.eqW hwb H.alloc
  try simp only [World.size_alloc, List.nil_append, List.cons_append, List.append_assoc] at H
  clear hwb
  generalize w.heap.size = bS at H ⊢
  try clear C
  have C := H.cells
  try simp only [cellsOf, cellsM, apartOf, apartM, and_true] at C
  go_wp2_with fail
  go_ret
  exact ⟨by unfold bitsF; go_simp; simp only [IntKind.wrap_i64, wrap64], H.done⟩
theorem bits_256 {M : Mm} (h : bitsF M.s0 M.s1 M.s2 M.s3 M.s4 M.s5 ≤ 8) : szM M ≤ 256 := by
  by_cases hs : svM M
  · have h1 := sizeN_yes hs
    obtain ⟨k0, k1, k2, k3, k4, k5, k6⟩ := hs
    unfold bitsF at h
    rw [IntWalk.i64_in (M.s0 + M.s1) (by omega), IntWalk.i64_in (M.s0 + M.s1 + M.s2) (by omega), IntWalk.i64_in (M.s0 + M.s1 + M.s2 + M.s3) (by omega), IntWalk.i64_in (M.s0 + M.s1 + M.s2 + M.s3 + M.s4) (by omega), IntWalk.i64_in (M.s0 + M.s1 + M.s2 + M.s3 + M.s4 + M.s5) (by omega)] at h
    have h2 : (2 : Int) ^ (M.s0 + M.s1 + M.s2 + M.s3 + M.s4 + M.s5).toNat ≤ 2 ^ 8 := by
      have h3 : (2 : Nat) ^ (M.s0 + M.s1 + M.s2 + M.s3 + M.s4 + M.s5).toNat ≤ 2 ^ 8 := Nat.pow_le_pow_right (by decide) (by omega)
      exact_mod_cast h3
    have h4 : (2 : Int) ^ 8 = 256 := by decide
    show sizeN _ _ _ _ _ _ ≤ 256
    omega
  · show sizeN _ _ _ _ _ _ ≤ 256
    unfold sizeN
    rw [if_neg hs]
    exact Nat.zero_le _
set_option maxHeartbeats 16000000 in
theorem raw13_walk (M : Mm) (x y : Sv) (m : Wm) (z : Sv) (f : Fa) (hbs : ∀ q ∈ M.ws, q.bs.length ≤ 140737488355328) (hm : m.bs.length ≤ 140737488355328) (w : World) (hNm : Nm w) (h : MeAt w x y M) (hb : BytesAt w z m.bs) : Calls Tryd.prog 7 #[meV M x y, cwV m z, cfV f] w (Gives (.bool true) w) := by
  have HME := Lib.hid h
  have HBZ := Lib.hid hb
  have HNm := Lib.hid hNm
  have HAW := Lib.hid (fun wx hn => awake13_any wx hn)
  have hxl : x.n = M.ws.length := h.1.len
  have hyl : y.n = M.fs.length := h.2.1
  have hzl : z.n = m.bs.length := hb.len
  clear h hb hNm
  have HBI := Lib.hid (fun w => bits13_any M.s0 M.s1 M.s2 M.s3 M.s4 M.s5 w)
  obtain ⟨bv, hbv⟩ : ∃ b, b = bitsF M.s0 M.s1 M.s2 M.s3 M.s4 M.s5 := ⟨_, rfl⟩
  rw [← hbv] at HBI
  have H256 := Lib.hid (show bv ≤ 8 → szM M ≤ 256 from fun hh => by rw [hbv] at hh; exact bits_256 hh)
  clear hbv
  obtain ⟨xa, xn, xc⟩ := x
  obtain ⟨ya, yn, yc⟩ := y
  obtain ⟨za, zn, zc⟩ := z
  dsimp only at hxl hyl hzl
  subst hxl hyl hzl
  show Calls Tryd.prog 7 #[.agg #[.int .i64 M.s0, .int .i64 M.s1, .int .i64 M.s2, .int .i64 M.s3, .int .i64 M.s4, .int .i64 M.s5, .int .i64 M.kd, .int .i64 M.dt, .int .i64 M.ck, .int .i64 M.fx, .slice xa M.ws.length xc, .slice ya M.fs.length yc], .agg #[.int .i64 m.ix, .slice za m.bs.length zc, .bool m.po], .agg #[.int .i64 f.k, .int .i64 f.p0, .int .i64 f.p1, .int .i64 f.p2, .int .i64 f.p3, .int .i64 f.p4, .int .i64 f.p5, .int .i64 f.ch, .int .u8 f.ms, .int .u8 f.vl, .bool f.hd]] w _
  by_cases hw : M.ws.length ≤ 100
  · have hwi : ¬ (M.ws.length : Int) > 100 := by omega
    by_cases hf : M.fs.length ≤ 100
    · have hfi : ¬ (M.fs.length : Int) > 100 := by omega
      by_cases h8 : bv ≤ 8
      · have h8i : ¬ bv > 8 := by omega
        have hs : SmallM M := ⟨by omega, by omega, hbs⟩
        have HAG := Lib.hid (fun wx hn hx hb => (show Calls Tryd.prog 34 #[meV M ⟨xa, M.ws.length, xc⟩ ⟨ya, M.fs.length, yc⟩, cwV m ⟨za, m.bs.length, zc⟩, cfV f] wx (Gives (.bool true) wx) from agree13_any M ⟨xa, M.ws.length, xc⟩ ⟨ya, M.fs.length, yc⟩ hs (H256.out h8) m ⟨za, m.bs.length, zc⟩ hm f wx hn hx hb))
        obtain ⟨⟨P, er⟩, hP⟩ : ∃ p, p = newF (⟨M.s0, M.s1, M.s2, M.s3, M.s4, M.s5, M.kd, M.dt, M.ck, M.fx, [], []⟩ : Mm) := ⟨_, rfl⟩
        have HN1 := Lib.hid (fun wx => (show Calls Tryd.prog 32 #[.agg #[.int .i64 M.s0, .int .i64 M.s1, .int .i64 M.s2, .int .i64 M.s3, .int .i64 M.s4, .int .i64 M.s5], .agg #[.int .i64 M.kd, .int .i64 M.dt, .int .i64 M.ck, .int .i64 M.fx]] wx (Gives (.tuple #[meV P nilSv nilSv, .int .i64 er]) wx) from by have h9 := cnew_any (⟨M.s0, M.s1, M.s2, M.s3, M.s4, M.s5, M.kd, M.dt, M.ck, M.fx, [], []⟩ : Mm) rfl rfl wx; rw [← hP] at h9; exact h9))
        have HN2 := Lib.hid (fun wx => (show Calls Tryd.prog 33 #[.agg #[.int .i64 M.s0, .int .i64 M.s1, .int .i64 M.s2, .int .i64 M.s3, .int .i64 M.s4, .int .i64 M.s5], .agg #[.int .i64 M.kd, .int .i64 M.dt, .int .i64 M.ck, .int .i64 M.fx]] wx (Gives (.tuple #[meV P nilSv nilSv, .int .i64 er]) wx) from by have h9 := r13new_any (⟨M.s0, M.s1, M.s2, M.s3, M.s4, M.s5, M.kd, M.dt, M.ck, M.fx, [], []⟩ : Mm) rfl rfl wx; rw [← hP] at h9; exact h9))
        have hpw : P.ws = [] ∧ P.fs = [] := by
          have h9 := congrArg Prod.fst hP
          unfold newF at h9
          split at h9
          · have : P = _ := h9
            rw [this]; exact ⟨rfl, rfl⟩
          · have : P = _ := h9
            rw [this]; exact ⟨rfl, rfl⟩
        have HSP := Lib.hid (fun wx => (show Calls Tryd.prog 20 #[meV P nilSv nilSv, meV P nilSv nilSv] wx (Gives (.bool true) wx) from by
          have hl : LongM P := ⟨by rw [hpw.1]; exact Nat.zero_le _, by rw [hpw.2]; exact Nat.zero_le _, fun q hq => by rw [hpw.1] at hq; cases hq⟩
          have h9 := same13_any P P nilSv nilSv nilSv nilSv hl hl wx (meAt_nil wx hpw.1 hpw.2) (meAt_nil wx hpw.1 hpw.2)
          rw [decide_eq_true rfl] at h9
          exact h9))
        clear hs hw hf h8 hP hpw H256 hbs hm
        dsimp only [meV] at HN1 HN2 HSP
        go_enter Tryd.func7, Tryd.ntmps7
        have H := HS.start NoD w
        go_upto_region 1 with fail
        generalize hwb : ((w.alloc _).alloc _).alloc _ = w1
        replace H := HS.eqW hwb H.alloc.alloc.alloc
        try simp only [World.size_alloc, List.nil_append, List.cons_append, List.append_assoc] at H
        clear hwb
        generalize w.heap.size + 2 = bF at H ⊢
        generalize w.heap.size + 1 = bW at H ⊢
        generalize w.heap.size = bM at H ⊢
        try clear C
        have C := H.cells
        try simp only [cellsOf, cellsM, apartOf, apartM, and_true] at C
        go_wp2_with fail
        refine (HBI.out _).mono ?_
        rintro _ w2 ⟨rfl, hb⟩
        replace H := H.below hb
        clear hb
        try clear C
        try simp only [World.size_alloc, List.nil_append, List.cons_append, List.append_assoc] at H
        try clear w1
        have C := H.cells
        try simp only [cellsOf, cellsM, apartOf, apartM, and_true] at C
        dsimp only
        clear HBI
        go_wp2_with fail
        refine (HN1.out _).mono ?_
        rintro _ w3 ⟨rfl, hb⟩
        replace H := H.below hb
        clear hb
        try clear C
        try simp only [World.size_alloc, List.nil_append, List.cons_append, List.append_assoc] at H
        try clear w2
        have C := H.cells
        try simp only [cellsOf, cellsM, apartOf, apartM, and_true] at C
        dsimp only
        clear HN1
        go_upto_region 4 with fail
        generalize hwb : w3.alloc _ = w4
        replace H := HS.eqW hwb H.alloc
        try simp only [World.size_alloc, List.nil_append, List.cons_append, List.append_assoc] at H
        clear hwb
        generalize w3.heap.size = b7 at H ⊢
        try clear C
        try clear w3
        have C := H.cells
        try simp only [cellsOf, cellsM, apartOf, apartM, and_true] at C
        go_wp2_with fail
        refine (HN2.out _).mono ?_
        rintro _ w5 ⟨rfl, hb⟩
        replace H := H.below hb
        clear hb
        try clear C
        try simp only [World.size_alloc, List.nil_append, List.cons_append, List.append_assoc] at H
        try clear w4
        have C := H.cells
        try simp only [cellsOf, cellsM, apartOf, apartM, and_true] at C
        dsimp only
        clear HN2
        go_upto_region 5 with fail
        generalize hwb : w5.alloc _ = w6
        replace H := HS.eqW hwb H.alloc
        try simp only [World.size_alloc, List.nil_append, List.cons_append, List.append_assoc] at H
        clear hwb
        generalize w5.heap.size = b9 at H ⊢
        try clear C
        try clear w5
        have C := H.cells
        try simp only [cellsOf, cellsM, apartOf, apartM, and_true] at C
        go_wp2_with fail
        refine (HAW.out _ (HNm.out.below H.done)).mono ?_
        rintro _ w7 ⟨rfl, hb⟩
        replace H := H.below hb
        clear hb
        try clear C
        try simp only [World.size_alloc, List.nil_append, List.cons_append, List.append_assoc] at H
        try clear w6
        have C := H.cells
        try simp only [cellsOf, cellsM, apartOf, apartM, and_true] at C
        dsimp only
        go_wp2_with fail
        refine (HSP.out _).mono ?_
        rintro _ w8 ⟨rfl, hb⟩
        replace H := H.below hb
        clear hb
        try clear C
        try simp only [World.size_alloc, List.nil_append, List.cons_append, List.append_assoc] at H
        try clear w7
        have C := H.cells
        try simp only [cellsOf, cellsM, apartOf, apartM, and_true] at C
        dsimp only
        clear HSP
        go_wp2_with fail
        refine (HAG.out _ (HNm.out.below H.done) (HME.out.up H.done) (HBZ.out.up H.done)).mono ?_
        rintro _ w9 ⟨rfl, hb⟩
        replace H := H.below hb
        clear hb
        try clear C
        try simp only [World.size_alloc, List.nil_append, List.cons_append, List.append_assoc] at H
        try clear w8
        have C := H.cells
        try simp only [cellsOf, cellsM, apartOf, apartM, and_true] at C
        dsimp only
        clear HAG
        go_wp2_with fail
        go_ret
        exact ⟨by first | rfl | go_simp, H.done⟩
      · have h8i : bv > 8 := by omega
        clear hbs hm hw hf h8 H256
        go_enter Tryd.func7, Tryd.ntmps7
        have H := HS.start NoD w
        go_upto_region 1 with fail
        generalize hwb : ((w.alloc _).alloc _).alloc _ = w1
        replace H := HS.eqW hwb H.alloc.alloc.alloc
        try simp only [World.size_alloc, List.nil_append, List.cons_append, List.append_assoc] at H
        clear hwb
        generalize w.heap.size + 2 = bF at H ⊢
        generalize w.heap.size + 1 = bW at H ⊢
        generalize w.heap.size = bM at H ⊢
        try clear C
        have C := H.cells
        try simp only [cellsOf, cellsM, apartOf, apartM, and_true] at C
        go_wp2_with fail
        refine (HBI.out _).mono ?_
        rintro _ w2 ⟨rfl, hb⟩
        replace H := H.below hb
        clear hb
        try clear C
        try simp only [World.size_alloc, List.nil_append, List.cons_append, List.append_assoc] at H
        try clear w1
        have C := H.cells
        try simp only [cellsOf, cellsM, apartOf, apartM, and_true] at C
        dsimp only
        clear HBI
        go_wp2_with fail
        refine (HAW.out _ (HNm.out.below H.done)).mono ?_
        rintro _ w3 ⟨rfl, hb⟩
        replace H := H.below hb
        clear hb
        try clear C
        try simp only [World.size_alloc, List.nil_append, List.cons_append, List.append_assoc] at H
        try clear w2
        have C := H.cells
        try simp only [cellsOf, cellsM, apartOf, apartM, and_true] at C
        dsimp only
        go_wp2_with fail
        go_ret
        exact ⟨by first | rfl | go_simp, H.done⟩
    · have hfi : (M.fs.length : Int) > 100 := by omega
      clear hbs hm hw hf H256 HBI
      go_enter Tryd.func7, Tryd.ntmps7
      have H := HS.start NoD w
      go_upto_region 1 with fail
      generalize hwb : ((w.alloc _).alloc _).alloc _ = w1
      replace H := HS.eqW hwb H.alloc.alloc.alloc
      try simp only [World.size_alloc, List.nil_append, List.cons_append, List.append_assoc] at H
      clear hwb
      generalize w.heap.size + 2 = bF at H ⊢
      generalize w.heap.size + 1 = bW at H ⊢
      generalize w.heap.size = bM at H ⊢
      try clear C
      have C := H.cells
      try simp only [cellsOf, cellsM, apartOf, apartM, and_true] at C
      go_wp2_with fail
      refine (HAW.out _ (HNm.out.below H.done)).mono ?_
      rintro _ w2 ⟨rfl, hb⟩
      replace H := H.below hb
      clear hb
      try clear C
      try simp only [World.size_alloc, List.nil_append, List.cons_append, List.append_assoc] at H
      try clear w1
      have C := H.cells
      try simp only [cellsOf, cellsM, apartOf, apartM, and_true] at C
      dsimp only
      go_wp2_with fail
      go_ret
      exact ⟨by first | rfl | go_simp, H.done⟩
  · have hwi : (M.ws.length : Int) > 100 := by omega
    clear hbs hm hw H256 HBI
    go_enter Tryd.func7, Tryd.ntmps7
    have H := HS.start NoD w
    go_upto_region 1 with fail
    generalize hwb : ((w.alloc _).alloc _).alloc _ = w1
    replace H := HS.eqW hwb H.alloc.alloc.alloc
    try simp only [World.size_alloc, List.nil_append, List.cons_append, List.append_assoc] at H
    clear hwb
    generalize w.heap.size + 2 = bF at H ⊢
    generalize w.heap.size + 1 = bW at H ⊢
    generalize w.heap.size = bM at H ⊢
    try clear C
    have C := H.cells
    try simp only [cellsOf, cellsM, apartOf, apartM, and_true] at C
    go_wp2_with fail
    refine (HAW.out _ (HNm.out.below H.done)).mono ?_
    rintro _ w2 ⟨rfl, hb⟩
    replace H := H.below hb
    clear hb
    try clear C
    try simp only [World.size_alloc, List.nil_append, List.cons_append, List.append_assoc] at H
    try clear w1
    have C := H.cells
    try simp only [cellsOf, cellsM, apartOf, apartM, and_true] at C
    dsimp only
    go_wp2_with fail
    go_ret
    exact ⟨by first | rfl | go_simp, H.done⟩
end Go.Proofs.YtplflpmkomeadaaDoor
