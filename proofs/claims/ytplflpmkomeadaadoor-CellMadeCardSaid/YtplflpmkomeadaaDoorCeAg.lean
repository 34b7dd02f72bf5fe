/- Chapter 13's agree: all functions of both packages answer alike. -/
import Derived.Test.YtplflpmkomeadaaDoorCeMr
import Derived.Test.YtplflpmkomeadaaDoorCeY
import Derived.Test.YtplflpmkomeadaaDoorCeSt
import Derived.Test.YtplflpmkomeadaaDoorCeRp
import Derived.Test.YtplflpmkomeadaaDoorCeSm
import Derived.Test.YtplflpmkomeadaaDoorCeZp
namespace Go.Proofs.YtplflpmkomeadaaDoor
set_option linter.unusedSimpArgs false
set_option linter.unusedVariables false
open Go.RowKit
set_option maxRecDepth 100000
attribute [local irreducible] wpX wpF Calls

theorem stkL_len2 (c : Fa → Bool) : ∀ (fs : List Fa) (m : Wm), (stkL c fs m).bs.length = m.bs.length
  | [], m => rfl
  | f :: fs, m => by
    show (stkL c fs (if c f = true then stkAt f.ch f.ms f.vl m else m)).bs.length = _
    rw [stkL_len2 c fs]
    split
    · exact stkAt_len _ _ _ _
    · rfl
theorem storedF_len (M : Mm) (i : Int) : (storedF M i).1.bs.length ≤ 40 := by
  unfold storedF
  split
  · rename_i hg
    have h := goodB_iff.1 hg
    have hr := codeB_rng h.co
    split
    · show (lookW (M.dt + M.ck).toNat M.ws i).bs.length ≤ 40
      rw [h.ws.look_len]; omega
    · exact Nat.zero_le _
  · exact Nat.zero_le _
theorem fetchF_len (M : Mm) (i : Int) : (fetchF M i).1.bs.length ≤ 40 := by
  unfold fetchF
  split
  · rename_i hw
    have h := goodB_iff.1 (wrongF_ok hw).1
    have hr := codeB_rng h.co
    show (stkL _ M.fs (lookW (M.dt + M.ck).toNat M.ws i)).bs.length ≤ 40
    rw [stkL_len2, h.ws.look_len]; omega
  · exact Nat.zero_le _
theorem putW_len (ws : List Wm) (m : Wm) : (putW ws m).length ≤ 2 * ws.length + 1 := by
  unfold putW
  rw [List.length_append, List.length_append]
  have h1 : (ws.filter (fun x => decide (x.ix < m.ix))).length ≤ ws.length := List.length_filter_le _ _
  have h2 : (ws.filter (fun x => decide (m.ix < x.ix))).length ≤ ws.length := List.length_filter_le _ _
  split
  · simp; omega
  · simp; omega
theorem storeF_long {M : Mm} (hs : SmallM M) {m : Wm} (hz : m.bs.length ≤ 140737488355328) : LongM (storeF M m).1 := by
  unfold storeF
  split
  · split
    · split
      · refine ⟨?_, Nat.le_trans hs.fs (by decide), fun x hx => ?_⟩
        · have := putW_len M.ws m
          have := hs.ws
          show (putW M.ws m).length ≤ _
          omega
        · rcases mem_putW.1 hx with ⟨h1, -⟩ | ⟨rfl, -⟩
          · exact Nat.le_trans (hs.bs x h1) (by decide)
          · exact Nat.le_trans hz (by decide)
      · exact hs.long
    · exact hs.long
  · exact hs.long
theorem injF_long {M : Mm} (hs : SmallM M) (h256 : szM M ≤ 256) (f : Fa) : LongM (injF M f).1 := by
  unfold injF
  split
  · rename_i hg
    have h := goodB_iff.1 hg
    split
    · split
      · split
        · exact hs.long
        · split
          · exact hs.long
          · refine ⟨Nat.le_trans hs.ws (by decide), ?_, hs.long.bs⟩
            show (M.fs ++ [f]).length ≤ _
            rw [List.length_append]
            have := hs.fs
            simp; omega
      · have hg2 := h.setWs (h.ws.flip f.ch f.ms _ (covM_lt M f))
        exact (hg2.small (Nat.le_trans (show szM _ ≤ 256 from h256) (by decide))).long
    · exact hs.long
  · exact hs.long
theorem repF_long {M : Mm} (hs : SmallM M) (f : Fa) : LongM (repF M f).1 := by
  unfold repF
  split
  · split
    · refine ⟨Nat.le_trans hs.ws (by decide), ?_, hs.long.bs⟩
      exact Nat.le_trans (List.length_filter_le _ _) (Nat.le_trans hs.fs (by decide))
    · exact hs.long
  · exact hs.long
set_option maxHeartbeats 16000000 in
theorem agree13_any (M : Mm) (x y : Sv) (hs : SmallM M) (h256 : szM M ≤ 256) (m : Wm) (z : Sv) (hz : m.bs.length ≤ 140737488355328) (f : Fa) (w : World) (hNm : Nm w) (h : MeAt w x y M) (hb : BytesAt w z m.bs) : Calls Tryd.prog 34 #[meV M x y, cwV m z, cfV f] w (Gives (.bool true) w) := by
  have HME := Lib.hid h
  have HBZ := Lib.hid hb
  have HNm := Lib.hid hNm
  have hlz := hb.len
  clear h hb hNm
  obtain ⟨⟨A, e1⟩, hA⟩ : ∃ p, p = storedF M m.ix := ⟨_, rfl⟩
  obtain ⟨⟨B, e2⟩, hB⟩ : ∃ p, p = fetchF M m.ix := ⟨_, rfl⟩
  obtain ⟨⟨P, e3⟩, hP⟩ : ∃ p, p = storeF M m := ⟨_, rfl⟩
  obtain ⟨⟨Q, e4⟩, hQ⟩ : ∃ p, p = injF M f := ⟨_, rfl⟩
  obtain ⟨⟨R, e5⟩, hR⟩ : ∃ p, p = repF M f := ⟨_, rfl⟩
  have hAl : A.bs.length ≤ 9223372036854775807 := by have := storedF_len M m.ix; rw [← hA] at this; exact Nat.le_trans this (by decide)
  have hBl : B.bs.length ≤ 9223372036854775807 := by have := fetchF_len M m.ix; rw [← hB] at this; exact Nat.le_trans this (by decide)
  have hPl : LongM P := by have := storeF_long hs (m := m) hz; rw [← hP] at this; exact this
  have hQl : LongM Q := by have := injF_long hs h256 f; rw [← hQ] at this; exact this
  have hRl : LongM R := by have := repF_long hs f; rw [← hR] at this; exact this
  have HA1 := Lib.hid (fun wx hn hx => (show Calls Tryd.prog 19 #[meV M x y, .int .i64 m.ix] wx (GivesCwRE A e1 wx) from by have h9 := cstored_any M x y hs m.ix wx hn hx; rw [← hA] at h9; exact h9))
  have HA2 := Lib.hid (fun wx hx => (show Calls Tryd.prog 65 #[meV M x y, .int .i64 m.ix] wx (GivesCwRE A e1 wx) from by have h9 := r13stored_any M x y hs m.ix wx hx; rw [← hA] at h9; exact h9))
  have HB1 := Lib.hid (fun wx hn hx => (show Calls Tryd.prog 25 #[meV M x y, .int .i64 m.ix] wx (GivesCwRE B e2 wx) from by have h9 := cfetch13_any M x y hs m.ix wx hn hx; rw [← hB] at h9; exact h9))
  have HB2 := Lib.hid (fun wx hx => (show Calls Tryd.prog 66 #[meV M x y, .int .i64 m.ix] wx (GivesCwRE B e2 wx) from by have h9 := r13fetch_any M x y hs m.ix wx hx; rw [← hB] at h9; exact h9))
  have HP1 := Lib.hid (fun wx hn hx hb => (show Calls Tryd.prog 30 #[meV M x y, cwV m z] wx (GivesMeE P e3 wx) from by have h9 := cstore_any M x y hs m z hz wx hn hx hb; rw [← hP] at h9; exact h9))
  have HP2 := Lib.hid (fun wx hx hb => (show Calls Tryd.prog 38 #[meV M x y, cwV m z] wx (GivesMeE P e3 wx) from by have h9 := r13store_any M x y hs m z hz wx hx hb; rw [← hP] at h9; exact h9))
  have HQ1 := Lib.hid (fun wx hn hx => (show Calls Tryd.prog 15 #[meV M x y, cfV f] wx (GivesMeE Q e4 wx) from by have h9 := cinject_any M x y hs f wx hn hx; rw [← hQ] at h9; exact h9))
  have HQ2 := Lib.hid (fun wx hx => (show Calls Tryd.prog 39 #[meV M x y, cfV f] wx (GivesMeE Q e4 wx) from by have h9 := r13inject_any M x y hs h256 f wx hx; rw [← hQ] at h9; exact h9))
  have HR1 := Lib.hid (fun wx hn hx => (show Calls Tryd.prog 24 #[meV M x y, cfV f] wx (GivesMeE R e5 wx) from by have h9 := crepair_any M x y hs f wx hn hx; rw [← hR] at h9; exact h9))
  have HR2 := Lib.hid (fun wx hx => (show Calls Tryd.prog 67 #[meV M x y, cfV f] wx (GivesMeE R e5 wx) from by have h9 := r13repair_any M x y hs f wx hx; rw [← hR] at h9; exact h9))
  have HSA := Lib.hid (fun (x1 y1 : Sv) wx hx hy => (show Calls Tryd.prog 23 #[cwV A x1, cwV A y1] wx (Gives (.bool true) wx) from by have h9 := sameWord13_any A A x1 y1 hAl hAl wx hx hy; rw [decide_eq_true rfl] at h9; exact h9))
  have HSB := Lib.hid (fun (x1 y1 : Sv) wx hx hy => (show Calls Tryd.prog 23 #[cwV B x1, cwV B y1] wx (Gives (.bool true) wx) from by have h9 := sameWord13_any B B x1 y1 hBl hBl wx hx hy; rw [decide_eq_true rfl] at h9; exact h9))
  have HSP := Lib.hid (fun (x1 y1 u v : Sv) wx hx hy => (show Calls Tryd.prog 20 #[meV P x1 y1, meV P u v] wx (Gives (.bool true) wx) from by have h9 := same13_any P P x1 y1 u v hPl hPl wx hx hy; rw [decide_eq_true rfl] at h9; exact h9))
  have HSQ := Lib.hid (fun (x1 y1 u v : Sv) wx hx hy => (show Calls Tryd.prog 20 #[meV Q x1 y1, meV Q u v] wx (Gives (.bool true) wx) from by have h9 := same13_any Q Q x1 y1 u v hQl hQl wx hx hy; rw [decide_eq_true rfl] at h9; exact h9))
  have HSR := Lib.hid (fun (x1 y1 u v : Sv) wx hx hy => (show Calls Tryd.prog 20 #[meV R x1 y1, meV R u v] wx (Gives (.bool true) wx) from by have h9 := same13_any R R x1 y1 u v hRl hRl wx hx hy; rw [decide_eq_true rfl] at h9; exact h9))
  obtain ⟨gb, hgb⟩ : ∃ g, g = goodB M := ⟨_, rfl⟩
  obtain ⟨sb, hsb⟩ : ∃ g, g = decide (M = Q) := ⟨_, rfl⟩
  have HV1 := Lib.hid (fun wx hn hx => (show Calls Tryd.prog 21 #[meV M x y] wx (Gives (.bool gb) wx) from by rw [hgb]; exact cvalid13_any M x y hs.long wx hn hx))
  have HV2 := Lib.hid (fun wx hx => (show Calls Tryd.prog 64 #[meV M x y] wx (Gives (.bool gb) wx) from by rw [hgb]; exact rv13_any M x y hs.long wx hx))
  have HS1 := Lib.hid (fun (u v : Sv) wx hx hy => (show Calls Tryd.prog 68 #[meV M x y, meV Q u v] wx (Gives (.bool sb) wx) from by rw [hsb]; exact csame_any M Q x y u v hs.long hQl wx hx hy))
  have HS2 := Lib.hid (fun (u v : Sv) wx hx hy => (show Calls Tryd.prog 20 #[meV M x y, meV Q u v] wx (Gives (.bool sb) wx) from by rw [hsb]; exact same13_any M Q x y u v hs.long hQl wx hx hy))
  clear hs h256 hz hA hB hP hQ hR hAl hBl hPl hQl hRl hgb hsb
  obtain ⟨xa, xn, xc⟩ := x
  obtain ⟨ya, yn, yc⟩ := y
  obtain ⟨za, zn, zc⟩ := z
  dsimp only at hlz
  subst hlz
  show Calls Tryd.prog 34 #[.agg #[.int .i64 M.s0, .int .i64 M.s1, .int .i64 M.s2, .int .i64 M.s3, .int .i64 M.s4, .int .i64 M.s5, .int .i64 M.kd, .int .i64 M.dt, .int .i64 M.ck, .int .i64 M.fx, .slice xa xn xc, .slice ya yn yc], .agg #[.int .i64 m.ix, .slice za m.bs.length zc, .bool m.po], .agg #[.int .i64 f.k, .int .i64 f.p0, .int .i64 f.p1, .int .i64 f.p2, .int .i64 f.p3, .int .i64 f.p4, .int .i64 f.p5, .int .i64 f.ch, .int .u8 f.ms, .int .u8 f.vl, .bool f.hd]] w _
  go_enter Tryd.func34, Tryd.ntmps34
  have H := HS.start NoD w
  go_upto_region 1 with fail
  generalize hwb : ((w.alloc _).alloc _).alloc _ = w1
  replace H := HS.eqW hwb H.alloc.alloc.alloc
  try simp only [World.size_alloc, List.nil_append, List.cons_append, List.append_assoc] at H
  clear hwb
  generalize w.heap.size + 2 = bF at H ⊢
  generalize w.heap.size + 1 = bW at H ⊢
  generalize w.heap.size = bM at H ⊢
  try clear C
  have C := H.cells
  try simp only [cellsOf, cellsM, apartOf, apartM, and_true] at C
  go_wp2_with fail
  refine (HA1.out _ (HNm.out.below H.done) (HME.out.up H.done)).mono ?_
  rintro _ w61 ⟨s1, t1, rfl, K0⟩
  replace H := H.join K0 (one_low rfl)
  clear K0
  try simp only [List.nil_append, List.cons_append] at H
  skip
  try clear C
  try simp only [World.size_alloc, List.nil_append, List.cons_append, List.append_assoc] at H
  have C := H.cells
  try simp only [cellsOf, cellsM, apartOf, apartM, and_true] at C
  try dsimp only [meV, cwV] at H ⊢
  try dsimp only [meV, cwV]
  clear HA1
  go_upto_region 2 with fail
  generalize hwb : w61.alloc _ = w2
  replace H := HS.eqW hwb H.alloc
  try simp only [World.size_alloc, List.nil_append, List.cons_append, List.append_assoc] at H
  clear hwb
  generalize w61.heap.size = b7 at H ⊢
  try clear C
  try clear w61
  have C := H.cells
  try simp only [cellsOf, cellsM, apartOf, apartM, and_true] at C
  go_wp2_with fail
  refine (HA2.out _ (HME.out.up H.done)).mono ?_
  rintro _ w62 ⟨s2, t2, rfl, K0⟩
  replace H := H.join K0 (one_low rfl)
  clear K0
  try simp only [List.nil_append, List.cons_append] at H
  skip
  try clear C
  try simp only [World.size_alloc, List.nil_append, List.cons_append, List.append_assoc] at H
  have C := H.cells
  try simp only [cellsOf, cellsM, apartOf, apartM, and_true] at C
  try dsimp only [meV, cwV] at H ⊢
  try dsimp only [meV, cwV]
  clear HA2
  go_upto_region 3 with fail
  generalize hwb : w62.alloc _ = w3
  replace H := HS.eqW hwb H.alloc
  try simp only [World.size_alloc, List.nil_append, List.cons_append, List.append_assoc] at H
  clear hwb
  generalize w62.heap.size = b9 at H ⊢
  try clear C
  try clear w62
  have C := H.cells
  try simp only [cellsOf, cellsM, apartOf, apartM, and_true] at C
  go_wp2_with fail
  refine (HB1.out _ (HNm.out.below H.done) (HME.out.up H.done)).mono ?_
  rintro _ w63 ⟨s3, t3, rfl, K0⟩
  replace H := H.join K0 (one_low rfl)
  clear K0
  try simp only [List.nil_append, List.cons_append] at H
  skip
  try clear C
  try simp only [World.size_alloc, List.nil_append, List.cons_append, List.append_assoc] at H
  have C := H.cells
  try simp only [cellsOf, cellsM, apartOf, apartM, and_true] at C
  try dsimp only [meV, cwV] at H ⊢
  try dsimp only [meV, cwV]
  clear HB1
  go_upto_region 4 with fail
  generalize hwb : w63.alloc _ = w4
  replace H := HS.eqW hwb H.alloc
  try simp only [World.size_alloc, List.nil_append, List.cons_append, List.append_assoc] at H
  clear hwb
  generalize w63.heap.size = b11 at H ⊢
  try clear C
  try clear w63
  have C := H.cells
  try simp only [cellsOf, cellsM, apartOf, apartM, and_true] at C
  go_wp2_with fail
  refine (HB2.out _ (HME.out.up H.done)).mono ?_
  rintro _ w64 ⟨s4, t4, rfl, K0⟩
  replace H := H.join K0 (one_low rfl)
  clear K0
  try simp only [List.nil_append, List.cons_append] at H
  skip
  try clear C
  try simp only [World.size_alloc, List.nil_append, List.cons_append, List.append_assoc] at H
  have C := H.cells
  try simp only [cellsOf, cellsM, apartOf, apartM, and_true] at C
  try dsimp only [meV, cwV] at H ⊢
  try dsimp only [meV, cwV]
  clear HB2
  go_upto_region 5 with fail
  generalize hwb : w64.alloc _ = w5
  replace H := HS.eqW hwb H.alloc
  try simp only [World.size_alloc, List.nil_append, List.cons_append, List.append_assoc] at H
  clear hwb
  generalize w64.heap.size = b13 at H ⊢
  try clear C
  try clear w64
  have C := H.cells
  try simp only [cellsOf, cellsM, apartOf, apartM, and_true] at C
  go_wp2_with fail
  refine (HP1.out _ (HNm.out.below H.done) (HME.out.up H.done) (HBZ.out.up H.done)).mono ?_
  rintro _ w65 ⟨⟨a1, n1, c1⟩, ⟨b1, m1, d1⟩, q1, F1, hq1, rfl, K0⟩
  replace H := H.join K0 (one_low rfl)
  clear K0
  try simp only [List.nil_append, List.cons_append] at H
  skip
  try clear C
  try simp only [World.size_alloc, List.nil_append, List.cons_append, List.append_assoc] at H
  have C := H.cells
  try simp only [cellsOf, cellsM, apartOf, apartM, and_true] at C
  try dsimp only [meV, cwV] at H ⊢
  try dsimp only [meV, cwV]
  have HK1 := Lib.hid hq1
  clear hq1 HP1
  go_upto_region 6 with fail
  generalize hwb : w65.alloc _ = w6
  replace H := HS.eqW hwb H.alloc
  try simp only [World.size_alloc, List.nil_append, List.cons_append, List.append_assoc] at H
  clear hwb
  generalize w65.heap.size = b15 at H ⊢
  try clear C
  try clear w65
  have C := H.cells
  try simp only [cellsOf, cellsM, apartOf, apartM, and_true] at C
  go_wp2_with fail
  refine (HP2.out _ (HME.out.up H.done) (HBZ.out.up H.done)).mono ?_
  rintro _ w66 ⟨⟨a2, n2, c2⟩, ⟨b2, m2, d2⟩, q2, F2, hq2, rfl, K0⟩
  replace H := H.join K0 (one_low rfl)
  clear K0
  try simp only [List.nil_append, List.cons_append] at H
  skip
  try clear C
  try simp only [World.size_alloc, List.nil_append, List.cons_append, List.append_assoc] at H
  have C := H.cells
  try simp only [cellsOf, cellsM, apartOf, apartM, and_true] at C
  try dsimp only [meV, cwV] at H ⊢
  try dsimp only [meV, cwV]
  have HK2 := Lib.hid hq2
  clear hq2 HP2
  go_upto_region 7 with fail
  generalize hwb : w66.alloc _ = w7
  replace H := HS.eqW hwb H.alloc
  try simp only [World.size_alloc, List.nil_append, List.cons_append, List.append_assoc] at H
  clear hwb
  generalize w66.heap.size = b17 at H ⊢
  try clear C
  try clear w66
  have C := H.cells
  try simp only [cellsOf, cellsM, apartOf, apartM, and_true] at C
  go_wp2_with fail
  refine (HSA.out ⟨s1, A.bs.length, t1⟩ ⟨s2, A.bs.length, t2⟩ _ (bytes_row rfl (H.at 3 rfl)) (bytes_row rfl (H.at 5 rfl))).mono ?_
  rintro _ w8 ⟨rfl, hb⟩
  replace H := H.below hb
  clear hb
  try clear C
  try simp only [World.size_alloc, List.nil_append, List.cons_append, List.append_assoc] at H
  try clear w7
  have C := H.cells
  try simp only [cellsOf, cellsM, apartOf, apartM, and_true] at C
  dsimp only
  clear HSA
  go_wp2_with fail
  refine (HSB.out ⟨s3, B.bs.length, t3⟩ ⟨s4, B.bs.length, t4⟩ _ (bytes_row rfl (H.at 7 rfl)) (bytes_row rfl (H.at 9 rfl))).mono ?_
  rintro _ w9 ⟨rfl, hb⟩
  replace H := H.below hb
  clear hb
  try clear C
  try simp only [World.size_alloc, List.nil_append, List.cons_append, List.append_assoc] at H
  try clear w8
  have C := H.cells
  try simp only [cellsOf, cellsM, apartOf, apartM, and_true] at C
  dsimp only
  clear HSB
  go_wp2_with fail
  refine (HSP.out ⟨a1, n1, c1⟩ ⟨b1, m1, d1⟩ ⟨a2, n2, c2⟩ ⟨b2, m2, d2⟩ _ (meAt_of HK1.out (H.says 11 rfl)) (meAt_of HK2.out (H.says 13 rfl))).mono ?_
  rintro _ w10 ⟨rfl, hb⟩
  replace H := H.below hb
  clear hb
  try clear C
  try simp only [World.size_alloc, List.nil_append, List.cons_append, List.append_assoc] at H
  try clear w9
  have C := H.cells
  try simp only [cellsOf, cellsM, apartOf, apartM, and_true] at C
  dsimp only
  clear HSP
  go_wp2_with fail
  refine (HQ1.out _ (HNm.out.below H.done) (HME.out.up H.done)).mono ?_
  rintro _ w67 ⟨⟨a3, n3, c3⟩, ⟨b3, m3, d3⟩, q3, F3, hq3, rfl, K0⟩
  replace H := H.join K0 (one_low rfl)
  clear K0
  try simp only [List.nil_append, List.cons_append] at H
  skip
  try clear C
  try simp only [World.size_alloc, List.nil_append, List.cons_append, List.append_assoc] at H
  have C := H.cells
  try simp only [cellsOf, cellsM, apartOf, apartM, and_true] at C
  try dsimp only [meV, cwV] at H ⊢
  try dsimp only [meV, cwV]
  have HK3 := Lib.hid hq3
  clear hq3 HQ1
  repeat go_step
  generalize hwb : (((((((((((w67.setCell _ _).setCell _ _).setCell _ _).setCell _ _).setCell _ _).setCell _ _).setCell _ _).setCell _ _).setCell _ _).setCell _ _).setCell _ _).setCell _ _ = w11
  replace H := HS.eqW hwb (H.putAll (i := 12) rfl (vs := [.int .i64 Q.s0, .int .i64 Q.s1, .int .i64 Q.s2, .int .i64 Q.s3, .int .i64 Q.s4, .int .i64 Q.s5, .int .i64 Q.kd, .int .i64 Q.dt, .int .i64 Q.ck, .int .i64 Q.fx, .slice a3 n3 c3, .slice b3 m3 d3]) rfl rfl)
  simp only [List.nil_append, List.cons_append, List.append_assoc, List.set_cons_succ, List.set_cons_zero] at H
  clear hwb
  try clear C
  try clear w67
  have C := H.cells
  try simp only [cellsOf, cellsM, apartOf, apartM, and_true] at C
  go_wp2_with fail
  refine (HQ2.out _ (HME.out.up H.done)).mono ?_
  rintro _ w68 ⟨⟨a4, n4, c4⟩, ⟨b4, m4, d4⟩, q4, F4, hq4, rfl, K0⟩
  replace H := H.join K0 (one_low rfl)
  clear K0
  try simp only [List.nil_append, List.cons_append] at H
  skip
  try clear C
  try simp only [World.size_alloc, List.nil_append, List.cons_append, List.append_assoc] at H
  have C := H.cells
  try simp only [cellsOf, cellsM, apartOf, apartM, and_true] at C
  try dsimp only [meV, cwV] at H ⊢
  try dsimp only [meV, cwV]
  have HK4 := Lib.hid hq4
  clear hq4 HQ2
  repeat go_step
  generalize hwb : (((((((((((w68.setCell _ _).setCell _ _).setCell _ _).setCell _ _).setCell _ _).setCell _ _).setCell _ _).setCell _ _).setCell _ _).setCell _ _).setCell _ _).setCell _ _ = w12
  replace H := HS.eqW hwb (H.putAll (i := 14) rfl (vs := [.int .i64 Q.s0, .int .i64 Q.s1, .int .i64 Q.s2, .int .i64 Q.s3, .int .i64 Q.s4, .int .i64 Q.s5, .int .i64 Q.kd, .int .i64 Q.dt, .int .i64 Q.ck, .int .i64 Q.fx, .slice a4 n4 c4, .slice b4 m4 d4]) rfl rfl)
  simp only [List.nil_append, List.cons_append, List.append_assoc, List.set_cons_succ, List.set_cons_zero] at H
  clear hwb
  try clear C
  try clear w68
  have C := H.cells
  try simp only [cellsOf, cellsM, apartOf, apartM, and_true] at C
  go_wp2_with fail
  refine (HR1.out _ (HNm.out.below H.done) (HME.out.up H.done)).mono ?_
  rintro _ w69 ⟨⟨a5, n5, c5⟩, ⟨b5, m5, d5⟩, q5, F5, hq5, rfl, K0⟩
  replace H := H.join K0 (one_low rfl)
  clear K0
  try simp only [List.nil_append, List.cons_append] at H
  skip
  try clear C
  try simp only [World.size_alloc, List.nil_append, List.cons_append, List.append_assoc] at H
  have C := H.cells
  try simp only [cellsOf, cellsM, apartOf, apartM, and_true] at C
  try dsimp only [meV, cwV] at H ⊢
  try dsimp only [meV, cwV]
  have HK5 := Lib.hid hq5
  clear hq5 HR1
  go_upto_region 12 with fail
  generalize hwb : w69.alloc _ = w13
  replace H := HS.eqW hwb H.alloc
  try simp only [World.size_alloc, List.nil_append, List.cons_append, List.append_assoc] at H
  clear hwb
  generalize w69.heap.size = b19 at H ⊢
  try clear C
  try clear w69
  have C := H.cells
  try simp only [cellsOf, cellsM, apartOf, apartM, and_true] at C
  go_wp2_with fail
  refine (HR2.out _ (HME.out.up H.done)).mono ?_
  rintro _ w70 ⟨⟨a6, n6, c6⟩, ⟨b6, m6, d6⟩, q6, F6, hq6, rfl, K0⟩
  replace H := H.join K0 (one_low rfl)
  clear K0
  try simp only [List.nil_append, List.cons_append] at H
  skip
  try clear C
  try simp only [World.size_alloc, List.nil_append, List.cons_append, List.append_assoc] at H
  have C := H.cells
  try simp only [cellsOf, cellsM, apartOf, apartM, and_true] at C
  try dsimp only [meV, cwV] at H ⊢
  try dsimp only [meV, cwV]
  have HK6 := Lib.hid hq6
  clear hq6 HR2
  go_upto_region 13 with fail
  generalize hwb : w70.alloc _ = w14
  replace H := HS.eqW hwb H.alloc
  try simp only [World.size_alloc, List.nil_append, List.cons_append, List.append_assoc] at H
  clear hwb
  generalize w70.heap.size = b21 at H ⊢
  try clear C
  try clear w70
  have C := H.cells
  try simp only [cellsOf, cellsM, apartOf, apartM, and_true] at C
  refine wp_region_xH (by kernel_rfl) (by kernel_rfl) (by kernel_rfl) (by kernel_rfl) (fun _ => False) (H) ?_
  clear H; intro w15 H hz0 hs0
  try clear C
  try simp only [World.size_alloc, List.nil_append, List.cons_append, List.append_assoc] at H hz0
  clear hz0
  try clear w14
  have C := H.cells
  try simp only [cellsOf, cellsM, apartOf, apartM, and_true] at C
  have Z := H.zs
  try simp only [ltsOf, ltsM, and_true] at Z
  have hz0 := Nat.le_refl w15.heap.size
  repeat (first | (refine wpX_skip rfl ?_; go_simp) | (refine wpX_free rfl rfl rfl (fun K hK => ?_); go_step; refine hK _ _ ?_; clear hK K) | (refine wpX_load rfl rfl rfl (by simp [Stay, OneD, NoD, *]) hs0 (by simp [*]) (fun K hK => ?_); go_step; refine hK _ _ ?_; clear hK K))
  refine wpX_eff rfl rfl (fun _ _ => ?_)
  go_step
  refine (HSQ.out ⟨a3, n3, c3⟩ ⟨b3, m3, d3⟩ ⟨a4, n4, c4⟩ ⟨b4, m4, d4⟩ _ (meAt_of HK3.out (H.says 15 rfl)) (meAt_of HK4.out (H.says 16 rfl))).mono ?_
  rintro _ w16 ⟨rfl, hb⟩
  replace hs0 := hs0.belowS hz0 hb
  replace hz0 := Nat.le_trans hz0 hb.size
  replace H := H.below hb
  clear hb
  try clear C
  have C := H.cells
  try simp only [cellsOf, cellsM, apartOf, apartM, and_true] at C
  try clear w15
  dsimp only
  go_step
  refine ⟨hs0, ?_⟩
  repeat (first | (refine wpX_skip rfl ?_; go_simp) | (refine wpX_free rfl rfl rfl (fun K hK => ?_); go_step; refine hK _ _ ?_; clear hK K) | (refine wpX_load rfl rfl rfl (by simp [Stay, OneD, NoD, *]) hs0 (by simp [*]) (fun K hK => ?_); go_step; refine hK _ _ ?_; clear hK K))
  refine wpX_eff rfl rfl (fun _ _ => ?_)
  go_step
  refine (HSR.out ⟨a5, n5, c5⟩ ⟨b5, m5, d5⟩ ⟨a6, n6, c6⟩ ⟨b6, m6, d6⟩ _ (meAt_of HK5.out (H.says 17 rfl)) (meAt_of HK6.out (H.says 19 rfl))).mono ?_
  rintro _ w17 ⟨rfl, hb⟩
  replace hs0 := hs0.belowS hz0 hb
  replace hz0 := Nat.le_trans hz0 hb.size
  replace H := H.below hb
  clear hb
  try clear C
  have C := H.cells
  try simp only [cellsOf, cellsM, apartOf, apartM, and_true] at C
  try clear w16
  dsimp only
  go_step
  refine ⟨hs0, ?_⟩
  repeat (first | (refine wpX_skip rfl ?_; go_simp) | (refine wpX_free rfl rfl rfl (fun K hK => ?_); go_step; refine hK _ _ ?_; clear hK K) | (refine wpX_load rfl rfl rfl (by simp [Stay, OneD, NoD, *]) hs0 (by simp [*]) (fun K hK => ?_); go_step; refine hK _ _ ?_; clear hK K))
  refine wpX_eff rfl rfl (fun _ _ => ?_)
  go_step
  refine (HV1.out _ (HNm.out.below H.done) (HME.out.up H.done)).mono ?_
  rintro _ w18 ⟨rfl, hb⟩
  replace hs0 := hs0.belowS hz0 hb
  replace hz0 := Nat.le_trans hz0 hb.size
  replace H := H.below hb
  clear hb
  try clear C
  have C := H.cells
  try simp only [cellsOf, cellsM, apartOf, apartM, and_true] at C
  try clear w17
  dsimp only
  go_step
  refine ⟨hs0, ?_⟩
  repeat (first | (refine wpX_skip rfl ?_; go_simp) | (refine wpX_free rfl rfl rfl (fun K hK => ?_); go_step; refine hK _ _ ?_; clear hK K) | (refine wpX_load rfl rfl rfl (by simp [Stay, OneD, NoD, *]) hs0 (by simp [*]) (fun K hK => ?_); go_step; refine hK _ _ ?_; clear hK K))
  refine wpX_eff rfl rfl (fun _ _ => ?_)
  go_step
  refine (HV2.out _ (HME.out.up H.done)).mono ?_
  rintro _ w19 ⟨rfl, hb⟩
  replace hs0 := hs0.belowS hz0 hb
  replace hz0 := Nat.le_trans hz0 hb.size
  replace H := H.below hb
  clear hb
  try clear C
  have C := H.cells
  try simp only [cellsOf, cellsM, apartOf, apartM, and_true] at C
  try clear w18
  dsimp only
  go_step
  refine ⟨hs0, ?_⟩
  repeat (first | (refine wpX_skip rfl ?_; go_simp) | (refine wpX_free rfl rfl rfl (fun K hK => ?_); go_step; refine hK _ _ ?_; clear hK K) | (refine wpX_load rfl rfl rfl (by simp [Stay, OneD, NoD, *]) hs0 (by simp [*]) (fun K hK => ?_); go_step; refine hK _ _ ?_; clear hK K))
  refine wpX_eff rfl rfl (fun _ _ => ?_)
  go_step
  refine (HS1.out ⟨a3, n3, c3⟩ ⟨b3, m3, d3⟩ _ (HME.out.up H.done) (meAt_of HK3.out (H.says 15 rfl))).mono ?_
  rintro _ w20 ⟨rfl, hb⟩
  replace hs0 := hs0.belowS hz0 hb
  replace hz0 := Nat.le_trans hz0 hb.size
  replace H := H.below hb
  clear hb
  try clear C
  have C := H.cells
  try simp only [cellsOf, cellsM, apartOf, apartM, and_true] at C
  try clear w19
  dsimp only
  go_step
  refine ⟨hs0, ?_⟩
  repeat (first | (refine wpX_skip rfl ?_; go_simp) | (refine wpX_free rfl rfl rfl (fun K hK => ?_); go_step; refine hK _ _ ?_; clear hK K) | (refine wpX_load rfl rfl rfl (by simp [Stay, OneD, NoD, *]) hs0 (by simp [*]) (fun K hK => ?_); go_step; refine hK _ _ ?_; clear hK K))
  refine wpX_eff rfl rfl (fun _ _ => ?_)
  go_step
  refine (HS2.out ⟨a3, n3, c3⟩ ⟨b3, m3, d3⟩ _ (HME.out.up H.done) (meAt_of HK3.out (H.says 15 rfl))).mono ?_
  rintro _ w21 ⟨rfl, hb⟩
  replace hs0 := hs0.belowS hz0 hb
  replace hz0 := Nat.le_trans hz0 hb.size
  replace H := H.below hb
  clear hb
  try clear C
  have C := H.cells
  try simp only [cellsOf, cellsM, apartOf, apartM, and_true] at C
  try clear w20
  dsimp only
  go_step
  refine ⟨hs0, ?_⟩
  repeat (first | (refine wpX_skip rfl ?_; go_simp) | (refine wpX_free rfl rfl rfl (fun K hK => ?_); go_step; refine hK _ _ ?_; clear hK K) | (refine wpX_load rfl rfl rfl (by simp [Stay, OneD, NoD, *]) hs0 (by simp [*]) (fun K hK => ?_); go_step; refine hK _ _ ?_; clear hK K))
  (refine wpX_nil ?_; go_step)
  go_wp2_with fail
  go_ret
  exact ⟨by first | rfl | go_simp, H.done⟩
end Go.Proofs.YtplflpmkomeadaaDoor
