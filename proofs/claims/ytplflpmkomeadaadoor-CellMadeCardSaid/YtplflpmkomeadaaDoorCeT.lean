/- Seen and Fetch of both packages. -/
import Derived.Test.YtplflpmkomeadaaDoorCeS
import Derived.Test.YtplflpmkomeadaaDoorCeM
namespace Go.Proofs.YtplflpmkomeadaaDoor
set_option linter.unusedSimpArgs false
set_option linter.unusedVariables false
open Go.RowKit
set_option maxRecDepth 100000
attribute [local irreducible] wpX wpF Calls

/-- Does a fault cover the word with an index? -/
def cvF (M : Mm) (f : Fa) (i : Nat) : Bool := cvB M.s0 M.s1 M.s2 M.s3 M.s4 M.s5 f.k f.p0 f.p1 f.p2 f.p3 f.p4 f.p5 i
/-- Bits stuck by those faults that cover. -/
def stkL (c : Fa → Bool) (fs : List Fa) (m : Wm) : Wm := fs.foldl (fun m f => if c f = true then stkAt f.ch f.ms f.vl m else m) m
theorem stkL_no {c : Fa → Bool} {fs : List Fa} {f : Fa} {m : Wm} (h : c f = false) : stkL c (fs ++ [f]) m = stkL c fs m := by
  unfold stkL; rw [List.foldl_append]; simp [h]
theorem stkL_yes {c : Fa → Bool} {fs : List Fa} {f : Fa} {m : Wm} (h : c f = true) : stkL c (fs ++ [f]) m = stkAt f.ch f.ms f.vl (stkL c fs m) := by
  unfold stkL; rw [List.foldl_append]; simp [h]
/-- The word as it is read. -/
def seenW (M : Mm) (i : Int) : Wm := stkL (fun f => cvF M f i.toNat) M.fs (lookW (M.dt + M.ck).toNat M.ws i)
theorem cvF_at {M : Mm} {i q0 q1 q2 q3 q4 q5 : Int} (h : atF M.s0 M.s1 M.s2 M.s3 M.s4 M.s5 i = ⟨q0, q1, q2, q3, q4, q5⟩) (hi : 0 ≤ i) : atF M.s0 M.s1 M.s2 M.s3 M.s4 M.s5 (i.toNat : Int) = ⟨q0, q1, q2, q3, q4, q5⟩ := by
  rw [Int.toNat_of_nonneg hi]; exact h
theorem cvF_eq {M : Mm} {i : Nat} {q0 q1 q2 q3 q4 q5 : Int} (h : atF M.s0 M.s1 M.s2 M.s3 M.s4 M.s5 (i : Int) = ⟨q0, q1, q2, q3, q4, q5⟩) {f : Fa} : cvF M f i = decide ((1 ≤ f.k ∧ f.k ≤ 6) ∧ CV f.k f.p0 f.p1 f.p2 f.p3 f.p4 f.p5 q0 q1 q2 q3 q4 q5) := by
  unfold cvF cvB; rw [h]
set_option maxHeartbeats 8000000 in
theorem r13seen_any (M : Mm) (x y : Sv) (hs : SmallM M) (hg : GoodM M) (i : Int) (hi : 0 ≤ i ∧ i < szM M) (w : World) (h : MeAt w x y M) : Calls Tryd.prog 86 #[meV M x y, .int .i64 i] w (GivesCwR (seenW M i) w) := by
  have hrg := codeB_rng hg.co
  have HLK := Lib.hid (fun wx hx => look13_any M x y hs (by omega) (by omega) i wx hx)
  have HME := Lib.hid h
  obtain ⟨q0, q1, q2, q3, q4, q5, hat⟩ : ∃ q0 q1 q2 q3 q4 q5, atF M.s0 M.s1 M.s2 M.s3 M.s4 M.s5 i = ⟨q0, q1, q2, q3, q4, q5⟩ := ⟨_, _, _, _, _, _, rfl⟩
  have HAT := Lib.hid (fun w => (show Calls Tryd.prog 94 #[v6 M.s0 M.s1 M.s2 M.s3 M.s4 M.s5, .int .i64 i] w (Gives (.tuple #[v6 q0 q1 q2 q3 q4 q5, .int .i64 0]) w) from by
    have h9 := rat_is (i := i) hg.sv hi.1 (by rw [← sizeN_yes hg.sv]; exact hi.2) w
    rw [hat] at h9
    exact h9))
  have hat := cvF_at hat hi.1
  have HCV := Lib.hid (fun f w => (show Calls Tryd.prog 95 #[cfV f, v6 q0 q1 q2 q3 q4 q5] w (Gives (.bool (cvF M f i.toNat)) w) from by rw [cvF_eq hat]; exact rcovers_all f.k f.p0 f.p1 f.p2 f.p3 f.p4 f.p5 f.ch f.ms f.vl q0 q1 q2 q3 q4 q5 f.hd w))
  have HFC := Lib.hid (show ∀ j, j < M.fs.length → 0 ≤ (M.fs[j]!).ch ∧ (M.fs[j]!).ch < M.dt + M.ck from fun j hj => vf_ch (hg.fs _ (fa_mem hj)).2)
  have HBL := Lib.hid (hg.ws.look_len i)
  have hfl : M.fs.length ≤ 64 := hg.fl
  have HCF := Lib.hid h.2.2.2
  have hn2 : y.n = M.fs.length := h.2.1
  obtain ⟨m9, hm9⟩ : ∃ m, m = seenW M i := ⟨_, rfl⟩
  rw [← hm9]
  have HM9 := Lib.hid (show m9 = stkL (fun f => cvF M f i.toNat) M.fs (lookW (M.dt + M.ck).toNat M.ws i) from hm9)
  have hN : ((M.dt + M.ck).toNat : Int) = M.dt + M.ck := by omega
  have hN4 : (M.dt + M.ck).toNat ≤ 1000 := by omega
  generalize (M.dt + M.ck).toNat = N at HLK HBL HM9 hN hN4
  rw [← hN] at HFC
  generalize lookW N M.ws i = m0 at HLK HBL HM9
  obtain ⟨cov, hcov⟩ : ∃ c : Fa → Bool, c = (fun f => cvF M f i.toNat) := ⟨_, rfl⟩
  rw [← hcov] at HM9
  replace HCV := Lib.hid (fun f w => (show Calls Tryd.prog 95 #[cfV f, v6 q0 q1 q2 q3 q4 q5] w (Gives (.bool (cov f)) w) from by rw [hcov]; exact HCV.out f w))
  clear hcov
  clear h hs hg hi hm9 hat hrg hN
  obtain ⟨s0, s1, s2, s3, s4, s5, kd, dt, ck, fx, ws, fs⟩ := M
  obtain ⟨xa0, xn0, xc0⟩ := x
  obtain ⟨ya0, yn0, yc0⟩ := y
  obtain ⟨wi, bs0, po⟩ := m0
  try dsimp only at hn2
  try dsimp only at HBL
  try dsimp only at HFC
  try dsimp only at hfl
  subst hn2
  have HFL := Lib.hid hfl
  replace HLK := Lib.hid (fun wx hx => (show Calls Tryd.prog 74 #[.agg #[.int .i64 s0, .int .i64 s1, .int .i64 s2, .int .i64 s3, .int .i64 s4, .int .i64 s5, .int .i64 kd, .int .i64 dt, .int .i64 ck, .int .i64 fx, .slice xa0 xn0 xc0, .slice ya0 fs.length yc0], .int .i64 i] wx _ from HLK.out wx hx))
  replace HAT := Lib.hid (fun wx => (show Calls Tryd.prog 94 #[.agg #[.int .i64 s0, .int .i64 s1, .int .i64 s2, .int .i64 s3, .int .i64 s4, .int .i64 s5], .int .i64 i] wx _ from HAT.out wx))
  show Calls Tryd.prog 86 #[.agg #[.int .i64 s0, .int .i64 s1, .int .i64 s2, .int .i64 s3, .int .i64 s4, .int .i64 s5, .int .i64 kd, .int .i64 dt, .int .i64 ck, .int .i64 fx, .slice xa0 xn0 xc0, .slice ya0 fs.length yc0], .int .i64 i] w _
  go_enter Tryd.func86, Tryd.ntmps86
  have H := HS.start NoD w
  go_upto_region 1 with fail
  generalize hwb : (w.alloc _).alloc _ = w1
  replace H := HS.eqW hwb H.alloc.alloc
  try simp only [World.size_alloc, List.nil_append, List.cons_append, List.append_assoc] at H
  clear hwb
  generalize w.heap.size + 1 = b4 at H ⊢
  generalize w.heap.size = b2 at H ⊢
  try clear C
  have C := H.cells
  try simp only [cellsOf, cellsM, apartOf, apartM, and_true] at C
  go_wp2_with fail
  refine (HLK.out _ (HME.out.up H.done)).mono ?_
  rintro _ w71 ⟨sz, cz, rfl, K0⟩
  replace H := H.join K0 (one_low rfl)
  clear K0 HLK
  try simp only [List.nil_append, List.cons_append] at H
  skip
  try clear C
  try simp only [World.size_alloc, List.nil_append, List.cons_append, List.append_assoc] at H
  have C := H.cells
  try simp only [cellsOf, cellsM, apartOf, apartM, and_true] at C
  try dsimp only at H
  try dsimp only
  go_upto_region 2 with fail
  generalize hwb : w71.alloc _ = w2
  replace H := HS.eqW hwb H.alloc
  try simp only [World.size_alloc, List.nil_append, List.cons_append, List.append_assoc] at H
  clear hwb
  generalize w71.heap.size = b5 at H ⊢
  try clear C
  try clear w71
  have C := H.cells
  try simp only [cellsOf, cellsM, apartOf, apartM, and_true] at C
  go_wp2_with fail
  refine (HAT.out _).mono ?_
  rintro _ w3 ⟨rfl, hb⟩
  replace H := H.below hb
  clear hb
  try clear C
  try simp only [World.size_alloc, List.nil_append, List.cons_append, List.append_assoc] at H
  try clear w2
  have C := H.cells
  try simp only [cellsOf, cellsM, apartOf, apartM, and_true] at C
  dsimp only
  clear HAT
  go_upto_region 3 with fail
  generalize hwb : w3.alloc _ = w4
  replace H := HS.eqW hwb H.alloc
  try simp only [World.size_alloc, List.nil_append, List.cons_append, List.append_assoc] at H
  clear hwb
  generalize w3.heap.size = b6 at H ⊢
  try clear C
  try clear w3
  have C := H.cells
  try simp only [cellsOf, cellsM, apartOf, apartM, and_true] at C
  have HN9 := Lib.hid HBL.out
  obtain ⟨n9, hn9⟩ : ∃ n, n = bs0.length := ⟨_, rfl⟩
  rw [← hn9] at H ⊢
  have HBN := Lib.hid hn9
  clear hn9 C
  try clear C
  try simp only [World.size_alloc, List.nil_append, List.cons_append, List.append_assoc] at H
  have C := H.cells
  try simp only [cellsOf, cellsM, apartOf, apartM, and_true] at C
  go_wp2_with fail
  go_loopw [8] (fun iv wr => ∃ (j : Nat) (bs : List Int), iv = .int .i64 j ∧ j ≤ fs.length ∧ Hid (stkL cov (fs.take j) ⟨wi, bs0, po⟩ = ⟨wi, bs, po⟩ ∧ bs.length = n9) ∧ HS NoD w [.blk b2 #[.int .i64 s0, .int .i64 s1, .int .i64 s2, .int .i64 s3, .int .i64 s4, .int .i64 s5, .int .i64 kd, .int .i64 dt, .int .i64 ck, .int .i64 fx, .slice xa0 xn0 xc0, .slice ya0 fs.length yc0] 34, .blk b4 #[.int .i64 0, .slice none 0 0, .bool false] 50, .row (.slice sz n9 cz) 5 1 n9 (bs.flatMap bC1), .blk b5 #[.int .i64 wi, .slice sz n9 cz, .bool po] 50, .blk b6 #[.int .i64 q0, .int .i64 q1, .int .i64 q2, .int .i64 q3, .int .i64 q4, .int .i64 q5] 36] wr) (fun iv _ => fs.length - (intOf iv).toNat)
  case atStart => exact ⟨0, bs0, rfl, Nat.zero_le _, (show Hid _ from ⟨rfl, HBN.out.symm⟩), H⟩
  case round =>
    clear H C
    obtain ⟨j, bs, rfl, hj, HQ, H⟩ := hrel
    skip
    try clear C
    try simp only [World.size_alloc, List.nil_append, List.cons_append, List.append_assoc] at H
    have C := H.cells
    try simp only [cellsOf, cellsM, apartOf, apartM, and_true] at C
    have hf64 : fs.length ≤ 64 := HFL.out
    by_cases hlt : j < fs.length
    · have HJ := Lib.hid hlt
      have hji : (j : Int) < fs.length := by omega
      have hcz := HFC.out j hlt
      obtain ⟨b, o, rfl, hb, hc⟩ := (H.liesUp HCF.out).at hlt
      have HTK := Lib.hid (show fs.take (j + 1) = fs.take j ++ [fs[j]!] by rw [List.take_succ_eq_append_getElem hlt, getElem!_pos fs j hlt])
      generalize fs[j]! = f at hc hcz HTK
      obtain ⟨k, p0, p1, p2, p3, p4, p5, ch, ms, vl, hd⟩ := f
      dsimp only at hcz
      obtain ⟨cN, hcN⟩ : ∃ c : Nat, ch = c := ⟨ch.toNat, by omega⟩
      subst hcN
      have hcb : cN < n9 := by have h1 := HQ.out.2; have h2 := HN9.out; have h3 := HBN.out; (try dsimp only at h2); omega
      have HCB := Lib.hid hcb
      clear hcz hcb
      have c0 : wr.cell? ⟨b, o + j * 11, none⟩ = some (.int .i64 k) := by simpa using hc 0 _ rfl
      have c1 : wr.cell? ⟨b, o + j * 11 + 1, none⟩ = some (.int .i64 p0) := by simpa using hc 1 _ rfl
      have c2 : wr.cell? ⟨b, o + j * 11 + 2, none⟩ = some (.int .i64 p1) := by simpa using hc 2 _ rfl
      have c3 : wr.cell? ⟨b, o + j * 11 + 3, none⟩ = some (.int .i64 p2) := by simpa using hc 3 _ rfl
      have c4 : wr.cell? ⟨b, o + j * 11 + 4, none⟩ = some (.int .i64 p3) := by simpa using hc 4 _ rfl
      have c5 : wr.cell? ⟨b, o + j * 11 + 5, none⟩ = some (.int .i64 p4) := by simpa using hc 5 _ rfl
      have c6 : wr.cell? ⟨b, o + j * 11 + 6, none⟩ = some (.int .i64 p5) := by simpa using hc 6 _ rfl
      have c7 : wr.cell? ⟨b, o + j * 11 + 7, none⟩ = some (.int .i64 cN) := by simpa using hc 7 _ rfl
      have c8 : wr.cell? ⟨b, o + j * 11 + 8, none⟩ = some (.int .u8 ms) := by simpa using hc 8 _ rfl
      have c9 : wr.cell? ⟨b, o + j * 11 + 9, none⟩ = some (.int .u8 vl) := by simpa using hc 9 _ rfl
      have c10 : wr.cell? ⟨b, o + j * 11 + 10, none⟩ = some (.bool hd) := by simpa using hc 10 _ rfl
      have n1 : (b = wr.heap.size) = False := eq_false (by omega)
      have n2 : (wr.heap.size = b) = False := eq_false (by omega)
      have HCJ := Lib.hid (fun wx => (show Calls Tryd.prog 95 #[.agg #[.int .i64 k, .int .i64 p0, .int .i64 p1, .int .i64 p2, .int .i64 p3, .int .i64 p4, .int .i64 p5, .int .i64 cN, .int .u8 ms, .int .u8 vl, .bool hd], .agg #[.int .i64 q0, .int .i64 q1, .int .i64 q2, .int .i64 q3, .int .i64 q4, .int .i64 q5]] wx (Gives (.bool (cov (⟨k, p0, p1, p2, p3, p4, p5, (cN : Int), ms, vl, hd⟩ : Fa))) wx) from HCV.out (⟨k, p0, p1, p2, p3, p4, p5, (cN : Int), ms, vl, hd⟩ : Fa) wx))
      clear hc
      go_upto_region 7 with fail
      clear c0 c1 c2 c3 c4 c5 c6 c7 c8 c9 c10 n1 n2 hb
      generalize hwb : wr.alloc _ = w5
      replace H := HS.eqW hwb H.alloc
      try simp only [World.size_alloc, List.nil_append, List.cons_append, List.append_assoc] at H
      clear hwb
      generalize wr.heap.size = b9 at H ⊢
      try clear C
      try clear wr
      have C := H.cells
      try simp only [cellsOf, cellsM, apartOf, apartM, and_true] at C
      skip
      cases hcv : cov (⟨k, p0, p1, p2, p3, p4, p5, (cN : Int), ms, vl, hd⟩ : Fa) with
      | false =>
        replace HCJ := Lib.hid (fun wx => by have := HCJ.out wx; rw [hcv] at this; exact this)
        have HCT := Lib.hid hcv
        clear hcv
        go_wp2_with fail
        refine (HCJ.out _).mono ?_
        rintro _ w6 ⟨rfl, hb⟩
        replace H := H.below hb
        clear hb
        try clear C
        try simp only [World.size_alloc, List.nil_append, List.cons_append, List.append_assoc] at H
        try clear w5
        have C := H.cells
        try simp only [cellsOf, cellsM, apartOf, apartM, and_true] at C
        dsimp only
        go_wp2_with fail
        go_roundw
        case rel => exact ⟨j + 1, bs, by go_num, HJ.out, (show Hid _ from ⟨by rw [HTK.out, stkL_no HCT.out]; exact HQ.out.1, HQ.out.2⟩), HS.less H (by repeat (first | exact .slnil | refine .cons_cons _ ?_ | refine .cons _ ?_))⟩
        case measure => simp [intOf]; have := HJ.out; omega
      | true =>
        skip
        replace HCJ := Lib.hid (fun wx => by have := HCJ.out wx; rw [hcv] at this; exact this)
        have HCT := Lib.hid hcv
        clear hcv
        go_wp2_with fail
        refine (HCJ.out _).mono ?_
        rintro _ w7 ⟨rfl, hb⟩
        replace H := H.below hb
        clear hb
        try clear C
        try simp only [World.size_alloc, List.nil_append, List.cons_append, List.append_assoc] at H
        try clear w5
        have C := H.cells
        try simp only [cellsOf, cellsM, apartOf, apartM, and_true] at C
        dsimp only
        obtain ⟨g8, c8, hv, -, -⟩ := World.ownsRow.form (H.at 2 rfl) (by have := HCB.out; omega)
        obtain ⟨rfl, -, rfl⟩ := Value.slice.inj hv
        clear hv
        have hbc : cN < bs.length := by have := HQ.out.2; have := HCB.out; omega
        have HVB := Lib.hid (show (bs.flatMap bC1)[cN]? = some (.int .u8 bs[cN]!) from by have := flat_get bC1_len bs cN 0 _ hbc rfl; simpa using this)
        have HXM := Lib.hid (show stkAt cN ms vl ⟨wi, bs, po⟩ = (⟨wi, bs.set cN (stkB bs[cN]! ms vl), po⟩ : Wm) from rfl)
        have HBS := Lib.hid (by_set bs cN (stkB bs[cN]! ms vl))
        generalize bs[cN]! = vb at HVB HXM HBS
        have hcbi : (cN : Int) < n9 := by have := HCB.out; omega
        have hcbn : cN < n9 := by have := HCB.out; omega
        go_upto_region 8 with fail
        refine wp_region_zH (by kernel_rfl) (by kernel_rfl) (by kernel_rfl) (by kernel_rfl) (by kernel_rfl) (by dsimp only [List.dropLast]) rfl (fun w => (∀ o, w.cell? ⟨b5, o, none⟩ = [Value.int .i64 wi, .slice (some ⟨g8, 0, none⟩) n9 cz, .bool po][o]?) ∧ (∀ o, w.cell? ⟨b9, o, none⟩ = [Value.int .i64 k, .int .i64 p0, .int .i64 p1, .int .i64 p2, .int .i64 p3, .int .i64 p4, .int .i64 p5, .int .i64 cN, .int .u8 ms, .int .u8 vl, .bool hd][o]?) ∧ w.cell? ⟨g8, cN, none⟩ = some (.int .u8 vb)) (H) (fun w0 H _ => ⟨fun o => (Blk.cell (H.at 3 rfl) o).trans (by simp), fun o => (Blk.cell (H.at 5 rfl) o).trans (by simp), (World.ownsRow.cellAt (H.at 2 rfl) cN (by have := HCB.out; omega)).trans HVB.out⟩) ?_
        clear H; intro w8 h0 H hz0
        try clear C
        try simp only [World.size_alloc, List.nil_append, List.cons_append, List.append_assoc] at H hz0
        clear hz0
        try clear w7
        have C := H.cells
        try simp only [cellsOf, cellsM, apartOf, apartM, and_true] at C
        repeat (first | (refine wpX_skip rfl ?_; go_simp) | (refine wpX_free rfl rfl rfl (fun K hK => ?_); go_step; refine hK _ _ ?_; clear hK K))
        (refine wpX_yield rfl rfl (.slice (some ⟨g8, 0, none⟩) n9 cz) (fun w hw => by obtain ⟨k0, k1, k2⟩ := hw; go_simp) ?_; go_simp)
        repeat (first | (refine wpX_skip rfl ?_; go_simp) | (refine wpX_free rfl rfl rfl (fun K hK => ?_); go_step; refine hK _ _ ?_; clear hK K))
        (refine wpX_yield rfl rfl (.int .i64 (cN : Nat)) (fun w hw => by obtain ⟨k0, k1, k2⟩ := hw; go_simp) ?_; go_simp)
        repeat (first | (refine wpX_skip rfl ?_; go_simp) | (refine wpX_free rfl rfl rfl (fun K hK => ?_); go_step; refine hK _ _ ?_; clear hK K))
        (refine wpX_yield rfl rfl (.slice (some ⟨g8, 0, none⟩) n9 cz) (fun w hw => by obtain ⟨k0, k1, k2⟩ := hw; go_simp) ?_; go_simp)
        repeat (first | (refine wpX_skip rfl ?_; go_simp) | (refine wpX_free rfl rfl rfl (fun K hK => ?_); go_step; refine hK _ _ ?_; clear hK K))
        (refine wpX_yield rfl rfl (.int .i64 (cN : Nat)) (fun w hw => by obtain ⟨k0, k1, k2⟩ := hw; go_simp) ?_; go_simp)
        repeat (first | (refine wpX_skip rfl ?_; go_simp) | (refine wpX_free rfl rfl rfl (fun K hK => ?_); go_step; refine hK _ _ ?_; clear hK K))
        (refine wpX_yield rfl rfl (.int .u8 vb) (fun w hw => by obtain ⟨k0, k1, k2⟩ := hw; go_simp) ?_; go_simp)
        repeat (first | (refine wpX_skip rfl ?_; go_simp) | (refine wpX_free rfl rfl rfl (fun K hK => ?_); go_step; refine hK _ _ ?_; clear hK K))
        (refine wpX_yield rfl rfl (.int .u8 ms) (fun w hw => by obtain ⟨k0, k1, k2⟩ := hw; go_simp) ?_; go_simp)
        repeat (first | (refine wpX_skip rfl ?_; go_simp) | (refine wpX_free rfl rfl rfl (fun K hK => ?_); go_step; refine hK _ _ ?_; clear hK K))
        (refine wpX_yield rfl rfl (.int .u8 vl) (fun w hw => by obtain ⟨k0, k1, k2⟩ := hw; go_simp) ?_; go_simp)
        repeat (first | (refine wpX_skip rfl ?_; go_simp) | (refine wpX_free rfl rfl rfl (fun K hK => ?_); go_step; refine hK _ _ ?_; clear hK K))
        (refine wpX_nil ?_; go_step)
        have hkf := (H.rowCells 2 rfl cN (by have := HCB.out; omega)).2
        have hkc := (H.rowCells 2 rfl cN (by have := HCB.out; omega)).1.trans HVB.out
        go_upto_region 5 with fail
        · generalize hwb : World.setCell w8 _ _ = w54
          have H0 := HS.eqW hwb (H.rowSet 2 rfl cN (.int .u8 (stkB vb ms vl)))
          clear H C hwb hkf hkc
          simp only [List.set_cons_succ, List.set_cons_zero] at H0
          rw [HBS.out] at H0
          have H := H0
          clear H0
          skip
          try clear C
          try simp only [World.size_alloc, List.nil_append, List.cons_append, List.append_assoc] at H
          have C := H.cells
          try simp only [cellsOf, cellsM, apartOf, apartM, and_true] at C
          go_wp2_with fail
          go_roundw
          case rel => exact ⟨j + 1, bs.set cN (stkB vb ms vl), by go_num, HJ.out, (show Hid _ from ⟨by rw [HTK.out, stkL_yes HCT.out, HQ.out.1]; exact HXM.out, by rw [List.length_set]; exact HQ.out.2⟩), HS.less H (by repeat (first | exact .slnil | refine .cons_cons _ ?_ | refine .cons _ ?_))⟩
          case measure => simp [intOf]; have := HJ.out; omega
    · obtain rfl : j = fs.length := by omega
      have HQE := Lib.hid (show m9 = ⟨wi, bs, po⟩ from by have h9 := HQ.out.1; rw [List.take_length] at h9; rw [← h9]; exact HM9.out)
      skip
      go_wp2_with fail
      generalize hwb : ((wr.setCell _ _).setCell _ _).setCell _ _ = w9
      replace H := HS.eqW hwb (H.putAll (i := 1) rfl (vs := [.int .i64 wi, .slice sz n9 cz, .bool po]) rfl rfl)
      simp only [List.nil_append, List.cons_append, List.append_assoc, List.set_cons_succ, List.set_cons_zero] at H
      clear hwb
      try clear C
      try clear wr
      have C := H.cells
      try simp only [cellsOf, cellsM, apartOf, apartM, and_true] at C
      refine bodyPost_ret (by simp [results, Tryd.results86, go_sem, C]; try rfl) rfl ?_
      obtain rfl := HQE.out
      obtain rfl := HQ.out.2
      exact ⟨sz, cz, rfl, HS.less H (by repeat (first | exact .slnil | refine .cons_cons _ ?_ | refine .cons _ ?_))⟩
set_option maxHeartbeats 8000000 in
theorem cofetch_any (M : Mm) (b0 : Nat) (x y : Sv) (hs : SmallM M) (hg : GoodM M) (i : Int) (hi : 0 ≤ i ∧ i < szM M) (w : World) (hNm : Nm w) (hp : MeP w b0 M x y) (h : MeAt w x y M) : Calls Tryd.prog 61 #[.pointer (some ⟨b0, 0, none⟩), .int .i64 i] w (GivesCwR (seenW M i) w) := by
  have hrg := codeB_rng hg.co
  obtain ⟨qs, hqm, hcw⟩ := h.1
  have HLK := Lib.hid (fun wx hp hx => cget_any13 M b0 x y qs hqm hs hg.ws.up (by omega) (by omega) i wx hp hx)
  have HCW := Lib.hid (show CwLie w x qs from hcw)
  have HME := Lib.hid h
  have HNm := Lib.hid hNm
  have HMP := Lib.hid hp
  clear hqm hcw hNm hp
  obtain ⟨q0, q1, q2, q3, q4, q5, hat⟩ : ∃ q0 q1 q2 q3 q4 q5, atF M.s0 M.s1 M.s2 M.s3 M.s4 M.s5 i = ⟨q0, q1, q2, q3, q4, q5⟩ := ⟨_, _, _, _, _, _, rfl⟩
  have HAT := Lib.hid (fun w => (show Calls Tryd.prog 18 #[v6 M.s0 M.s1 M.s2 M.s3 M.s4 M.s5, .int .i64 i] w (Gives (.tuple #[v6 q0 q1 q2 q3 q4 q5, .int .i64 0]) w) from by
    have h9 := at_is (i := i) hg.sv hi.1 (by rw [← sizeN_yes hg.sv]; exact hi.2) w
    rw [hat] at h9
    exact h9))
  have hat := cvF_at hat hi.1
  have HCV := Lib.hid (fun f w hn => (show Calls Tryd.prog 22 #[cfV f, v6 q0 q1 q2 q3 q4 q5] w (Gives (.bool (cvF M f i.toNat)) w) from by rw [cvF_eq hat]; exact covers_all f.k f.p0 f.p1 f.p2 f.p3 f.p4 f.p5 f.ch f.ms f.vl q0 q1 q2 q3 q4 q5 f.hd w hn))
  have HFC := Lib.hid (show ∀ j, j < M.fs.length → 0 ≤ (M.fs[j]!).ch ∧ (M.fs[j]!).ch < M.dt + M.ck from fun j hj => vf_ch (hg.fs _ (fa_mem hj)).2)
  have HBL := Lib.hid (hg.ws.look_len i)
  have hfl : M.fs.length ≤ 64 := hg.fl
  have HCF := Lib.hid h.2.2.2
  have hn2 : y.n = M.fs.length := h.2.1
  obtain ⟨m9, hm9⟩ : ∃ m, m = seenW M i := ⟨_, rfl⟩
  rw [← hm9]
  have HM9 := Lib.hid (show m9 = stkL (fun f => cvF M f i.toNat) M.fs (lookW (M.dt + M.ck).toNat M.ws i) from hm9)
  have hN : ((M.dt + M.ck).toNat : Int) = M.dt + M.ck := by omega
  have hN4 : (M.dt + M.ck).toNat ≤ 1000 := by omega
  generalize (M.dt + M.ck).toNat = N at HLK HBL HM9 hN hN4
  rw [← hN] at HFC
  generalize lookW N M.ws i = m0 at HLK HBL HM9
  obtain ⟨cov, hcov⟩ : ∃ c : Fa → Bool, c = (fun f => cvF M f i.toNat) := ⟨_, rfl⟩
  rw [← hcov] at HM9
  replace HCV := Lib.hid (fun f w hn => (show Calls Tryd.prog 22 #[cfV f, v6 q0 q1 q2 q3 q4 q5] w (Gives (.bool (cov f)) w) from by rw [hcov]; exact HCV.out f w hn))
  clear hcov
  clear h hs hg hi hm9 hat hrg hN
  obtain ⟨s0, s1, s2, s3, s4, s5, kd, dt, ck, fx, ws, fs⟩ := M
  obtain ⟨xa0, xn0, xc0⟩ := x
  obtain ⟨ya0, yn0, yc0⟩ := y
  obtain ⟨wi, bs0, po⟩ := m0
  try dsimp only at hn2
  try dsimp only at HBL
  try dsimp only at HFC
  try dsimp only at hfl
  subst hn2
  have HFL := Lib.hid hfl
  replace HLK := Lib.hid (fun wx hp hx => (show Calls Tryd.prog 53 #[.pointer (some ⟨b0, 0, none⟩), .int .i64 i] wx _ from HLK.out wx hp hx))
  replace HAT := Lib.hid (fun wx => (show Calls Tryd.prog 18 #[.agg #[.int .i64 s0, .int .i64 s1, .int .i64 s2, .int .i64 s3, .int .i64 s4, .int .i64 s5], .int .i64 i] wx _ from HAT.out wx))
  show Calls Tryd.prog 61 #[.pointer (some ⟨b0, 0, none⟩), .int .i64 i] w _
  go_enter Tryd.func61, Tryd.ntmps61
  have H := HS.start NoD w
  go_upto_region 1 with fail
  generalize hwb : w.alloc _ = w1
  replace H := HS.eqW hwb H.alloc
  try simp only [World.size_alloc, List.nil_append, List.cons_append, List.append_assoc] at H
  clear hwb
  generalize w.heap.size = b4 at H ⊢
  try clear C
  have C := H.cells
  try simp only [cellsOf, cellsM, apartOf, apartM, and_true] at C
  go_wp2_with fail
  refine (HLK.out _ (HMP.out.up H.done) (HCW.out.up H.done)).mono ?_
  rintro _ w71 ⟨sz, cz, rfl, K0⟩
  replace H := H.join K0 (one_low rfl)
  clear K0 HLK
  try simp only [List.nil_append, List.cons_append] at H
  skip
  try clear C
  try simp only [World.size_alloc, List.nil_append, List.cons_append, List.append_assoc] at H
  have C := H.cells
  try simp only [cellsOf, cellsM, apartOf, apartM, and_true] at C
  try dsimp only at H
  try dsimp only
  go_upto_region 2 with fail
  generalize hwb : w71.alloc _ = w2
  replace H := HS.eqW hwb H.alloc
  try simp only [World.size_alloc, List.nil_append, List.cons_append, List.append_assoc] at H
  clear hwb
  generalize w71.heap.size = b5 at H ⊢
  try clear C
  try clear w71
  have C := H.cells
  try simp only [cellsOf, cellsM, apartOf, apartM, and_true] at C
  have kp := Blk.cell (HMP.out.up H.done)
  have k0 : w2.cell? ⟨b0, 0, none⟩ = some (.int .i64 s0) := (kp 0).trans rfl
  have k1 : w2.cell? ⟨b0, 1, none⟩ = some (.int .i64 s1) := (kp 1).trans rfl
  have k2 : w2.cell? ⟨b0, 2, none⟩ = some (.int .i64 s2) := (kp 2).trans rfl
  have k3 : w2.cell? ⟨b0, 3, none⟩ = some (.int .i64 s3) := (kp 3).trans rfl
  have k4 : w2.cell? ⟨b0, 4, none⟩ = some (.int .i64 s4) := (kp 4).trans rfl
  have k5 : w2.cell? ⟨b0, 5, none⟩ = some (.int .i64 s5) := (kp 5).trans rfl
  have hbl : b0 < w2.heap.size := Blk.lt (HMP.out.up H.done)
  clear kp
  go_wp2_with fail
  refine (HAT.out _).mono ?_
  rintro _ w3 ⟨rfl, hb⟩
  replace H := H.below hb
  clear hb
  try clear C
  try simp only [World.size_alloc, List.nil_append, List.cons_append, List.append_assoc] at H
  try clear w2
  have C := H.cells
  try simp only [cellsOf, cellsM, apartOf, apartM, and_true] at C
  dsimp only
  clear k0 k1 k2 k3 k4 k5 hbl
  clear HAT
  go_upto_region 3 with fail
  generalize hwb : w3.alloc _ = w4
  replace H := HS.eqW hwb H.alloc
  try simp only [World.size_alloc, List.nil_append, List.cons_append, List.append_assoc] at H
  clear hwb
  generalize w3.heap.size = b6 at H ⊢
  try clear C
  try clear w3
  have C := H.cells
  try simp only [cellsOf, cellsM, apartOf, apartM, and_true] at C
  have HN9 := Lib.hid HBL.out
  obtain ⟨n9, hn9⟩ : ∃ n, n = bs0.length := ⟨_, rfl⟩
  rw [← hn9] at H ⊢
  have HBN := Lib.hid hn9
  clear hn9 C
  try clear C
  try simp only [World.size_alloc, List.nil_append, List.cons_append, List.append_assoc] at H
  have C := H.cells
  try simp only [cellsOf, cellsM, apartOf, apartM, and_true] at C
  have kp := Blk.cell (HMP.out.up H.done)
  have k11 : w4.cell? ⟨b0, 11, none⟩ = some (.slice ya0 fs.length yc0) := (kp 11).trans rfl
  have hbl : b0 < w4.heap.size := Blk.lt (HMP.out.up H.done)
  clear kp
  go_wp2_with fail
  clear k11 hbl
  go_loopw [27] (fun iv wr => ∃ (j : Nat) (bs : List Int), iv = .int .i64 j ∧ j ≤ fs.length ∧ Hid (stkL cov (fs.take j) ⟨wi, bs0, po⟩ = ⟨wi, bs, po⟩ ∧ bs.length = n9) ∧ HS NoD w [.blk b4 #[.int .i64 0, .slice none 0 0, .bool false] 50, .row (.slice sz n9 cz) 5 1 n9 (bs.flatMap bC1), .blk b5 #[.int .i64 wi, .slice sz n9 cz, .bool po] 50, .blk b6 #[.int .i64 q0, .int .i64 q1, .int .i64 q2, .int .i64 q3, .int .i64 q4, .int .i64 q5] 36] wr) (fun iv _ => fs.length - (intOf iv).toNat)
  case atStart => exact ⟨0, bs0, rfl, Nat.zero_le _, (show Hid _ from ⟨rfl, HBN.out.symm⟩), H⟩
  case round =>
    clear H C
    obtain ⟨j, bs, rfl, hj, HQ, H⟩ := hrel
    skip
    try clear C
    try simp only [World.size_alloc, List.nil_append, List.cons_append, List.append_assoc] at H
    have C := H.cells
    try simp only [cellsOf, cellsM, apartOf, apartM, and_true] at C
    have hf64 : fs.length ≤ 64 := HFL.out
    by_cases hlt : j < fs.length
    · have HJ := Lib.hid hlt
      have hji : (j : Int) < fs.length := by omega
      have hcz := HFC.out j hlt
      obtain ⟨b, o, rfl, hb, hc⟩ := (H.liesUp HCF.out).at hlt
      have HTK := Lib.hid (show fs.take (j + 1) = fs.take j ++ [fs[j]!] by rw [List.take_succ_eq_append_getElem hlt, getElem!_pos fs j hlt])
      generalize fs[j]! = f at hc hcz HTK
      obtain ⟨k, p0, p1, p2, p3, p4, p5, ch, ms, vl, hd⟩ := f
      dsimp only at hcz
      obtain ⟨cN, hcN⟩ : ∃ c : Nat, ch = c := ⟨ch.toNat, by omega⟩
      subst hcN
      have hcb : cN < n9 := by have h1 := HQ.out.2; have h2 := HN9.out; have h3 := HBN.out; (try dsimp only at h2); omega
      have HCB := Lib.hid hcb
      clear hcz hcb
      have c0 : wr.cell? ⟨b, o + j * 11, none⟩ = some (.int .i64 k) := by simpa using hc 0 _ rfl
      have c1 : wr.cell? ⟨b, o + j * 11 + 1, none⟩ = some (.int .i64 p0) := by simpa using hc 1 _ rfl
      have c2 : wr.cell? ⟨b, o + j * 11 + 2, none⟩ = some (.int .i64 p1) := by simpa using hc 2 _ rfl
      have c3 : wr.cell? ⟨b, o + j * 11 + 3, none⟩ = some (.int .i64 p2) := by simpa using hc 3 _ rfl
      have c4 : wr.cell? ⟨b, o + j * 11 + 4, none⟩ = some (.int .i64 p3) := by simpa using hc 4 _ rfl
      have c5 : wr.cell? ⟨b, o + j * 11 + 5, none⟩ = some (.int .i64 p4) := by simpa using hc 5 _ rfl
      have c6 : wr.cell? ⟨b, o + j * 11 + 6, none⟩ = some (.int .i64 p5) := by simpa using hc 6 _ rfl
      have c7 : wr.cell? ⟨b, o + j * 11 + 7, none⟩ = some (.int .i64 cN) := by simpa using hc 7 _ rfl
      have c8 : wr.cell? ⟨b, o + j * 11 + 8, none⟩ = some (.int .u8 ms) := by simpa using hc 8 _ rfl
      have c9 : wr.cell? ⟨b, o + j * 11 + 9, none⟩ = some (.int .u8 vl) := by simpa using hc 9 _ rfl
      have c10 : wr.cell? ⟨b, o + j * 11 + 10, none⟩ = some (.bool hd) := by simpa using hc 10 _ rfl
      have n1 : (b = wr.heap.size) = False := eq_false (by omega)
      have n2 : (wr.heap.size = b) = False := eq_false (by omega)
      have HCJ := Lib.hid (fun wx hn => (show Calls Tryd.prog 22 #[.agg #[.int .i64 k, .int .i64 p0, .int .i64 p1, .int .i64 p2, .int .i64 p3, .int .i64 p4, .int .i64 p5, .int .i64 cN, .int .u8 ms, .int .u8 vl, .bool hd], .agg #[.int .i64 q0, .int .i64 q1, .int .i64 q2, .int .i64 q3, .int .i64 q4, .int .i64 q5]] wx (Gives (.bool (cov (⟨k, p0, p1, p2, p3, p4, p5, (cN : Int), ms, vl, hd⟩ : Fa))) wx) from HCV.out (⟨k, p0, p1, p2, p3, p4, p5, (cN : Int), ms, vl, hd⟩ : Fa) wx hn))
      clear hc
      go_upto_region 6 with fail
      clear c0 c1 c2 c3 c4 c5 c6 c7 c8 c9 c10 n1 n2 hb
      generalize hwb : wr.alloc _ = w5
      replace H := HS.eqW hwb H.alloc
      try simp only [World.size_alloc, List.nil_append, List.cons_append, List.append_assoc] at H
      clear hwb
      generalize wr.heap.size = b9 at H ⊢
      try clear C
      try clear wr
      have C := H.cells
      try simp only [cellsOf, cellsM, apartOf, apartM, and_true] at C
      skip
      cases hcv : cov (⟨k, p0, p1, p2, p3, p4, p5, (cN : Int), ms, vl, hd⟩ : Fa) with
      | false =>
        replace HCJ := Lib.hid (fun wx hn => by have := HCJ.out wx hn; rw [hcv] at this; exact this)
        have HCT := Lib.hid hcv
        clear hcv
        go_wp2_with fail
        refine (HCJ.out _ (HNm.out.below H.done)).mono ?_
        rintro _ w6 ⟨rfl, hb⟩
        replace H := H.below hb
        clear hb
        try clear C
        try simp only [World.size_alloc, List.nil_append, List.cons_append, List.append_assoc] at H
        try clear w5
        have C := H.cells
        try simp only [cellsOf, cellsM, apartOf, apartM, and_true] at C
        dsimp only
        go_wp2_with fail
        go_roundw
        case rel => exact ⟨j + 1, bs, by go_num, HJ.out, (show Hid _ from ⟨by rw [HTK.out, stkL_no HCT.out]; exact HQ.out.1, HQ.out.2⟩), HS.less H (by repeat (first | exact .slnil | refine .cons_cons _ ?_ | refine .cons _ ?_))⟩
        case measure => simp [intOf]; have := HJ.out; omega
      | true =>
        skip
        replace HCJ := Lib.hid (fun wx hn => by have := HCJ.out wx hn; rw [hcv] at this; exact this)
        have HCT := Lib.hid hcv
        clear hcv
        go_wp2_with fail
        refine (HCJ.out _ (HNm.out.below H.done)).mono ?_
        rintro _ w7 ⟨rfl, hb⟩
        replace H := H.below hb
        clear hb
        try clear C
        try simp only [World.size_alloc, List.nil_append, List.cons_append, List.append_assoc] at H
        try clear w5
        have C := H.cells
        try simp only [cellsOf, cellsM, apartOf, apartM, and_true] at C
        dsimp only
        obtain ⟨g8, c8, hv, -, -⟩ := World.ownsRow.form (H.at 1 rfl) (by have := HCB.out; omega)
        obtain ⟨rfl, -, rfl⟩ := Value.slice.inj hv
        clear hv
        have hbc : cN < bs.length := by have := HQ.out.2; have := HCB.out; omega
        have HVB := Lib.hid (show (bs.flatMap bC1)[cN]? = some (.int .u8 bs[cN]!) from by have := flat_get bC1_len bs cN 0 _ hbc rfl; simpa using this)
        have HXM := Lib.hid (show stkAt cN ms vl ⟨wi, bs, po⟩ = (⟨wi, bs.set cN (stkB bs[cN]! ms vl), po⟩ : Wm) from rfl)
        have HBS := Lib.hid (by_set bs cN (stkB bs[cN]! ms vl))
        generalize bs[cN]! = vb at HVB HXM HBS
        have hcbi : (cN : Int) < n9 := by have := HCB.out; omega
        have hcbn : cN < n9 := by have := HCB.out; omega
        go_upto_region 7 with fail
        refine wp_region_zH (by kernel_rfl) (by kernel_rfl) (by kernel_rfl) (by kernel_rfl) (by kernel_rfl) (by dsimp only [List.dropLast]) rfl (fun w => (∀ o, w.cell? ⟨b5, o, none⟩ = [Value.int .i64 wi, .slice (some ⟨g8, 0, none⟩) n9 cz, .bool po][o]?) ∧ (∀ o, w.cell? ⟨b9, o, none⟩ = [Value.int .i64 k, .int .i64 p0, .int .i64 p1, .int .i64 p2, .int .i64 p3, .int .i64 p4, .int .i64 p5, .int .i64 cN, .int .u8 ms, .int .u8 vl, .bool hd][o]?) ∧ w.cell? ⟨g8, cN, none⟩ = some (.int .u8 vb)) (H) (fun w0 H _ => ⟨fun o => (Blk.cell (H.at 2 rfl) o).trans (by simp), fun o => (Blk.cell (H.at 4 rfl) o).trans (by simp), (World.ownsRow.cellAt (H.at 1 rfl) cN (by have := HCB.out; omega)).trans HVB.out⟩) ?_
        clear H; intro w8 h0 H hz0
        try clear C
        try simp only [World.size_alloc, List.nil_append, List.cons_append, List.append_assoc] at H hz0
        clear hz0
        try clear w7
        have C := H.cells
        try simp only [cellsOf, cellsM, apartOf, apartM, and_true] at C
        repeat (first | (refine wpX_skip rfl ?_; go_simp) | (refine wpX_free rfl rfl rfl (fun K hK => ?_); go_step; refine hK _ _ ?_; clear hK K))
        (refine wpX_yield rfl rfl (.slice (some ⟨g8, 0, none⟩) n9 cz) (fun w hw => by obtain ⟨k0, k1, k2⟩ := hw; go_simp) ?_; go_simp)
        repeat (first | (refine wpX_skip rfl ?_; go_simp) | (refine wpX_free rfl rfl rfl (fun K hK => ?_); go_step; refine hK _ _ ?_; clear hK K))
        (refine wpX_yield rfl rfl (.int .i64 (cN : Nat)) (fun w hw => by obtain ⟨k0, k1, k2⟩ := hw; go_simp) ?_; go_simp)
        repeat (first | (refine wpX_skip rfl ?_; go_simp) | (refine wpX_free rfl rfl rfl (fun K hK => ?_); go_step; refine hK _ _ ?_; clear hK K))
        (refine wpX_yield rfl rfl (.slice (some ⟨g8, 0, none⟩) n9 cz) (fun w hw => by obtain ⟨k0, k1, k2⟩ := hw; go_simp) ?_; go_simp)
        repeat (first | (refine wpX_skip rfl ?_; go_simp) | (refine wpX_free rfl rfl rfl (fun K hK => ?_); go_step; refine hK _ _ ?_; clear hK K))
        (refine wpX_yield rfl rfl (.int .i64 (cN : Nat)) (fun w hw => by obtain ⟨k0, k1, k2⟩ := hw; go_simp) ?_; go_simp)
        repeat (first | (refine wpX_skip rfl ?_; go_simp) | (refine wpX_free rfl rfl rfl (fun K hK => ?_); go_step; refine hK _ _ ?_; clear hK K))
        (refine wpX_yield rfl rfl (.int .u8 vb) (fun w hw => by obtain ⟨k0, k1, k2⟩ := hw; go_simp) ?_; go_simp)
        repeat (first | (refine wpX_skip rfl ?_; go_simp) | (refine wpX_free rfl rfl rfl (fun K hK => ?_); go_step; refine hK _ _ ?_; clear hK K))
        (refine wpX_yield rfl rfl (.int .u8 ms) (fun w hw => by obtain ⟨k0, k1, k2⟩ := hw; go_simp) ?_; go_simp)
        repeat (first | (refine wpX_skip rfl ?_; go_simp) | (refine wpX_free rfl rfl rfl (fun K hK => ?_); go_step; refine hK _ _ ?_; clear hK K))
        (refine wpX_yield rfl rfl (.int .u8 vl) (fun w hw => by obtain ⟨k0, k1, k2⟩ := hw; go_simp) ?_; go_simp)
        repeat (first | (refine wpX_skip rfl ?_; go_simp) | (refine wpX_free rfl rfl rfl (fun K hK => ?_); go_step; refine hK _ _ ?_; clear hK K))
        (refine wpX_nil ?_; go_step)
        have hkf := (H.rowCells 1 rfl cN (by have := HCB.out; omega)).2
        have hkc := (H.rowCells 1 rfl cN (by have := HCB.out; omega)).1.trans HVB.out
        go_upto_region 8 with fail
        · generalize hwb : World.setCell w8 _ _ = w54
          have H0 := HS.eqW hwb (H.rowSet 1 rfl cN (.int .u8 (stkB vb ms vl)))
          clear H C hwb hkf hkc
          simp only [List.set_cons_succ, List.set_cons_zero] at H0
          rw [HBS.out] at H0
          have H := H0
          clear H0
          skip
          try clear C
          try simp only [World.size_alloc, List.nil_append, List.cons_append, List.append_assoc] at H
          have C := H.cells
          try simp only [cellsOf, cellsM, apartOf, apartM, and_true] at C
          go_wp2_with fail
          go_roundw
          case rel => exact ⟨j + 1, bs.set cN (stkB vb ms vl), by go_num, HJ.out, (show Hid _ from ⟨by rw [HTK.out, stkL_yes HCT.out, HQ.out.1]; exact HXM.out, by rw [List.length_set]; exact HQ.out.2⟩), HS.less H (by repeat (first | exact .slnil | refine .cons_cons _ ?_ | refine .cons _ ?_))⟩
          case measure => simp [intOf]; have := HJ.out; omega
    · obtain rfl : j = fs.length := by omega
      have HQE := Lib.hid (show m9 = ⟨wi, bs, po⟩ from by have h9 := HQ.out.1; rw [List.take_length] at h9; rw [← h9]; exact HM9.out)
      skip
      go_wp2_with fail
      generalize hwb : ((wr.setCell _ _).setCell _ _).setCell _ _ = w9
      replace H := HS.eqW hwb (H.putAll (i := 0) rfl (vs := [.int .i64 wi, .slice sz n9 cz, .bool po]) rfl rfl)
      simp only [List.nil_append, List.cons_append, List.append_assoc, List.set_cons_succ, List.set_cons_zero] at H
      clear hwb
      try clear C
      try clear wr
      have C := H.cells
      try simp only [cellsOf, cellsM, apartOf, apartM, and_true] at C
      refine bodyPost_ret (by simp [results, Tryd.results61, go_sem, C]; try rfl) rfl ?_
      obtain rfl := HQE.out
      obtain rfl := HQ.out.2
      exact ⟨sz, cz, rfl, HS.less H (by repeat (first | exact .slnil | refine .cons_cons _ ?_ | refine .cons _ ?_))⟩
end Go.Proofs.YtplflpmkomeadaaDoor
