/- ref13.Copy: a copy of a memory that shares nothing. -/
import Derived.Test.YtplflpmkomeadaaDoorCeD
namespace Go.Proofs.YtplflpmkomeadaaDoor
set_option linter.unusedSimpArgs false
set_option linter.unusedVariables false
open Go.RowKit
set_option maxRecDepth 100000
attribute [local irreducible] wpX wpF Calls

set_option maxHeartbeats 8000000 in
theorem r13copyR_any (M : Mm) (x y : Sv) (hs : SmallM M) (w : World) (h : MeAt w x y M) : Calls Tryd.prog 70 #[meV M x y] w (GivesMeR M w) := by
  obtain ⟨s0, s1, s2, s3, s4, s5, kd, dt, ck, fx, ws, fs⟩ := M
  obtain ⟨xa, xn, xc⟩ := x
  obtain ⟨ya, yn, yc⟩ := y
  obtain ⟨⟨q0, rfl, hn, hcap, hl, hb⟩, hn2, hcap2, hl2⟩ := h
  dsimp only at hn hcap hl hn2 hcap2 hl2
  subst hn hn2
  obtain ⟨hq1000, hf1000, hsm0⟩ := hs
  dsimp only at hq1000 hf1000 hsm0
  rw [List.length_map] at hq1000
  have hsm : ∀ j, j < q0.length → (q0[j]!).1.bs.length ≤ 140737488355328 := fun j hj => hsm0 _ (map_mem2 hj)
  have HB := Lib.hid (fun j (hj : j < q0.length) => hb _ (mem_bang2 hj))
  have HSM := Lib.hid hsm
  have HL := Lib.hid hl
  have HCP := Lib.hid hcap
  have HL2 := Lib.hid hl2
  have HCP2 := Lib.hid hcap2
  have HF1 := Lib.hid hf1000
  have HQ1 := Lib.hid hq1000
  clear hb hsm hsm0 hcap hl hl2 hcap2
  show Calls Tryd.prog 70 #[.agg #[.int .i64 s0, .int .i64 s1, .int .i64 s2, .int .i64 s3, .int .i64 s4, .int .i64 s5, .int .i64 kd, .int .i64 dt, .int .i64 ck, .int .i64 fx, .slice xa q0.length xc, .slice ya fs.length yc]] w _
  go_enter Tryd.func70, Tryd.ntmps70
  have H := HS.start NoD w
  go_upto_region 1 with fail
  generalize hwb : (w.alloc _).alloc _ = w1
  replace H := HS.eqW hwb H.alloc.alloc
  try simp only [World.size_alloc, List.nil_append, List.cons_append, List.append_assoc] at H
  clear hwb
  generalize w.heap.size + 1 = b2 at H ⊢
  generalize w.heap.size = b1 at H ⊢
  try clear C
  have C := H.cells
  try simp only [cellsOf, cellsM, apartOf, apartM, and_true] at C
  go_upto_region 2 with fail
  generalize hwb : w1.alloc _ = w2
  replace H := HS.eqW hwb H.alloc
  try simp only [World.size_alloc, List.nil_append, List.cons_append, List.append_assoc] at H
  clear hwb
  generalize w1.heap.size = b3 at H ⊢
  try clear C
  try clear w1
  have C := H.cells
  try simp only [cellsOf, cellsM, apartOf, apartM, and_true] at C
  go_upto_region 3 with fail
  generalize hwb : World.setCell _ _ _ = w3
  replace H := HS.eqW hwb (H.setTo (o := 10) (v := .slice none 0 0) 2 rfl rfl)
  clear hwb
  simp only [List.set_cons_succ, List.set_cons_zero] at H
  have hn0 := H.nilRow 50 3
  have hn1 := hn0.anyNil
  clear H C hn0
  have H := hn1
  clear hn1
  try simp only [List.nil_append, List.cons_append] at H
  skip
  try clear C
  try simp only [World.size_alloc, List.nil_append, List.cons_append, List.append_assoc] at H
  have C := H.cells
  try simp only [cellsOf, cellsM, apartOf, apartM, and_true] at C
  go_wp2_with fail
  go_loopw [4] (fun jj wr => ∃ (j : Nat) (s : Option Addr) (c : Nat) (ys : List (Wm × Sv)) (F : Nat → Prop), jj = .int .i64 j ∧ j ≤ q0.length ∧ ys.length = j ∧ Hid (ys.map Prod.fst = (q0.take j).map Prod.fst) ∧ HS NoD w [.blk b1 #[.int .i64 s0, .int .i64 s1, .int .i64 s2, .int .i64 s3, .int .i64 s4, .int .i64 s5, .int .i64 kd, .int .i64 dt, .int .i64 ck, .int .i64 fx, .slice xa q0.length xc, .slice ya fs.length yc] 34, .blk b2 #[.int .i64 0, .int .i64 0, .int .i64 0, .int .i64 0, .int .i64 0, .int .i64 0, .int .i64 0, .int .i64 0, .int .i64 0, .int .i64 0, .slice none 0 0, .slice none 0 0] 34, .blk b3 #[.int .i64 s0, .int .i64 s1, .int .i64 s2, .int .i64 s3, .int .i64 s4, .int .i64 s5, .int .i64 kd, .int .i64 dt, .int .i64 ck, .int .i64 fx, .slice s ys.length c, .slice ya fs.length yc] 34, rowCw s ys.length c ys, anyCw F ys] wr) (fun jj _ => q0.length - (intOf jj).toNat)
  case atStart => exact ⟨0, none, 0, [], _, rfl, Nat.zero_le _, rfl, (show Hid _ from rfl), HS.weak (L := [_, _, _, _]) H (fun _ _ q hq => absurd hq List.not_mem_nil)⟩
  case round =>
    clear H C
    obtain ⟨j, s, c, ys, F, rfl, hj, hyl, HMP, H⟩ := hrel
    skip
    try clear C
    try simp only [World.size_alloc, List.nil_append, List.cons_append, List.append_assoc] at H
    have C := H.cells
    try simp only [cellsOf, cellsM, apartOf, apartM, and_true] at C
    by_cases hlt : j < q0.length
    · have HYL := Lib.hid hyl
      have HLT := Lib.hid hlt
      have hji : (j : Int) < q0.length := by omega
      have hyj : ys.length ≤ 1000 := by have := HQ1.out; omega
      have HYJ := Lib.hid hyj
      obtain ⟨b, o, rfl, hb, hc⟩ := (H.liesUp HL.out).at hlt
      have HBJ := Lib.hid (HB.out j hlt)
      have HMM := Lib.hid (fun x => cw_mid hlt HMP.out x)
      have HSJ := Lib.hid (HSM.out j hlt)
      generalize q0[j]! = q at hc HBJ HMM HSJ
      obtain ⟨⟨ix, bs, po⟩, ⟨za, zn, zc⟩⟩ := q
      obtain rfl : zn = bs.length := HBJ.out.len
      have hbs : bs.length ≤ 140737488355328 := HSJ.out
      have c0 : wr.cell? ⟨b, o + j * 3, none⟩ = some (.int .i64 ix) := hc 0 _ rfl
      have c1 : wr.cell? ⟨b, o + j * 3 + 1, none⟩ = some (.slice za bs.length zc) := hc 1 _ rfl
      have c2 : wr.cell? ⟨b, o + j * 3 + 2, none⟩ = some (.bool po) := hc 2 _ rfl
      have n1 : (b = wr.heap.size) = False := eq_false (by omega)
      have n2 : (wr.heap.size = b) = False := eq_false (by omega)
      clear hc hyl
      go_upto_region 7 with fail
      clear c0 c1 c2 n1 n2 hb
      generalize hwb : wr.alloc _ = w3
      replace H := HS.eqW hwb H.alloc
      try simp only [World.size_alloc, List.nil_append, List.cons_append, List.append_assoc] at H
      clear hwb
      generalize wr.heap.size = b5 at H ⊢
      try clear C
      try clear wr
      have C := H.cells
      try simp only [cellsOf, cellsM, apartOf, apartM, and_true] at C
      have hn1 := H.nilRow 5 1
      clear H C
      have H := hn1
      clear hn1
      try simp only [List.nil_append, List.cons_append] at H
      try clear C
      try simp only [World.size_alloc, List.nil_append, List.cons_append, List.append_assoc] at H
      have C := H.cells
      try simp only [cellsOf, cellsM, apartOf, apartM, and_true] at C
      have HCZ := Lib.hid (show bs.length ≤ zc ∧ (za = none → zc = 0) from HBJ.out.cap)
      go_upto_region 8 with (at_builtin; refine wpList_apX rfl (.const (.slice none 0 0)) (.tmp 21) 48 rfl elemBy H 6 rfl rfl rfl (Lies.srcX bC1_len (by decide) HCZ.out.1 (H.liesUp HBJ.out.lies) HCZ.out.2) (flat_len bC1_len bs) (bC1_one bs) (by unfold maxLen; omega) (by omega) (N := bs.length) (by omega) (fun sz cz2 w22 HZ hg => ?_); clear H C hg; replace HZ := HZ; simp only [List.nil_append, List.cons_append, List.append_assoc, List.set_cons_succ, List.set_cons_zero] at HZ; have H := HZ; clear HZ; have C := H.cells; simp only [cellsOf, cellsM, apartOf, apartM, and_true] at C)
      skip
      generalize hwb : World.setCell _ _ _ = w23
      replace H := HS.eqW hwb (H.setTo (o := 1) (v := .slice sz bs.length cz2) 5 rfl rfl)
      clear hwb C
      simp only [List.set_cons_succ, List.set_cons_zero] at H
      skip
      try clear C
      try simp only [World.size_alloc, List.nil_append, List.cons_append, List.append_assoc] at H
      have C := H.cells
      try simp only [cellsOf, cellsM, apartOf, apartM, and_true] at C
      go_wp2_with (at_builtin; go_loud (refine wpList_append_H rfl (.tmp 25) (.tmp 27) 31 rfl elemCw H.alloc 3 rfl rfl 7 rfl rfl rfl rfl (by decide) (by unfold maxLen; omega) (by omega) (fun gz cz wz HZ => ?_)); clear H C; have C := HZ.cells; simp only [List.nil_append, List.cons_append, List.append_assoc, List.set_cons_succ, List.set_cons_zero] at C; simp only [cellsOf, cellsM, apartOf, apartM, and_true] at C)
      simp only [List.set_cons_succ, List.set_cons_zero, List.nil_append, List.cons_append, List.append_assoc] at HZ
      generalize hwb : World.setCell _ _ _ = w24
      have H0 := HS.eqW hwb (HZ.setTo (o := 10) (v := .slice (some ⟨gz, 0, none⟩) (ys.length + 1) cz) 2 rfl rfl)
      clear hwb HZ C
      simp only [List.set_cons_succ, List.set_cons_zero] at H0
      have H9 := HS.less (L' := [.blk b1 #[.int .i64 s0, .int .i64 s1, .int .i64 s2, .int .i64 s3, .int .i64 s4, .int .i64 s5, .int .i64 kd, .int .i64 dt, .int .i64 ck, .int .i64 fx, .slice (some ⟨b, o, none⟩) q0.length xc, .slice ya fs.length yc] 34, .blk b2 #[.int .i64 0, .int .i64 0, .int .i64 0, .int .i64 0, .int .i64 0, .int .i64 0, .int .i64 0, .int .i64 0, .int .i64 0, .int .i64 0, .slice none 0 0, .slice none 0 0] 34, .blk b3 #[.int .i64 s0, .int .i64 s1, .int .i64 s2, .int .i64 s3, .int .i64 s4, .int .i64 s5, .int .i64 kd, .int .i64 dt, .int .i64 ck, .int .i64 fx, .slice (some ⟨gz, 0, none⟩) (ys.length + 1) cz, .slice ya fs.length yc] 34, rowCw (some ⟨gz, 0, none⟩) (ys.length + 1) cz (ys ++ [((⟨ix, bs, po⟩ : Wm), (⟨sz, bs.length, cz2⟩ : Sv))]), .any F (fun w => CwOk w ys), .row (.slice sz bs.length cz2) 5 1 bs.length (bs.flatMap bC1)]) H0 (by
        dsimp only [rowCw]
        rw [List.flatMap_append]
        repeat (first | exact .slnil | refine .cons_cons _ ?_ | refine .cons _ ?_))
      have H8 := HS.anyOf (L := [_, _, _, _, _]) H9 rfl
      have H7 := HS.merge (L := [_, _, _, _]) H8
      have H6 := HS.weak (L := [_, _, _, _]) H7 (K' := fun w => CwOk w (ys ++ [((⟨ix, bs, po⟩ : Wm), (⟨sz, bs.length, cz2⟩ : Sv))])) (fun w' h => cwOk_snoc h.1 (bytes_row rfl h.2))
      clear H9 H8 H7 H0
      skip
      have H := H6
      clear H6
      go_wp2_with fail
      go_roundw
      case rel => exact ⟨j + 1, _, _, ys ++ [((⟨ix, bs, po⟩ : Wm), (⟨sz, bs.length, cz2⟩ : Sv))], _, by go_num, HLT.out, by rw [List.length_append, HYL.out]; rfl, HMM.out _, by rw [List.length_append]; exact H⟩
      case measure => simp [intOf]; have := HLT.out; omega
    · obtain rfl : j = q0.length := by omega
      skip
      have HYL := Lib.hid hyl
      clear hyl hlt hj
      have hn1 := H.nilRow 38 11
      clear H C
      have H := hn1
      clear hn1
      try simp only [List.nil_append, List.cons_append] at H
      try clear C
      try simp only [World.size_alloc, List.nil_append, List.cons_append, List.append_assoc] at H
      have C := H.cells
      try simp only [cellsOf, cellsM, apartOf, apartM, and_true] at C
      have HCZ := Lib.hid (show fs.length ≤ yc ∧ (ya = none → yc = 0) from HCP2.out)
      go_upto_region 10 with (at_builtin; refine wpList_apX rfl (.const (.slice none 0 0)) (.tmp 31) 32 rfl elemCf H 5 rfl rfl rfl (Lies.srcX cfC_len (by decide) HCZ.out.1 (H.liesUp HL2.out) HCZ.out.2) (flat_len cfC_len fs) (cfC_one fs) (by unfold maxLen; have := HF1.out; omega) (by have := HF1.out; omega) (N := fs.length) (by omega) (fun sz cz2 w22 HZ hg => ?_); clear H C hg; replace HZ := HZ; simp only [List.nil_append, List.cons_append, List.append_assoc, List.set_cons_succ, List.set_cons_zero] at HZ; have H := HZ; clear HZ; have C := H.cells; simp only [cellsOf, cellsM, apartOf, apartM, and_true] at C)
      skip
      generalize hwb : World.setCell _ _ _ = w23
      replace H := HS.eqW hwb (H.setTo (o := 11) (v := .slice sz fs.length cz2) 2 rfl rfl)
      clear hwb C
      simp only [List.set_cons_succ, List.set_cons_zero] at H
      skip
      try clear C
      try simp only [World.size_alloc, List.nil_append, List.cons_append, List.append_assoc] at H
      have C := H.cells
      try simp only [cellsOf, cellsM, apartOf, apartM, and_true] at C
      go_wp2_with fail
      generalize hwb : (((((((((((w23.setCell _ _).setCell _ _).setCell _ _).setCell _ _).setCell _ _).setCell _ _).setCell _ _).setCell _ _).setCell _ _).setCell _ _).setCell _ _).setCell _ _ = w4
      replace H := HS.eqW hwb (H.putAll (i := 1) rfl (vs := [.int .i64 s0, .int .i64 s1, .int .i64 s2, .int .i64 s3, .int .i64 s4, .int .i64 s5, .int .i64 kd, .int .i64 dt, .int .i64 ck, .int .i64 fx, .slice s ys.length c, .slice sz fs.length cz2]) rfl rfl)
      simp only [List.nil_append, List.cons_append, List.append_assoc, List.set_cons_succ, List.set_cons_zero] at H
      clear hwb
      try clear C
      try clear w23
      have C := H.cells
      try simp only [cellsOf, cellsM, apartOf, apartM, and_true] at C
      refine bodyPost_ret (by simp [results, Tryd.results70, go_sem, C]; try rfl) rfl ?_
      have H9 := HS.less (L' := [rowCw s ys.length c ys, anyCw F ys, rowCf sz fs.length cz2 fs]) H (by repeat (first | exact .slnil | refine .cons_cons _ ?_ | refine .cons _ ?_))
      have hmm : ys.map Prod.fst = q0.map Prod.fst := by rw [HMP.out, List.take_of_length_le (Nat.le_refl _)]
      exact ⟨s, c, sz, cz2, ys, F, hmm, rfl, H9⟩
theorem r13copy_any (M : Mm) (x y : Sv) (hs : SmallM M) (w : World) (h : MeAt w x y M) : Calls Tryd.prog 70 #[meV M x y] w (GivesMe M w) := (r13copyR_any M x y hs w h).mono fun _ _ h => h.me
end Go.Proofs.YtplflpmkomeadaaDoor
