/- CellStays' walk. -/
import Derived.Test.YtplflpmkomeadaaDoorCeY
import Derived.Test.YtplflpmkomeadaaDoorCeZ
import Derived.Test.YtplflpmkomeadaaDoorCeSt
import Derived.Test.YtplflpmkomeadaaDoorK1
namespace Go.Proofs.YtplflpmkomeadaaDoor
set_option linter.unusedSimpArgs false
set_option linter.unusedVariables false
open Go.RowKit
set_option maxRecDepth 100000
attribute [local irreducible] wpX wpF Calls

set_option maxHeartbeats 16000000 in
theorem stays_walk (sa : Option Addr) (len cap : Nat) (hl : len ≤ maxLen) (index other : Int) (w : World) (hN : Nm w) (hI : Ints w sa len) : Calls Tryd.prog 6 #[.slice sa len cap, .int .i64 index, .int .i64 other] w (Gives (.bool true) w) := by
  have HI := Lib.hid hI
  have HNm := Lib.hid hN
  clear hI hN
  have hli := light_any sa len cap hl
  clear hl
  by_cases h400 : len ≤ 400
  · rw [decide_eq_true h400] at hli
    have HLI := Lib.hid hli
    clear hli
    go_enter Tryd.func6, Tryd.ntmps6
    have H := HS.start NoD w
    go_wp2_with fail
    refine (gives_of (HLI.out _)).mono ?_
    rintro _ w1 ⟨rfl, hb⟩
    replace H := H.below hb
    clear hb
    try clear C
    try simp only [World.size_alloc, List.nil_append, List.cons_append, List.append_assoc] at H
    have C := H.cells
    try simp only [cellsOf, cellsM, apartOf, apartM, and_true] at C
    dsimp only
    go_wp2_with fail
    refine (roll_at w.heap.size _ _ _ h400 _ H.size (H.ints HI.out)).mono ?_
    rintro _ w2 ⟨bd, rfl, hd, hb, hbb⟩
    replace H := H.getsDice hb hd hbb (Nat.le_refl _)
    clear hb hd hbb
    try clear C
    try simp only [World.size_alloc, List.nil_append, List.cons_append, List.append_assoc] at H
    try clear w1
    have C := H.cells
    try simp only [cellsOf, cellsM, apartOf, apartM, and_true] at C
    dsimp only
    go_wp2_with fail
    refine (random13_any w.heap.size bd _ (H.at 0 rfl) H.size).mono ?_
    rintro _ w61 ⟨M, ⟨pa, pn, pc⟩, ⟨ra, rn, rc⟩, qs, F, hg, hbw, hz, hfl, hqm, rfl, K0⟩
    replace H := H.joinDice 0 rfl K0 (one_low rfl)
    clear K0
    try simp only [List.nil_append, List.cons_append] at H
    obtain ⟨s0, s1, s2, s3, s4, s5, kd, dt, ck, fx, ws, fs⟩ := M
    have HG := Lib.hid hg
    have HBW := Lib.hid hbw
    have HZ := Lib.hid hz
    have HQM := Lib.hid hqm
    have HFL := Lib.hid (show fs.length ≤ 10 from hfl)
    have hrg := codeB_rng hg.co
    have hrg1 : 1 ≤ dt + ck ∧ dt + ck ≤ 40 ∧ 0 ≤ dt ∧ 0 ≤ ck := by dsimp only at hrg; omega
    have HRG := Lib.hid hrg1
    obtain ⟨N, hN⟩ : ∃ N : Nat, (N : Int) = dt + ck := ⟨(dt + ck).toNat, by have := HRG.out; omega⟩
    have hN2 : (dt + ck).toNat = N := by omega
    have HN2 := Lib.hid hN2
    have HN40 := Lib.hid (show N ≤ 40 by omega)
    have HN1 := Lib.hid (show 1 ≤ N by omega)
    have HCH := Lib.hid (fun w => (show Calls Tryd.prog 14 #[.agg #[.int .i64 kd, .int .i64 dt, .int .i64 ck, .int .i64 fx]] w (Gives (.int .i64 (N : Int)) w) from by rw [hN]; exact r13chips_any kd dt ck fx (by omega) (by omega) w))
    have HSV := Lib.hid (show SV s0 s1 s2 s3 s4 s5 from hg.sv)
    have hGW : GoodWs (szM (⟨s0, s1, s2, s3, s4, s5, kd, dt, ck, fx, ws, fs⟩ : Mm)) N ws := by have := HG.out.ws; dsimp only at this; rwa [hN2] at this
    have HGW := Lib.hid hGW
    have HSM1 := Lib.hid (HG.out.small (Nat.le_trans HZ.out (by decide)))
    obtain ⟨sz9, hZ⟩ : ∃ z : Nat, z = sizeN s0 s1 s2 s3 s4 s5 := ⟨_, rfl⟩
    have hz64 : sz9 ≤ 64 := by rw [hZ]; exact HZ.out
    have hz1 : 1 ≤ sz9 := by
      have h1 := sizeN_yes HSV.out
      have h2 : (0 : Int) < 2 ^ (s0 + s1 + s2 + s3 + s4 + s5).toNat := Int.pow_pos (by decide)
      omega
    have HZZ := Lib.hid (show szM (⟨s0, s1, s2, s3, s4, s5, kd, dt, ck, fx, ws, fs⟩ : Mm) = sz9 from hZ.symm)
    have HZ64 := Lib.hid hz64
    have HZ1 := Lib.hid hz1
    have HSZ := Lib.hid (fun w => show Calls Tryd.prog 17 #[.agg #[.int .i64 s0, .int .i64 s1, .int .i64 s2, .int .i64 s3, .int .i64 s4, .int .i64 s5]] w (Gives (.int .i64 sz9) w) from by rw [hZ]; exact rsize_all s0 s1 s2 s3 s4 s5 w)
    have HND := Lib.hid hN
    clear hg hbw hz hfl hqm hrg hrg1 hN hN2 hGW hZ hz64 hz1
    skip
    try clear C
    try simp only [World.size_alloc, List.nil_append, List.cons_append, List.append_assoc] at H
    have C := H.cells
    try simp only [cellsOf, cellsM, apartOf, apartM, and_true] at C
    try dsimp only [meV] at H ⊢
    try dsimp only [meV]
    have M1 := Lib.hid (fun w => gives_of (mod_any index (sz9 : Int) w))
    have hmM1 : Nextly (sz9 : Int) (modF index sz9) := modF_nextly (by have := HZ1.out; have := HZ64.out; omega)
    generalize modF index (sz9 : Int) = i9 at M1 hmM1
    have hjM1 : 0 ≤ i9 := hmM1.1
    have hkM1 : i9 < sz9 := hmM1.lt (by have := HZ1.out; omega)
    obtain ⟨i, rfl⟩ : ∃ n : Nat, i9 = n := ⟨i9.toNat, by omega⟩
    have HRM1 := Lib.hid (show 0 ≤ (i : Int) ∧ (i : Int) < szM (⟨s0, s1, s2, s3, s4, s5, kd, dt, ck, fx, ws, fs⟩ : Mm) from ⟨by omega, by rw [HZZ.out]; exact hkM1⟩)
    clear hmM1 hjM1 hkM1
    have M2 := Lib.hid (fun w => gives_of (mod_any other (sz9 : Int) w))
    have hmM2 : Nextly (sz9 : Int) (modF other sz9) := modF_nextly (by have := HZ1.out; have := HZ64.out; omega)
    generalize modF other (sz9 : Int) = i9 at M2 hmM2
    have hjM2 : 0 ≤ i9 := hmM2.1
    have hkM2 : i9 < sz9 := hmM2.lt (by have := HZ1.out; omega)
    obtain ⟨k, rfl⟩ : ∃ n : Nat, i9 = n := ⟨i9.toNat, by omega⟩
    have HRM2 := Lib.hid (show 0 ≤ (k : Int) ∧ (k : Int) < szM (⟨s0, s1, s2, s3, s4, s5, kd, dt, ck, fx, ws, fs⟩ : Mm) from ⟨by omega, by rw [HZZ.out]; exact hkM2⟩)
    clear hmM2 hjM2 hkM2
    go_upto_region 5 with fail
    generalize hwb : w61.alloc _ = w3
    replace H := HS.eqW hwb H.alloc
    try simp only [World.size_alloc, List.nil_append, List.cons_append, List.append_assoc] at H
    clear hwb
    generalize w61.heap.size = b8 at H ⊢
    try clear C
    try clear w61
    have C := H.cells
    try simp only [cellsOf, cellsM, apartOf, apartM, and_true] at C
    go_wp2_with fail
    refine (HSZ.out _).mono ?_
    rintro _ w4 ⟨rfl, hb⟩
    replace H := H.below hb
    clear hb
    try clear C
    try simp only [World.size_alloc, List.nil_append, List.cons_append, List.append_assoc] at H
    try clear w3
    have C := H.cells
    try simp only [cellsOf, cellsM, apartOf, apartM, and_true] at C
    dsimp only
    go_wp2_with fail
    refine (M1.out _).mono ?_
    rintro _ w5 ⟨rfl, hb⟩
    replace H := H.below hb
    clear hb
    try clear C
    try simp only [World.size_alloc, List.nil_append, List.cons_append, List.append_assoc] at H
    try clear w4
    have C := H.cells
    try simp only [cellsOf, cellsM, apartOf, apartM, and_true] at C
    dsimp only
    go_wp2_with fail
    refine (M2.out _).mono ?_
    rintro _ w6 ⟨rfl, hb⟩
    replace H := H.below hb
    clear hb
    try clear C
    try simp only [World.size_alloc, List.nil_append, List.cons_append, List.append_assoc] at H
    try clear w5
    have C := H.cells
    try simp only [cellsOf, cellsM, apartOf, apartM, and_true] at C
    dsimp only
    go_wp2_with fail
    refine (HCH.out _).mono ?_
    rintro _ w7 ⟨rfl, hb⟩
    replace H := H.below hb
    clear hb
    try clear C
    try simp only [World.size_alloc, List.nil_append, List.cons_append, List.append_assoc] at H
    try clear w6
    have C := H.cells
    try simp only [cellsOf, cellsM, apartOf, apartM, and_true] at C
    dsimp only
    clear HSZ M1 M2 HCH
    go_wp2_with fail
    refine (mbytesB_any N (by have := HN40.out; omega) w.heap.size bd _ (H.at 0 rfl) H.size).mono ?_
    rintro _ w62 ⟨sB, cB, bs, rfl, hbl, hbr, K0⟩
    replace H := H.joinDice 0 rfl K0 (one_low rfl)
    clear K0
    try simp only [List.nil_append, List.cons_append] at H
    skip
    try clear C
    try simp only [World.size_alloc, List.nil_append, List.cons_append, List.append_assoc] at H
    have C := H.cells
    try simp only [cellsOf, cellsM, apartOf, apartM, and_true] at C
    dsimp only
    have HBL := Lib.hid hbl
    have HBR := Lib.hid hbr
    clear hbl hbr
    go_wp2_with fail
    refine (one_any 2 (by omega) (by omega) w.heap.size bd _ (H.at 0 rfl)).mono ?_
    rintro _ w8 ⟨po, rfl, hd, hg⟩
    replace H := (H).diceAt 0 rfl hg hd
    clear hg hd
    try clear C
    try simp only [World.size_alloc, List.nil_append, List.cons_append, List.append_assoc] at H
    try clear w62
    have C := H.cells
    try simp only [cellsOf, cellsM, apartOf, apartM, and_true] at C
    dsimp only
    go_upto_region 8 with fail
    generalize hwb : w8.alloc _ = w9
    replace H := HS.eqW hwb H.alloc
    try simp only [World.size_alloc, List.nil_append, List.cons_append, List.append_assoc] at H
    clear hwb
    generalize w8.heap.size = b12 at H ⊢
    try clear C
    try clear w8
    have C := H.cells
    try simp only [cellsOf, cellsM, apartOf, apartM, and_true] at C
    obtain ⟨vs, hvs⟩ : ∃ vs, vs = putW ws (⟨(i : Nat), bs, po⟩ : Wm) := ⟨_, rfl⟩
    have hGV : GoodWs (szM (⟨s0, s1, s2, s3, s4, s5, kd, dt, ck, fx, ws, fs⟩ : Mm)) N vs := by rw [hvs]; exact HGW.out.put HRM1.out HBL.out
    have hGX : GoodM (⟨s0, s1, s2, s3, s4, s5, kd, dt, ck, fx, vs, fs⟩ : Mm) := HG.out.setWs (vs := vs) (by show GoodWs (szM (⟨s0, s1, s2, s3, s4, s5, kd, dt, ck, fx, ws, fs⟩ : Mm)) (dt + ck).toNat vs; rw [HN2.out]; exact hGV)
    have HSM2 := Lib.hid (hGX.small (Nat.le_trans (show szM (⟨s0, s1, s2, s3, s4, s5, kd, dt, ck, fx, vs, fs⟩ : Mm) ≤ 64 from HZ.out) (by decide)))
    have hst : storeF (⟨s0, s1, s2, s3, s4, s5, kd, dt, ck, fx, ws, fs⟩ : Mm) (⟨(i : Nat), bs, po⟩ : Wm) = ((⟨s0, s1, s2, s3, s4, s5, kd, dt, ck, fx, vs, fs⟩ : Mm), 0) := by
      unfold storeF
      rw [goodB_iff.2 HG.out, if_pos rfl, if_pos HRM1.out, if_pos (show bs.length = (dt + ck).toNat by rw [HN2.out]; exact HBL.out), ← hvs]
      rfl
    have HSTO := Lib.hid (fun (x y z : Sv) wx hn hx hb => (show Calls Tryd.prog 30 #[meV (⟨s0, s1, s2, s3, s4, s5, kd, dt, ck, fx, ws, fs⟩ : Mm) x y, cwV (⟨(i : Nat), bs, po⟩ : Wm) z] wx (GivesMeE (⟨s0, s1, s2, s3, s4, s5, kd, dt, ck, fx, vs, fs⟩ : Mm) 0 wx) from by
      have h9 := cstore_any (⟨s0, s1, s2, s3, s4, s5, kd, dt, ck, fx, ws, fs⟩ : Mm) x y HSM1.out (⟨(i : Nat), bs, po⟩ : Wm) z (by show bs.length ≤ 140737488355328; have := HBL.out; have := HN40.out; omega) wx hn hx hb
      rw [hst] at h9
      exact h9))
    have hlk1 : lookW N vs (i : Nat) = (⟨(i : Nat), bs, po⟩ : Wm) := by rw [hvs, HGW.out.look_put (w := (⟨(i : Nat), bs, po⟩ : Wm)) HRM1.out HBL.out, if_pos rfl]
    have hlk2 : i ≠ k → lookW N vs (k : Nat) = lookW N ws (k : Nat) := fun h => by rw [hvs, HGW.out.look_put (w := (⟨(i : Nat), bs, po⟩ : Wm)) HRM1.out HBL.out, if_neg (fun e => h (by have : (k : Int) = (i : Int) := e; omega))]
    have hsHSA : storedF (⟨s0, s1, s2, s3, s4, s5, kd, dt, ck, fx, ws, fs⟩ : Mm) k = (lookW N ws k, 0) := by unfold storedF; rw [goodB_iff.2 HG.out, if_pos rfl, if_pos HRM2.out]; show (lookW (dt + ck).toNat ws k, (0 : Int)) = _; rw [HN2.out]
    have HSA := Lib.hid (fun (x y : Sv) wx hn hx => (show Calls Tryd.prog 19 #[meV (⟨s0, s1, s2, s3, s4, s5, kd, dt, ck, fx, ws, fs⟩ : Mm) x y, .int .i64 (k : Nat)] wx (GivesCwRE (lookW N ws (k : Nat)) 0 wx) from by
      have h9 := cstored_any (⟨s0, s1, s2, s3, s4, s5, kd, dt, ck, fx, ws, fs⟩ : Mm) x y HSM1.out k wx hn hx
      rw [hsHSA] at h9
      exact h9))
    clear hsHSA
    have hsHSB : storedF (⟨s0, s1, s2, s3, s4, s5, kd, dt, ck, fx, vs, fs⟩ : Mm) i = (lookW N vs i, 0) := by unfold storedF; rw [goodB_iff.2 hGX, if_pos rfl, if_pos HRM1.out]; show (lookW (dt + ck).toNat vs i, (0 : Int)) = _; rw [HN2.out]
    have HSB := Lib.hid (fun (x y : Sv) wx hn hx => (show Calls Tryd.prog 19 #[meV (⟨s0, s1, s2, s3, s4, s5, kd, dt, ck, fx, vs, fs⟩ : Mm) x y, .int .i64 (i : Nat)] wx (GivesCwRE (⟨(i : Nat), bs, po⟩ : Wm) 0 wx) from by
      have h9 := cstored_any (⟨s0, s1, s2, s3, s4, s5, kd, dt, ck, fx, vs, fs⟩ : Mm) x y HSM2.out i wx hn hx
      rw [hsHSB, hlk1] at h9
      exact h9))
    clear hsHSB
    have hsHSC : storedF (⟨s0, s1, s2, s3, s4, s5, kd, dt, ck, fx, vs, fs⟩ : Mm) k = (lookW N vs k, 0) := by unfold storedF; rw [goodB_iff.2 hGX, if_pos rfl, if_pos HRM2.out]; show (lookW (dt + ck).toNat vs k, (0 : Int)) = _; rw [HN2.out]
    have HSC := Lib.hid (fun (x y : Sv) wx hn hx => (show Calls Tryd.prog 19 #[meV (⟨s0, s1, s2, s3, s4, s5, kd, dt, ck, fx, vs, fs⟩ : Mm) x y, .int .i64 (k : Nat)] wx (GivesCwRE (lookW N vs (k : Nat)) 0 wx) from by
      have h9 := cstored_any (⟨s0, s1, s2, s3, s4, s5, kd, dt, ck, fx, vs, fs⟩ : Mm) x y HSM2.out k wx hn hx
      rw [hsHSC] at h9
      exact h9))
    clear hsHSC
    have hbl9 : (lookW N ws (k : Nat)).bs.length = N := HGW.out.look_len k
    have hbl8 : (lookW N vs (k : Nat)).bs.length = N := hGV.look_len k
    have HVX := Lib.hid (fun (x y : Sv) wx hn hx => (show Calls Tryd.prog 21 #[meV (⟨s0, s1, s2, s3, s4, s5, kd, dt, ck, fx, vs, fs⟩ : Mm) x y] wx (Gives (.bool true) wx) from by
      have h9 := cvalid13_any (⟨s0, s1, s2, s3, s4, s5, kd, dt, ck, fx, vs, fs⟩ : Mm) x y HSM2.out.long wx hn hx
      rw [goodB_iff.2 hGX] at h9
      exact h9))
    generalize lookW N vs (k : Nat) = m8 at HSC hlk2 hbl8
    generalize lookW N ws (k : Nat) = m9 at HSA hlk2 hbl9
    obtain ⟨ka, az, pa9⟩ := m9
    obtain ⟨kb, bz, pb9⟩ := m8
    have HLK := Lib.hid hlk2
    have HBA := Lib.hid (show az.length = N from hbl9)
    have HBB := Lib.hid (show bz.length = N from hbl8)
    clear hlk1 hlk2 hbl8 hbl9 hst hGX hGV hvs HG HBW HSM1 HSM2 HGW
    try clear C
    try simp only [World.size_alloc, List.nil_append, List.cons_append, List.append_assoc] at H
    have C := H.cells
    try simp only [cellsOf, cellsM, apartOf, apartM, and_true] at C
    go_wp2_with fail
    refine (HSA.out ⟨pa, pn, pc⟩ ⟨ra, rn, rc⟩ _ (HNm.out.below H.done) (meAt_of (m := (⟨s0, s1, s2, s3, s4, s5, kd, dt, ck, fx, ws, fs⟩ : Mm)) HQM.out (H.says 1 rfl))).mono ?_
    rintro _ w64 ⟨sz, cz, rfl, K0⟩
    replace H := H.join K0 (one_low rfl)
    clear K0
    try simp only [List.nil_append, List.cons_append] at H
    skip
    try clear C
    try simp only [World.size_alloc, List.nil_append, List.cons_append, List.append_assoc] at H
    have C := H.cells
    try simp only [cellsOf, cellsM, apartOf, apartM, and_true] at C
    try dsimp only [meV] at H ⊢
    try dsimp only [meV]
    try dsimp only at H ⊢
    clear HSA
    go_upto_region 9 with fail
    generalize hwb : w64.alloc _ = w10
    replace H := HS.eqW hwb H.alloc
    try simp only [World.size_alloc, List.nil_append, List.cons_append, List.append_assoc] at H
    clear hwb
    generalize w64.heap.size = b13 at H ⊢
    try clear C
    try clear w64
    have C := H.cells
    try simp only [cellsOf, cellsM, apartOf, apartM, and_true] at C
    go_wp2_with fail
    refine (HSTO.out ⟨pa, pn, pc⟩ ⟨ra, rn, rc⟩ ⟨sB, N, cB⟩ _ (HNm.out.below H.done) (meAt_of (m := (⟨s0, s1, s2, s3, s4, s5, kd, dt, ck, fx, ws, fs⟩ : Mm)) HQM.out (H.says 1 rfl)) (bytes_row HBL.out.symm (H.at 3 rfl))).mono ?_
    rintro _ w65 ⟨⟨pb, pm, pd⟩, ⟨rb, rm, rd⟩, qx, Fx, hqx, rfl, K0⟩
    replace H := H.join K0 (one_low rfl)
    clear K0
    try simp only [List.nil_append, List.cons_append] at H
    skip
    try clear C
    try simp only [World.size_alloc, List.nil_append, List.cons_append, List.append_assoc] at H
    have C := H.cells
    try simp only [cellsOf, cellsM, apartOf, apartM, and_true] at C
    try dsimp only [meV] at H ⊢
    try dsimp only [meV]
    try dsimp only at H ⊢
    have HQX := Lib.hid hqx
    clear hqx HSTO
    go_upto_region 10 with fail
    generalize hwb : w65.alloc _ = w11
    replace H := HS.eqW hwb H.alloc
    try simp only [World.size_alloc, List.nil_append, List.cons_append, List.append_assoc] at H
    clear hwb
    generalize w65.heap.size = b15 at H ⊢
    try clear C
    try clear w65
    have C := H.cells
    try simp only [cellsOf, cellsM, apartOf, apartM, and_true] at C
    go_wp2_with fail
    refine (HSB.out ⟨pb, pm, pd⟩ ⟨rb, rm, rd⟩ _ (HNm.out.below H.done) (meAt_of (m := (⟨s0, s1, s2, s3, s4, s5, kd, dt, ck, fx, vs, fs⟩ : Mm)) HQX.out (H.says 7 rfl))).mono ?_
    rintro _ w66 ⟨sy, cy, rfl, K0⟩
    replace H := H.join K0 (one_low rfl)
    clear K0
    try simp only [List.nil_append, List.cons_append] at H
    skip
    try clear C
    try simp only [World.size_alloc, List.nil_append, List.cons_append, List.append_assoc] at H
    have C := H.cells
    try simp only [cellsOf, cellsM, apartOf, apartM, and_true] at C
    try dsimp only [meV] at H ⊢
    try dsimp only [meV]
    try dsimp only at H ⊢
    clear HSB
    go_upto_region 11 with fail
    generalize hwb : w66.alloc _ = w12
    replace H := HS.eqW hwb H.alloc
    try simp only [World.size_alloc, List.nil_append, List.cons_append, List.append_assoc] at H
    clear hwb
    generalize w66.heap.size = b17 at H ⊢
    try clear C
    try clear w66
    have C := H.cells
    try simp only [cellsOf, cellsM, apartOf, apartM, and_true] at C
    go_wp2_with fail
    refine (HSC.out ⟨pb, pm, pd⟩ ⟨rb, rm, rd⟩ _ (HNm.out.below H.done) (meAt_of (m := (⟨s0, s1, s2, s3, s4, s5, kd, dt, ck, fx, vs, fs⟩ : Mm)) HQX.out (H.says 7 rfl))).mono ?_
    rintro _ w67 ⟨sx, cx, rfl, K0⟩
    replace H := H.join K0 (one_low rfl)
    clear K0
    try simp only [List.nil_append, List.cons_append] at H
    skip
    try clear C
    try simp only [World.size_alloc, List.nil_append, List.cons_append, List.append_assoc] at H
    have C := H.cells
    try simp only [cellsOf, cellsM, apartOf, apartM, and_true] at C
    try dsimp only [meV] at H ⊢
    try dsimp only [meV]
    try dsimp only at H ⊢
    clear HSC
    go_upto_region 12 with fail
    generalize hwb : w67.alloc _ = w13
    replace H := HS.eqW hwb H.alloc
    try simp only [World.size_alloc, List.nil_append, List.cons_append, List.append_assoc] at H
    clear hwb
    generalize w67.heap.size = b19 at H ⊢
    try clear C
    try clear w67
    have C := H.cells
    try simp only [cellsOf, cellsM, apartOf, apartM, and_true] at C
    have HSW := Lib.hid (fun wx hx hy => (show Calls Tryd.prog 23 #[.agg #[.int .i64 (i : Nat), .slice sy bs.length cy, .bool po], .agg #[.int .i64 (i : Nat), .slice sB N cB, .bool po]] wx (Gives (.bool true) wx) from by
      have h9 := sameWord13_any ⟨(i : Nat), bs, po⟩ ⟨(i : Nat), bs, po⟩ ⟨sy, bs.length, cy⟩ ⟨sB, N, cB⟩ (by have := HN40.out; have := HBL.out; show bs.length ≤ _; omega) (by have := HN40.out; have := HBL.out; show bs.length ≤ _; omega) wx hx hy
      rw [decide_eq_true rfl] at h9
      exact h9))
    go_wp2_with fail
    refine (awake13_any _ (HNm.out.below H.done)).mono ?_
    rintro _ w14 ⟨rfl, hb⟩
    replace H := H.below hb
    clear hb
    try clear C
    try simp only [World.size_alloc, List.nil_append, List.cons_append, List.append_assoc] at H
    try clear w13
    have C := H.cells
    try simp only [cellsOf, cellsM, apartOf, apartM, and_true] at C
    dsimp only
    go_wp2_with fail
    refine (HVX.out ⟨pb, pm, pd⟩ ⟨rb, rm, rd⟩ _ (HNm.out.below H.done) (meAt_of (m := (⟨s0, s1, s2, s3, s4, s5, kd, dt, ck, fx, vs, fs⟩ : Mm)) HQX.out (H.says 7 rfl))).mono ?_
    rintro _ w15 ⟨rfl, hb⟩
    replace H := H.below hb
    clear hb
    try clear C
    try simp only [World.size_alloc, List.nil_append, List.cons_append, List.append_assoc] at H
    try clear w14
    have C := H.cells
    try simp only [cellsOf, cellsM, apartOf, apartM, and_true] at C
    dsimp only
    clear HVX
    go_wp2_with fail
    refine (HSW.out _ (bytes_row rfl (H.at 9 rfl)) (bytes_row HBL.out.symm (H.at 3 rfl))).mono ?_
    rintro _ w16 ⟨rfl, hb⟩
    replace H := H.below hb
    clear hb
    try clear C
    try simp only [World.size_alloc, List.nil_append, List.cons_append, List.append_assoc] at H
    try clear w15
    have C := H.cells
    try simp only [cellsOf, cellsM, apartOf, apartM, and_true] at C
    dsimp only
    clear HSW
    skip
    by_cases hik : i = k
    · have hik1 : (i : Int) = (k : Int) := by omega
      have hik2 : ((i : Int) == (k : Int)) = true := beq_iff_eq.2 hik1
      clear hik
      go_wp2_with fail
      go_ret
      exact ⟨by first | rfl | go_simp, H.done⟩
    · skip
      have hik2 : ((i : Int) == (k : Int)) = false := beq_eq_false_iff_ne.2 (by omega)
      obtain ⟨rfl, rfl, rfl⟩ : kb = ka ∧ bz = az ∧ pb9 = pa9 := by have h9 := HLK.out hik; injection h9 with h1 h2 h3; exact ⟨h1, h2, h3⟩
      clear hik
      have HSV2 := Lib.hid (fun wx hx hy => (show Calls Tryd.prog 23 #[.agg #[.int .i64 kb, .slice sx bz.length cx, .bool pb9], .agg #[.int .i64 kb, .slice sz bz.length cz, .bool pb9]] wx (Gives (.bool true) wx) from by
        have h9 := sameWord13_any ⟨kb, bz, pb9⟩ ⟨kb, bz, pb9⟩ ⟨sx, bz.length, cx⟩ ⟨sz, bz.length, cz⟩ (by have := HN40.out; have := HBB.out; show bz.length ≤ _; omega) (by have := HN40.out; have := HBB.out; show bz.length ≤ _; omega) wx hx hy
        rw [decide_eq_true rfl] at h9
        exact h9))
      go_wp2_with fail
      refine (HSV2.out _ (bytes_row rfl (H.at 11 rfl)) (bytes_row rfl (H.at 5 rfl))).mono ?_
      rintro _ w17 ⟨rfl, hb⟩
      replace H := H.below hb
      clear hb
      try clear C
      try simp only [World.size_alloc, List.nil_append, List.cons_append, List.append_assoc] at H
      try clear w16
      have C := H.cells
      try simp only [cellsOf, cellsM, apartOf, apartM, and_true] at C
      dsimp only
      go_wp2_with fail
      go_ret
      exact ⟨by first | rfl | go_simp, H.done⟩
  · rw [decide_eq_false h400] at hli
    have HLI := Lib.hid hli
    clear hli
    go_enter Tryd.func6, Tryd.ntmps6
    have H := HS.start NoD w
    go_wp2_with fail
    refine (gives_of (HLI.out _)).mono ?_
    rintro _ w1 ⟨rfl, hb⟩
    replace H := H.below hb
    clear hb
    try clear C
    try simp only [World.size_alloc, List.nil_append, List.cons_append, List.append_assoc] at H
    have C := H.cells
    try simp only [cellsOf, cellsM, apartOf, apartM, and_true] at C
    dsimp only
    go_wp2_with fail
    refine (awake13_any _ (HNm.out.below H.done)).mono ?_
    rintro _ w2 ⟨rfl, hb⟩
    replace H := H.below hb
    clear hb
    try clear C
    try simp only [World.size_alloc, List.nil_append, List.cons_append, List.append_assoc] at H
    try clear w1
    have C := H.cells
    try simp only [cellsOf, cellsM, apartOf, apartM, and_true] at C
    dsimp only
    go_wp2_with fail
    go_ret
    exact ⟨rfl, H.done⟩
end Go.Proofs.YtplflpmkomeadaaDoor
