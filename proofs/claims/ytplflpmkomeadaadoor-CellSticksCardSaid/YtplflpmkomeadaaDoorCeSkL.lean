/- CellSticks' walk. -/
import Derived.Test.YtplflpmkomeadaaDoorCeY
import Derived.Test.YtplflpmkomeadaaDoorCeZ
import Derived.Test.YtplflpmkomeadaaDoorCeRp
import Derived.Test.YtplflpmkomeadaaDoorK1
namespace Go.Proofs.YtplflpmkomeadaaDoor
set_option linter.unusedSimpArgs false
set_option linter.unusedVariables false
open Go.RowKit
set_option maxRecDepth 100000
attribute [local irreducible] wpX wpF Calls

theorem stkL_len (c : Fa → Bool) : ∀ (fs : List Fa) (m : Wm), (stkL c fs m).bs.length = m.bs.length
  | [], m => rfl
  | f :: fs, m => by
    show (stkL c fs (if c f = true then stkAt f.ch f.ms f.vl m else m)).bs.length = _
    rw [stkL_len c fs]
    split
    · exact stkAt_len _ _ _ _
    · rfl
set_option maxHeartbeats 16000000 in
theorem sticks_walk (sa : Option Addr) (len cap : Nat) (hl : len ≤ maxLen) (index : Int) (w : World) (hN : Nm w) (hI : Ints w sa len) : Calls Tryd.prog 4 #[.slice sa len cap, .int .i64 index] w (Gives (.bool true) w) := by
  have HI := Lib.hid hI
  have HNm := Lib.hid hN
  clear hI hN
  have hli := light_any sa len cap hl
  clear hl
  by_cases h400 : len ≤ 400
  · rw [decide_eq_true h400] at hli
    have HLI := Lib.hid hli
    clear hli
    go_enter Tryd.func4, Tryd.ntmps4
    have H := HS.start NoD w
    go_wp2_with fail
    refine (gives_of (HLI.out _)).mono ?_
    rintro _ w1 ⟨rfl, hb⟩
    replace H := H.below hb
    clear hb
    try clear C
    try simp only [World.size_alloc, List.nil_append, List.cons_append, List.append_assoc] at H
    have C := H.cells
    try simp only [cellsOf, cellsM, apartOf, apartM, and_true] at C
    dsimp only
    go_wp2_with fail
    refine (roll_at w.heap.size _ _ _ h400 _ H.size (H.ints HI.out)).mono ?_
    rintro _ w2 ⟨bd, rfl, hd, hb, hbb⟩
    replace H := H.getsDice hb hd hbb (Nat.le_refl _)
    clear hb hd hbb
    try clear C
    try simp only [World.size_alloc, List.nil_append, List.cons_append, List.append_assoc] at H
    try clear w1
    have C := H.cells
    try simp only [cellsOf, cellsM, apartOf, apartM, and_true] at C
    dsimp only
    go_wp2_with fail
    refine (random13_any w.heap.size bd _ (H.at 0 rfl) H.size).mono ?_
    rintro _ w61 ⟨M, ⟨pa, pn, pc⟩, ⟨ra, rn, rc⟩, qs, F, hg, hbw, hz, hfl, hqm, rfl, K0⟩
    replace H := H.joinDice 0 rfl K0 (one_low rfl)
    clear K0
    try simp only [List.nil_append, List.cons_append] at H
    obtain ⟨s0, s1, s2, s3, s4, s5, kd, dt, ck, fx, ws, fs⟩ := M
    have HG := Lib.hid hg
    have HBW := Lib.hid hbw
    have HZ := Lib.hid hz
    have HQM := Lib.hid hqm
    have HFL := Lib.hid (show fs.length ≤ 10 from hfl)
    have hrg := codeB_rng hg.co
    have hrg1 : 1 ≤ dt + ck ∧ dt + ck ≤ 40 ∧ 0 ≤ dt ∧ 0 ≤ ck := by dsimp only at hrg; omega
    have HRG := Lib.hid hrg1
    obtain ⟨N, hN⟩ : ∃ N : Nat, (N : Int) = dt + ck := ⟨(dt + ck).toNat, by have := HRG.out; omega⟩
    have hN2 : (dt + ck).toNat = N := by omega
    have HN2 := Lib.hid hN2
    have HN40 := Lib.hid (show N ≤ 40 by omega)
    have HN1 := Lib.hid (show 1 ≤ N by omega)
    have HCH := Lib.hid (fun w => (show Calls Tryd.prog 14 #[.agg #[.int .i64 kd, .int .i64 dt, .int .i64 ck, .int .i64 fx]] w (Gives (.int .i64 (N : Int)) w) from by rw [hN]; exact r13chips_any kd dt ck fx (by omega) (by omega) w))
    have HSV := Lib.hid (show SV s0 s1 s2 s3 s4 s5 from hg.sv)
    have hGW : GoodWs (szM (⟨s0, s1, s2, s3, s4, s5, kd, dt, ck, fx, ws, fs⟩ : Mm)) N ws := by have := HG.out.ws; dsimp only at this; rwa [hN2] at this
    have HGW := Lib.hid hGW
    have HSM1 := Lib.hid (HG.out.small (Nat.le_trans HZ.out (by decide)))
    obtain ⟨sz9, hZ⟩ : ∃ z : Nat, z = sizeN s0 s1 s2 s3 s4 s5 := ⟨_, rfl⟩
    have hz64 : sz9 ≤ 64 := by rw [hZ]; exact HZ.out
    have hz1 : 1 ≤ sz9 := by
      have h1 := sizeN_yes HSV.out
      have h2 : (0 : Int) < 2 ^ (s0 + s1 + s2 + s3 + s4 + s5).toNat := Int.pow_pos (by decide)
      omega
    have HZZ := Lib.hid (show szM (⟨s0, s1, s2, s3, s4, s5, kd, dt, ck, fx, ws, fs⟩ : Mm) = sz9 from hZ.symm)
    have HZ64 := Lib.hid hz64
    have HZ1 := Lib.hid hz1
    have HSZ := Lib.hid (fun w => show Calls Tryd.prog 17 #[.agg #[.int .i64 s0, .int .i64 s1, .int .i64 s2, .int .i64 s3, .int .i64 s4, .int .i64 s5]] w (Gives (.int .i64 sz9) w) from by rw [hZ]; exact rsize_all s0 s1 s2 s3 s4 s5 w)
    have HND := Lib.hid hN
    clear hg hbw hz hfl hqm hrg hrg1 hN hN2 hGW hZ hz64 hz1
    skip
    try clear C
    try simp only [World.size_alloc, List.nil_append, List.cons_append, List.append_assoc] at H
    have C := H.cells
    try simp only [cellsOf, cellsM, apartOf, apartM, and_true] at C
    try dsimp only [meV] at H ⊢
    try dsimp only [meV]
    have M1 := Lib.hid (fun w => gives_of (mod_any index (sz9 : Int) w))
    have hmM1 : Nextly (sz9 : Int) (modF index sz9) := modF_nextly (by have := HZ1.out; have := HZ64.out; omega)
    generalize modF index (sz9 : Int) = i9 at M1 hmM1
    have hjM1 : 0 ≤ i9 := hmM1.1
    have hkM1 : i9 < sz9 := hmM1.lt (by have := HZ1.out; omega)
    obtain ⟨i, rfl⟩ : ∃ n : Nat, i9 = n := ⟨i9.toNat, by omega⟩
    have HRM1 := Lib.hid (show 0 ≤ (i : Int) ∧ (i : Int) < szM (⟨s0, s1, s2, s3, s4, s5, kd, dt, ck, fx, ws, fs⟩ : Mm) from ⟨by omega, by rw [HZZ.out]; exact hkM1⟩)
    clear hmM1 hjM1 hkM1
    go_upto_region 5 with fail
    generalize hwb : w61.alloc _ = w3
    replace H := HS.eqW hwb H.alloc
    try simp only [World.size_alloc, List.nil_append, List.cons_append, List.append_assoc] at H
    clear hwb
    generalize w61.heap.size = b6 at H ⊢
    try clear C
    try clear w61
    have C := H.cells
    try simp only [cellsOf, cellsM, apartOf, apartM, and_true] at C
    refine wp_region_fH (by kernel_rfl) [0, 1, 2, 3, 4, 5, 6, 7, 8] (by kernel_rfl) (by kernel_rfl) (by kernel_rfl) (OneD bd) (H) ?_
    clear H; intro w4 H hz0
    try clear C
    try simp only [World.size_alloc, List.nil_append, List.cons_append, List.append_assoc] at H hz0 ⊢
    clear hz0
    try clear w3
    have C := H.cells
    try simp only [cellsOf, cellsM, apartOf, apartM, and_true] at C
    simp only [List.filterMap_cons, List.filterMap_nil, List.getElem?_toArray, List.getElem?_cons_zero, List.getElem?_cons_succ]
    (refine wpF_free rfl rfl rfl (fun _ _ => ?_); go_step; go_step)
    (refine wpF_free rfl rfl rfl (fun _ _ => ?_); go_step; go_step)
    (refine wpF_load rfl rfl rfl (by simp [Stay, OneD, NoD, *]) (by simp [*]) (fun _ _ => ?_); go_step; go_step)
    (refine wpF_free rfl rfl rfl (fun _ _ => ?_); go_step; go_step)
    (refine wpF_load rfl rfl rfl (by simp [Stay, OneD, NoD, *]) (by simp [*]) (fun _ _ => ?_); go_step; go_step)
    (refine wpF_call rfl rfl (fun wc hc _ _ => ?_); go_step; refine (HCH.out _).mono ?_; rintro _ wd ⟨rfl, hb⟩; dsimp only; go_step; refine ⟨hc.below (fun _ h => h.lt) hb (hc.inv.below hb), fun k _ hk => hb.block k hk, ?_⟩; clear hb hc wc wd)
    (refine wpF_call rfl rfl (fun wc hc _ _ => ?_); go_step; refine (faultv_any HSV.out (N : Int) (by have := HN1.out; omega) (by have := HN40.out; omega) true w.heap.size bd _ (hc.inv.at 0 rfl) hc.inv.size).mono ?_; rintro _ wd ⟨f8, rfl, hfh8, hfv8, hd, hg⟩; dsimp only; go_step; refine ⟨hc.chgS hg rfl (Dice.lt (H.at 0 rfl)) (hc.inv.diceAt 0 rfl hg hd), hc.chgK hg (Dice.lt (H.at 0 rfl)), ?_⟩; clear hg hd hc wc wd)
    (refine wpF_float rfl rfl #[.int .i64 0, .int .i64 0, .int .i64 0, .int .i64 0, .int .i64 0, .int .i64 0, .int .i64 0, .int .i64 0, .int .u8 0, .int .u8 0, .bool false]   38 (fun w => by kernel_rfl) (fun b7 hb7 nb7 _ _ => ?_); go_simp; go_step)
    (refine wpF_store (cs := #[.int .i64 f8.k, .int .i64 f8.p0, .int .i64 f8.p1, .int .i64 f8.p2, .int .i64 f8.p3, .int .i64 f8.p4, .int .i64 f8.p5, .int .i64 f8.ch, .int .u8 f8.ms, .int .u8 f8.vl, .bool f8.hd]) rfl rfl rfl rfl (Fl.at _ _ _) rfl (by kernel_rfl) rfl rfl (fun _ _ => ?_); go_simp; go_step)
    refine wpF_nil ?_
    intro w5 hC
    replace H := H.floats1 hC (Fl.at _ _ _)
    clear hC C hb7 nb7 w4
    try simp only [List.nil_append, List.cons_append, List.append_assoc] at H
    have C := H.cells
    try simp only [cellsOf, cellsM, apartOf, apartM, and_true] at C
    go_step
    go_step
    obtain ⟨k, p0, p1, p2, p3, p4, p5, ch, ms, vl, hd⟩ := f8
    replace hfh8 : hd = true := hfh8
    subst hfh8
    try dsimp only at H
    replace hfv8 : vfF (⟨s0, s1, s2, s3, s4, s5, kd, dt, ck, fx, ws, fs⟩ : Mm) (N : Int) (⟨k, p0, p1, p2, p3, p4, p5, ch, ms, vl, true⟩ : Fa) = true := hfv8
    have hcr := vf_ch hfv8
    obtain ⟨cN, hcN⟩ : ∃ c : Nat, ch = c := ⟨ch.toNat, by have := hcr.1; dsimp only at this; omega⟩
    subst hcN
    have HCN := Lib.hid (show cN < N by have := hcr.2; dsimp only at this; omega)
    have hvf : vfF (⟨s0, s1, s2, s3, s4, s5, kd, dt, ck, fx, ws, fs⟩ : Mm) ((⟨s0, s1, s2, s3, s4, s5, kd, dt, ck, fx, ws, fs⟩ : Mm).dt + (⟨s0, s1, s2, s3, s4, s5, kd, dt, ck, fx, ws, fs⟩ : Mm).ck) (⟨k, p0, p1, p2, p3, p4, p5, (cN : Int), ms, vl, true⟩ : Fa) = true := by show vfF (⟨s0, s1, s2, s3, s4, s5, kd, dt, ck, fx, ws, fs⟩ : Mm) (dt + ck) (⟨k, p0, p1, p2, p3, p4, p5, (cN : Int), ms, vl, true⟩ : Fa) = true; rw [← HND.out]; exact hfv8
    try clear C
    try simp only [World.size_alloc, List.nil_append, List.cons_append, List.append_assoc] at H
    have C := H.cells
    try simp only [cellsOf, cellsM, apartOf, apartM, and_true] at C
    by_cases hm : (⟨k, p0, p1, p2, p3, p4, p5, (cN : Int), ms, vl, true⟩ : Fa) ∈ fs
    · have t1 : injF (⟨s0, s1, s2, s3, s4, s5, kd, dt, ck, fx, ws, fs⟩ : Mm) (⟨k, p0, p1, p2, p3, p4, p5, (cN : Int), ms, vl, true⟩ : Fa) = ((⟨s0, s1, s2, s3, s4, s5, kd, dt, ck, fx, ws, fs⟩ : Mm), 8) := by unfold injF; rw [goodB_iff.2 HG.out, if_pos rfl, hvf, if_pos rfl, if_pos rfl, if_pos hm]
      have HI1 := Lib.hid (fun (x y : Sv) wx hn hx => (show Calls Tryd.prog 15 #[meV (⟨s0, s1, s2, s3, s4, s5, kd, dt, ck, fx, ws, fs⟩ : Mm) x y, .agg #[.int .i64 k, .int .i64 p0, .int .i64 p1, .int .i64 p2, .int .i64 p3, .int .i64 p4, .int .i64 p5, .int .i64 (cN : Nat), .int .u8 ms, .int .u8 vl, .bool true]] wx (GivesMeE (⟨s0, s1, s2, s3, s4, s5, kd, dt, ck, fx, ws, fs⟩ : Mm) 8 wx) from by
        have h9 := cinject_any (⟨s0, s1, s2, s3, s4, s5, kd, dt, ck, fx, ws, fs⟩ : Mm) x y HSM1.out (⟨k, p0, p1, p2, p3, p4, p5, (cN : Int), ms, vl, true⟩ : Fa) wx hn hx
        rw [t1] at h9
        exact h9))
      have HSM := Lib.hid (fun (x y u v : Sv) wx hx hy => (show Calls Tryd.prog 20 #[meV (⟨s0, s1, s2, s3, s4, s5, kd, dt, ck, fx, ws, fs⟩ : Mm) x y, meV (⟨s0, s1, s2, s3, s4, s5, kd, dt, ck, fx, ws, fs⟩ : Mm) u v] wx (Gives (.bool true) wx) from by
        have h9 := same13_any (⟨s0, s1, s2, s3, s4, s5, kd, dt, ck, fx, ws, fs⟩ : Mm) (⟨s0, s1, s2, s3, s4, s5, kd, dt, ck, fx, ws, fs⟩ : Mm) x y u v HSM1.out.long HSM1.out.long wx hx hy
        rw [decide_eq_true rfl] at h9
        exact h9))
      clear hm t1 hvf hfv8 hcr HG HBW HGW HSM1
      try clear C
      try simp only [World.size_alloc, List.nil_append, List.cons_append, List.append_assoc] at H
      have C := H.cells
      try simp only [cellsOf, cellsM, apartOf, apartM, and_true] at C
      go_wp2_with fail
      refine (HI1.out ⟨pa, pn, pc⟩ ⟨ra, rn, rc⟩ _ (HNm.out.below H.done) (meAt_of (m := (⟨s0, s1, s2, s3, s4, s5, kd, dt, ck, fx, ws, fs⟩ : Mm)) HQM.out (H.says 1 rfl))).mono ?_
      rintro _ w71 ⟨⟨a1, n1, c1⟩, ⟨b1, m1, d1⟩, q1, F1, hq1, rfl, K0⟩
      replace H := H.join K0 (one_low rfl)
      clear K0
      try simp only [List.nil_append, List.cons_append] at H
      skip
      try clear C
      try simp only [World.size_alloc, List.nil_append, List.cons_append, List.append_assoc] at H
      have C := H.cells
      try simp only [cellsOf, cellsM, apartOf, apartM, and_true] at C
      try dsimp only [meV] at H ⊢
      try dsimp only [meV]
      try dsimp only at H ⊢
      have HQ1 := Lib.hid hq1
      clear hq1 HI1
      go_upto_region 7 with fail
      generalize hwb : w71.alloc _ = w6
      replace H := HS.eqW hwb H.alloc
      try simp only [World.size_alloc, List.nil_append, List.cons_append, List.append_assoc] at H
      clear hwb
      generalize w71.heap.size = b8 at H ⊢
      try clear C
      try clear w71
      have C := H.cells
      try simp only [cellsOf, cellsM, apartOf, apartM, and_true] at C
      go_wp2_with fail
      refine (awake13_any _ (HNm.out.below H.done)).mono ?_
      rintro _ w7 ⟨rfl, hb⟩
      replace H := H.below hb
      clear hb
      try clear C
      try simp only [World.size_alloc, List.nil_append, List.cons_append, List.append_assoc] at H
      try clear w6
      have C := H.cells
      try simp only [cellsOf, cellsM, apartOf, apartM, and_true] at C
      dsimp only
      go_wp2_with fail
      refine (HSM.out ⟨a1, n1, c1⟩ ⟨b1, m1, d1⟩ ⟨pa, pn, pc⟩ ⟨ra, rn, rc⟩ _ (meAt_of (m := (⟨s0, s1, s2, s3, s4, s5, kd, dt, ck, fx, ws, fs⟩ : Mm)) HQ1.out (H.says 4 rfl)) (meAt_of (m := (⟨s0, s1, s2, s3, s4, s5, kd, dt, ck, fx, ws, fs⟩ : Mm)) HQM.out (H.says 1 rfl))).mono ?_
      rintro _ w8 ⟨rfl, hb⟩
      replace H := H.below hb
      clear hb
      try clear C
      try simp only [World.size_alloc, List.nil_append, List.cons_append, List.append_assoc] at H
      try clear w7
      have C := H.cells
      try simp only [cellsOf, cellsM, apartOf, apartM, and_true] at C
      dsimp only
      go_wp2_with fail
      go_ret
      exact ⟨by first | rfl | go_simp, H.done⟩
    · have t1 : injF (⟨s0, s1, s2, s3, s4, s5, kd, dt, ck, fx, ws, fs⟩ : Mm) (⟨k, p0, p1, p2, p3, p4, p5, (cN : Int), ms, vl, true⟩ : Fa) = ((⟨s0, s1, s2, s3, s4, s5, kd, dt, ck, fx, ws, (fs ++ [(⟨k, p0, p1, p2, p3, p4, p5, (cN : Int), ms, vl, true⟩ : Fa)])⟩ : Mm), 0) := by unfold injF; rw [goodB_iff.2 HG.out, if_pos rfl, hvf, if_pos rfl, if_pos rfl, if_neg hm, if_neg (show ¬ fs.length = 64 by have := HFL.out; omega)]; rfl
      have hgx : GoodM (⟨s0, s1, s2, s3, s4, s5, kd, dt, ck, fx, ws, (fs ++ [(⟨k, p0, p1, p2, p3, p4, p5, (cN : Int), ms, vl, true⟩ : Fa)])⟩ : Mm) := HG.out.setFs (fs := fs ++ [(⟨k, p0, p1, p2, p3, p4, p5, (cN : Int), ms, vl, true⟩ : Fa)]) (by rw [List.length_append]; have := HFL.out; simp; omega) (fun g hg => by
        rcases List.mem_append.1 hg with hg | hg
        · exact HG.out.fs g hg
        · cases List.mem_singleton.1 hg; exact ⟨rfl, hvf⟩) (List.nodup_append.2 ⟨HG.out.nd, List.nodup_cons.2 ⟨List.not_mem_nil, List.nodup_nil⟩, fun a ha b hb e => by cases List.mem_singleton.1 hb; exact hm (e ▸ ha)⟩)
      have hsx : SmallM (⟨s0, s1, s2, s3, s4, s5, kd, dt, ck, fx, ws, (fs ++ [(⟨k, p0, p1, p2, p3, p4, p5, (cN : Int), ms, vl, true⟩ : Fa)])⟩ : Mm) := hgx.small (Nat.le_trans (show szM (⟨s0, s1, s2, s3, s4, s5, kd, dt, ck, fx, ws, (fs ++ [(⟨k, p0, p1, p2, p3, p4, p5, (cN : Int), ms, vl, true⟩ : Fa)])⟩ : Mm) ≤ 64 from HZ.out) (by decide))
      have t2 : repF (⟨s0, s1, s2, s3, s4, s5, kd, dt, ck, fx, ws, (fs ++ [(⟨k, p0, p1, p2, p3, p4, p5, (cN : Int), ms, vl, true⟩ : Fa)])⟩ : Mm) (⟨k, p0, p1, p2, p3, p4, p5, (cN : Int), ms, vl, true⟩ : Fa) = ((⟨s0, s1, s2, s3, s4, s5, kd, dt, ck, fx, ws, fs⟩ : Mm), 0) := by
        unfold repF
        rw [goodB_iff.2 hgx, if_pos rfl, if_pos (List.mem_append_right _ List.mem_cons_self)]
        show (setFs (⟨s0, s1, s2, s3, s4, s5, kd, dt, ck, fx, ws, (fs ++ [(⟨k, p0, p1, p2, p3, p4, p5, (cN : Int), ms, vl, true⟩ : Fa)])⟩ : Mm) ((fs ++ [(⟨k, p0, p1, p2, p3, p4, p5, (cN : Int), ms, vl, true⟩ : Fa)]).filter (fun g => !decide (g = (⟨k, p0, p1, p2, p3, p4, p5, (cN : Int), ms, vl, true⟩ : Fa)))), (0 : Int)) = _
        rw [List.filter_append, filter_all hm, List.filter_cons_of_neg (by simp), List.filter_nil, List.append_nil]
        rfl
      have HI1 := Lib.hid (fun (x y : Sv) wx hn hx => (show Calls Tryd.prog 15 #[meV (⟨s0, s1, s2, s3, s4, s5, kd, dt, ck, fx, ws, fs⟩ : Mm) x y, .agg #[.int .i64 k, .int .i64 p0, .int .i64 p1, .int .i64 p2, .int .i64 p3, .int .i64 p4, .int .i64 p5, .int .i64 (cN : Nat), .int .u8 ms, .int .u8 vl, .bool true]] wx (GivesMeE (⟨s0, s1, s2, s3, s4, s5, kd, dt, ck, fx, ws, (fs ++ [(⟨k, p0, p1, p2, p3, p4, p5, (cN : Int), ms, vl, true⟩ : Fa)])⟩ : Mm) 0 wx) from by
        have h9 := cinject_any (⟨s0, s1, s2, s3, s4, s5, kd, dt, ck, fx, ws, fs⟩ : Mm) x y HSM1.out (⟨k, p0, p1, p2, p3, p4, p5, (cN : Int), ms, vl, true⟩ : Fa) wx hn hx
        rw [t1] at h9
        exact h9))
      have HREP := Lib.hid (fun (x y : Sv) wx hn hx => (show Calls Tryd.prog 24 #[meV (⟨s0, s1, s2, s3, s4, s5, kd, dt, ck, fx, ws, (fs ++ [(⟨k, p0, p1, p2, p3, p4, p5, (cN : Int), ms, vl, true⟩ : Fa)])⟩ : Mm) x y, .agg #[.int .i64 k, .int .i64 p0, .int .i64 p1, .int .i64 p2, .int .i64 p3, .int .i64 p4, .int .i64 p5, .int .i64 (cN : Nat), .int .u8 ms, .int .u8 vl, .bool true]] wx (GivesMeE (⟨s0, s1, s2, s3, s4, s5, kd, dt, ck, fx, ws, fs⟩ : Mm) 0 wx) from by
        have h9 := crepair_any (⟨s0, s1, s2, s3, s4, s5, kd, dt, ck, fx, ws, (fs ++ [(⟨k, p0, p1, p2, p3, p4, p5, (cN : Int), ms, vl, true⟩ : Fa)])⟩ : Mm) x y hsx (⟨k, p0, p1, p2, p3, p4, p5, (cN : Int), ms, vl, true⟩ : Fa) wx hn hx
        rw [t2] at h9
        exact h9))
      have HSM := Lib.hid (fun (x y u v : Sv) wx hx hy => (show Calls Tryd.prog 20 #[meV (⟨s0, s1, s2, s3, s4, s5, kd, dt, ck, fx, ws, fs⟩ : Mm) x y, meV (⟨s0, s1, s2, s3, s4, s5, kd, dt, ck, fx, ws, fs⟩ : Mm) u v] wx (Gives (.bool true) wx) from by
        have h9 := same13_any (⟨s0, s1, s2, s3, s4, s5, kd, dt, ck, fx, ws, fs⟩ : Mm) (⟨s0, s1, s2, s3, s4, s5, kd, dt, ck, fx, ws, fs⟩ : Mm) x y u v HSM1.out.long HSM1.out.long wx hx hy
        rw [decide_eq_true rfl] at h9
        exact h9))
      have HCO := Lib.hid (fun wx => (show Calls Tryd.prog 26 #[.agg #[.int .i64 kd, .int .i64 dt, .int .i64 ck, .int .i64 fx]] wx (Gives (.bool true) wx) from by
        have h9 := r07code_any kd dt ck fx wx
        rw [show codeB kd dt ck fx = true from HG.out.co] at h9
        exact h9))
      have hsa : storedF (⟨s0, s1, s2, s3, s4, s5, kd, dt, ck, fx, ws, (fs ++ [(⟨k, p0, p1, p2, p3, p4, p5, (cN : Int), ms, vl, true⟩ : Fa)])⟩ : Mm) i = (lookW N ws i, 0) := by unfold storedF; rw [goodB_iff.2 hgx, if_pos rfl, if_pos (show 0 ≤ (i : Int) ∧ (i : Int) < szM (⟨s0, s1, s2, s3, s4, s5, kd, dt, ck, fx, ws, (fs ++ [(⟨k, p0, p1, p2, p3, p4, p5, (cN : Int), ms, vl, true⟩ : Fa)])⟩ : Mm) from HRM1.out)]; show (lookW (dt + ck).toNat ws i, (0 : Int)) = _; rw [HN2.out]
      have hsb : storedF (⟨s0, s1, s2, s3, s4, s5, kd, dt, ck, fx, ws, fs⟩ : Mm) i = (lookW N ws i, 0) := by unfold storedF; rw [goodB_iff.2 HG.out, if_pos rfl, if_pos HRM1.out]; show (lookW (dt + ck).toNat ws i, (0 : Int)) = _; rw [HN2.out]
      have hwr : ∀ M : Mm, GoodM M → szM M = szM (⟨s0, s1, s2, s3, s4, s5, kd, dt, ck, fx, ws, fs⟩ : Mm) → fetchF M i = (seenW M i, 0) := fun M h h1 => by
        have : wrongF M i = 0 := by unfold wrongF; rw [goodB_iff.2 h, if_pos rfl, if_pos (by rw [h1]; exact HRM1.out)]
        unfold fetchF
        rw [if_pos this]
      have hfa : fetchF (⟨s0, s1, s2, s3, s4, s5, kd, dt, ck, fx, ws, (fs ++ [(⟨k, p0, p1, p2, p3, p4, p5, (cN : Int), ms, vl, true⟩ : Fa)])⟩ : Mm) i = (seenW (⟨s0, s1, s2, s3, s4, s5, kd, dt, ck, fx, ws, (fs ++ [(⟨k, p0, p1, p2, p3, p4, p5, (cN : Int), ms, vl, true⟩ : Fa)])⟩ : Mm) i, 0) := hwr _ hgx rfl
      have hfb : fetchF (⟨s0, s1, s2, s3, s4, s5, kd, dt, ck, fx, ws, fs⟩ : Mm) i = (seenW (⟨s0, s1, s2, s3, s4, s5, kd, dt, ck, fx, ws, fs⟩ : Mm) i, 0) := hwr _ HG.out rfl
      have hsee : seenW (⟨s0, s1, s2, s3, s4, s5, kd, dt, ck, fx, ws, (fs ++ [(⟨k, p0, p1, p2, p3, p4, p5, (cN : Int), ms, vl, true⟩ : Fa)])⟩ : Mm) i = if cvF (⟨s0, s1, s2, s3, s4, s5, kd, dt, ck, fx, ws, fs⟩ : Mm) (⟨k, p0, p1, p2, p3, p4, p5, (cN : Int), ms, vl, true⟩ : Fa) i = true then stkAt cN ms vl (seenW (⟨s0, s1, s2, s3, s4, s5, kd, dt, ck, fx, ws, fs⟩ : Mm) i) else seenW (⟨s0, s1, s2, s3, s4, s5, kd, dt, ck, fx, ws, fs⟩ : Mm) i := by
        show stkL (fun f => cvF (⟨s0, s1, s2, s3, s4, s5, kd, dt, ck, fx, ws, (fs ++ [(⟨k, p0, p1, p2, p3, p4, p5, (cN : Int), ms, vl, true⟩ : Fa)])⟩ : Mm) f (i : Int).toNat) (fs ++ [(⟨k, p0, p1, p2, p3, p4, p5, (cN : Int), ms, vl, true⟩ : Fa)]) (lookW (dt + ck).toNat ws i) = _
        have e : (i : Int).toNat = i := Int.toNat_natCast i
        by_cases h : cvF (⟨s0, s1, s2, s3, s4, s5, kd, dt, ck, fx, ws, fs⟩ : Mm) (⟨k, p0, p1, p2, p3, p4, p5, (cN : Int), ms, vl, true⟩ : Fa) i = true
        · rw [if_pos h, stkL_yes (show cvF (⟨s0, s1, s2, s3, s4, s5, kd, dt, ck, fx, ws, (fs ++ [(⟨k, p0, p1, p2, p3, p4, p5, (cN : Int), ms, vl, true⟩ : Fa)])⟩ : Mm) (⟨k, p0, p1, p2, p3, p4, p5, (cN : Int), ms, vl, true⟩ : Fa) (i : Int).toNat = true by rw [e]; exact h)]; rfl
        · rw [if_neg h, stkL_no (show cvF (⟨s0, s1, s2, s3, s4, s5, kd, dt, ck, fx, ws, (fs ++ [(⟨k, p0, p1, p2, p3, p4, p5, (cN : Int), ms, vl, true⟩ : Fa)])⟩ : Mm) (⟨k, p0, p1, p2, p3, p4, p5, (cN : Int), ms, vl, true⟩ : Fa) (i : Int).toNat = false by rw [e]; exact Bool.eq_false_iff.2 h)]; rfl
      have hsl : (seenW (⟨s0, s1, s2, s3, s4, s5, kd, dt, ck, fx, ws, fs⟩ : Mm) i).bs.length = N := by
        show (stkL _ fs (lookW (dt + ck).toNat ws i)).bs.length = N
        rw [stkL_len, HN2.out]; exact HGW.out.look_len i
      have hsl2 : (seenW (⟨s0, s1, s2, s3, s4, s5, kd, dt, ck, fx, ws, (fs ++ [(⟨k, p0, p1, p2, p3, p4, p5, (cN : Int), ms, vl, true⟩ : Fa)])⟩ : Mm) i).bs.length = N := by
        show (stkL _ (fs ++ [(⟨k, p0, p1, p2, p3, p4, p5, (cN : Int), ms, vl, true⟩ : Fa)]) (lookW (dt + ck).toNat ws i)).bs.length = N
        rw [stkL_len, HN2.out]; exact HGW.out.look_len i
      have hbl : (lookW N ws i).bs.length = N := HGW.out.look_len i
      have HSA := Lib.hid (fun (x y : Sv) wx hn hx => (show Calls Tryd.prog 19 #[meV (⟨s0, s1, s2, s3, s4, s5, kd, dt, ck, fx, ws, (fs ++ [(⟨k, p0, p1, p2, p3, p4, p5, (cN : Int), ms, vl, true⟩ : Fa)])⟩ : Mm) x y, .int .i64 (i : Nat)] wx (GivesCwRE (lookW N ws i) 0 wx) from by
        have h9 := cstored_any (⟨s0, s1, s2, s3, s4, s5, kd, dt, ck, fx, ws, (fs ++ [(⟨k, p0, p1, p2, p3, p4, p5, (cN : Int), ms, vl, true⟩ : Fa)])⟩ : Mm) x y hsx i wx hn hx
        rw [hsa] at h9
        exact h9))
      have HSB := Lib.hid (fun (x y : Sv) wx hn hx => (show Calls Tryd.prog 19 #[meV (⟨s0, s1, s2, s3, s4, s5, kd, dt, ck, fx, ws, fs⟩ : Mm) x y, .int .i64 (i : Nat)] wx (GivesCwRE (lookW N ws i) 0 wx) from by
        have h9 := cstored_any (⟨s0, s1, s2, s3, s4, s5, kd, dt, ck, fx, ws, fs⟩ : Mm) x y HSM1.out i wx hn hx
        rw [hsb] at h9
        exact h9))
      have HFA := Lib.hid (fun (x y : Sv) wx hn hx => (show Calls Tryd.prog 25 #[meV (⟨s0, s1, s2, s3, s4, s5, kd, dt, ck, fx, ws, (fs ++ [(⟨k, p0, p1, p2, p3, p4, p5, (cN : Int), ms, vl, true⟩ : Fa)])⟩ : Mm) x y, .int .i64 (i : Nat)] wx (GivesCwRE (seenW (⟨s0, s1, s2, s3, s4, s5, kd, dt, ck, fx, ws, (fs ++ [(⟨k, p0, p1, p2, p3, p4, p5, (cN : Int), ms, vl, true⟩ : Fa)])⟩ : Mm) i) 0 wx) from by
        have h9 := cfetch13_any (⟨s0, s1, s2, s3, s4, s5, kd, dt, ck, fx, ws, (fs ++ [(⟨k, p0, p1, p2, p3, p4, p5, (cN : Int), ms, vl, true⟩ : Fa)])⟩ : Mm) x y hsx i wx hn hx
        rw [hfa] at h9
        exact h9))
      have HFB := Lib.hid (fun (x y : Sv) wx hn hx => (show Calls Tryd.prog 25 #[meV (⟨s0, s1, s2, s3, s4, s5, kd, dt, ck, fx, ws, fs⟩ : Mm) x y, .int .i64 (i : Nat)] wx (GivesCwRE (seenW (⟨s0, s1, s2, s3, s4, s5, kd, dt, ck, fx, ws, fs⟩ : Mm) i) 0 wx) from by
        have h9 := cfetch13_any (⟨s0, s1, s2, s3, s4, s5, kd, dt, ck, fx, ws, fs⟩ : Mm) x y HSM1.out i wx hn hx
        rw [hfb] at h9
        exact h9))
      obtain ⟨q0, q1, q2, q3, q4, q5, hat⟩ : ∃ q0 q1 q2 q3 q4 q5, atF s0 s1 s2 s3 s4 s5 (i : Int) = ⟨q0, q1, q2, q3, q4, q5⟩ := ⟨_, _, _, _, _, _, rfl⟩
      have HAT := Lib.hid (fun w => (show Calls Tryd.prog 18 #[.agg #[.int .i64 s0, .int .i64 s1, .int .i64 s2, .int .i64 s3, .int .i64 s4, .int .i64 s5], .int .i64 (i : Nat)] w (Gives (.tuple #[v6 q0 q1 q2 q3 q4 q5, .int .i64 0]) w) from by
        have h9 := at_is (i := (i : Int)) HSV.out HRM1.out.1 (by rw [← sizeN_yes HSV.out]; exact HRM1.out.2) w
        rw [hat] at h9
        exact h9))
      have HCV := Lib.hid (fun w hn => (show Calls Tryd.prog 22 #[.agg #[.int .i64 k, .int .i64 p0, .int .i64 p1, .int .i64 p2, .int .i64 p3, .int .i64 p4, .int .i64 p5, .int .i64 (cN : Nat), .int .u8 ms, .int .u8 vl, .bool true], .agg #[.int .i64 q0, .int .i64 q1, .int .i64 q2, .int .i64 q3, .int .i64 q4, .int .i64 q5]] w (Gives (.bool (cvF (⟨s0, s1, s2, s3, s4, s5, kd, dt, ck, fx, ws, fs⟩ : Mm) (⟨k, p0, p1, p2, p3, p4, p5, (cN : Int), ms, vl, true⟩ : Fa) i)) w) from by rw [cvF_eq (M := (⟨s0, s1, s2, s3, s4, s5, kd, dt, ck, fx, ws, fs⟩ : Mm)) hat]; exact covers_all k p0 p1 p2 p3 p4 p5 cN ms vl q0 q1 q2 q3 q4 q5 true w hn))
      generalize seenW (⟨s0, s1, s2, s3, s4, s5, kd, dt, ck, fx, ws, (fs ++ [(⟨k, p0, p1, p2, p3, p4, p5, (cN : Int), ms, vl, true⟩ : Fa)])⟩ : Mm) i = m8 at HFA hsee hsl2
      generalize seenW (⟨s0, s1, s2, s3, s4, s5, kd, dt, ck, fx, ws, fs⟩ : Mm) i = m9 at HFB hsee hsl
      generalize lookW N ws i = m7 at HSA HSB hbl
      generalize cvF (⟨s0, s1, s2, s3, s4, s5, kd, dt, ck, fx, ws, fs⟩ : Mm) (⟨k, p0, p1, p2, p3, p4, p5, (cN : Int), ms, vl, true⟩ : Fa) i = c9 at HCV hsee
      obtain ⟨wi, bs, po⟩ := m9
      obtain ⟨vi, cs, vp⟩ := m8
      obtain ⟨li, ls, lp⟩ := m7
      have HLK := Lib.hid hsee
      have HBN := Lib.hid (show bs.length = N from hsl)
      have HCN8 := Lib.hid (show cs.length = N from hsl2)
      have HLN := Lib.hid (show ls.length = N from hbl)
      clear hm t1 t2 hvf hfv8 hcr hgx hsx hsa hsb hfa hfb hsee hsl hsl2 hbl hat hwr HG HBW HGW HSM1
      try clear C
      try simp only [World.size_alloc, List.nil_append, List.cons_append, List.append_assoc] at H
      have C := H.cells
      try simp only [cellsOf, cellsM, apartOf, apartM, and_true] at C
      go_wp2_with fail
      refine (HI1.out ⟨pa, pn, pc⟩ ⟨ra, rn, rc⟩ _ (HNm.out.below H.done) (meAt_of (m := (⟨s0, s1, s2, s3, s4, s5, kd, dt, ck, fx, ws, fs⟩ : Mm)) HQM.out (H.says 1 rfl))).mono ?_
      rintro _ w71 ⟨⟨a1, n1, c1⟩, ⟨b1, m1, d1⟩, q1, F1, hq1, rfl, K0⟩
      replace H := H.join K0 (one_low rfl)
      clear K0
      try simp only [List.nil_append, List.cons_append] at H
      skip
      try clear C
      try simp only [World.size_alloc, List.nil_append, List.cons_append, List.append_assoc] at H
      have C := H.cells
      try simp only [cellsOf, cellsM, apartOf, apartM, and_true] at C
      try dsimp only [meV] at H ⊢
      try dsimp only [meV]
      try dsimp only at H ⊢
      have HQ1 := Lib.hid hq1
      clear hq1 HI1
      go_upto_region 7 with fail
      generalize hwb : w71.alloc _ = w9
      replace H := HS.eqW hwb H.alloc
      try simp only [World.size_alloc, List.nil_append, List.cons_append, List.append_assoc] at H
      clear hwb
      generalize w71.heap.size = b8 at H ⊢
      try clear C
      try clear w71
      have C := H.cells
      try simp only [cellsOf, cellsM, apartOf, apartM, and_true] at C
      go_wp2_with fail
      refine (HREP.out ⟨a1, n1, c1⟩ ⟨b1, m1, d1⟩ _ (HNm.out.below H.done) (meAt_of (m := (⟨s0, s1, s2, s3, s4, s5, kd, dt, ck, fx, ws, (fs ++ [(⟨k, p0, p1, p2, p3, p4, p5, (cN : Int), ms, vl, true⟩ : Fa)])⟩ : Mm)) HQ1.out (H.says 4 rfl))).mono ?_
      rintro _ w72 ⟨⟨a2, n2, c2⟩, ⟨b2, m2, d2⟩, q2, F2, hq2, rfl, K0⟩
      replace H := H.join K0 (one_low rfl)
      clear K0
      try simp only [List.nil_append, List.cons_append] at H
      skip
      try clear C
      try simp only [World.size_alloc, List.nil_append, List.cons_append, List.append_assoc] at H
      have C := H.cells
      try simp only [cellsOf, cellsM, apartOf, apartM, and_true] at C
      try dsimp only [meV] at H ⊢
      try dsimp only [meV]
      try dsimp only at H ⊢
      have HQ2 := Lib.hid hq2
      clear hq2 HREP
      go_upto_region 10 with fail
      generalize hwb : w72.alloc _ = w10
      replace H := HS.eqW hwb H.alloc
      try simp only [World.size_alloc, List.nil_append, List.cons_append, List.append_assoc] at H
      clear hwb
      generalize w72.heap.size = b10 at H ⊢
      try clear C
      try clear w72
      have C := H.cells
      try simp only [cellsOf, cellsM, apartOf, apartM, and_true] at C
      go_wp2_with fail
      refine (HSZ.out _).mono ?_
      rintro _ w11 ⟨rfl, hb⟩
      replace H := H.below hb
      clear hb
      try clear C
      try simp only [World.size_alloc, List.nil_append, List.cons_append, List.append_assoc] at H
      try clear w10
      have C := H.cells
      try simp only [cellsOf, cellsM, apartOf, apartM, and_true] at C
      dsimp only
      go_wp2_with fail
      refine (M1.out _).mono ?_
      rintro _ w12 ⟨rfl, hb⟩
      replace H := H.below hb
      clear hb
      try clear C
      try simp only [World.size_alloc, List.nil_append, List.cons_append, List.append_assoc] at H
      try clear w11
      have C := H.cells
      try simp only [cellsOf, cellsM, apartOf, apartM, and_true] at C
      dsimp only
      clear HSZ M1
      go_wp2_with fail
      refine (HAT.out _).mono ?_
      rintro _ w13 ⟨rfl, hb⟩
      replace H := H.below hb
      clear hb
      try clear C
      try simp only [World.size_alloc, List.nil_append, List.cons_append, List.append_assoc] at H
      try clear w12
      have C := H.cells
      try simp only [cellsOf, cellsM, apartOf, apartM, and_true] at C
      dsimp only
      clear HAT
      go_upto_region 12 with fail
      generalize hwb : w13.alloc _ = w14
      replace H := HS.eqW hwb H.alloc
      try simp only [World.size_alloc, List.nil_append, List.cons_append, List.append_assoc] at H
      clear hwb
      generalize w13.heap.size = b13 at H ⊢
      try clear C
      try clear w13
      have C := H.cells
      try simp only [cellsOf, cellsM, apartOf, apartM, and_true] at C
      go_wp2_with fail
      refine (HSA.out ⟨a1, n1, c1⟩ ⟨b1, m1, d1⟩ _ (HNm.out.below H.done) (meAt_of (m := (⟨s0, s1, s2, s3, s4, s5, kd, dt, ck, fx, ws, (fs ++ [(⟨k, p0, p1, p2, p3, p4, p5, (cN : Int), ms, vl, true⟩ : Fa)])⟩ : Mm)) HQ1.out (H.says 4 rfl))).mono ?_
      rintro _ w73 ⟨sz, cz, rfl, K0⟩
      replace H := H.join K0 (one_low rfl)
      clear K0
      try simp only [List.nil_append, List.cons_append] at H
      skip
      try clear C
      try simp only [World.size_alloc, List.nil_append, List.cons_append, List.append_assoc] at H
      have C := H.cells
      try simp only [cellsOf, cellsM, apartOf, apartM, and_true] at C
      try dsimp only [meV] at H ⊢
      try dsimp only [meV]
      try dsimp only at H ⊢
      clear HSA
      go_upto_region 13 with fail
      generalize hwb : w73.alloc _ = w15
      replace H := HS.eqW hwb H.alloc
      try simp only [World.size_alloc, List.nil_append, List.cons_append, List.append_assoc] at H
      clear hwb
      generalize w73.heap.size = b15 at H ⊢
      try clear C
      try clear w73
      have C := H.cells
      try simp only [cellsOf, cellsM, apartOf, apartM, and_true] at C
      go_wp2_with fail
      refine (HSB.out ⟨pa, pn, pc⟩ ⟨ra, rn, rc⟩ _ (HNm.out.below H.done) (meAt_of (m := (⟨s0, s1, s2, s3, s4, s5, kd, dt, ck, fx, ws, fs⟩ : Mm)) HQM.out (H.says 1 rfl))).mono ?_
      rintro _ w74 ⟨sy, cy, rfl, K0⟩
      replace H := H.join K0 (one_low rfl)
      clear K0
      try simp only [List.nil_append, List.cons_append] at H
      skip
      try clear C
      try simp only [World.size_alloc, List.nil_append, List.cons_append, List.append_assoc] at H
      have C := H.cells
      try simp only [cellsOf, cellsM, apartOf, apartM, and_true] at C
      try dsimp only [meV] at H ⊢
      try dsimp only [meV]
      try dsimp only at H ⊢
      clear HSB
      go_upto_region 14 with fail
      generalize hwb : w74.alloc _ = w16
      replace H := HS.eqW hwb H.alloc
      try simp only [World.size_alloc, List.nil_append, List.cons_append, List.append_assoc] at H
      clear hwb
      generalize w74.heap.size = b17 at H ⊢
      try clear C
      try clear w74
      have C := H.cells
      try simp only [cellsOf, cellsM, apartOf, apartM, and_true] at C
      go_wp2_with fail
      refine (HFA.out ⟨a1, n1, c1⟩ ⟨b1, m1, d1⟩ _ (HNm.out.below H.done) (meAt_of (m := (⟨s0, s1, s2, s3, s4, s5, kd, dt, ck, fx, ws, (fs ++ [(⟨k, p0, p1, p2, p3, p4, p5, (cN : Int), ms, vl, true⟩ : Fa)])⟩ : Mm)) HQ1.out (H.says 4 rfl))).mono ?_
      rintro _ w75 ⟨su, cu, rfl, K0⟩
      replace H := H.join K0 (one_low rfl)
      clear K0
      try simp only [List.nil_append, List.cons_append] at H
      skip
      try clear C
      try simp only [World.size_alloc, List.nil_append, List.cons_append, List.append_assoc] at H
      have C := H.cells
      try simp only [cellsOf, cellsM, apartOf, apartM, and_true] at C
      try dsimp only [meV] at H ⊢
      try dsimp only [meV]
      try dsimp only at H ⊢
      clear HFA
      go_upto_region 15 with fail
      generalize hwb : w75.alloc _ = w17
      replace H := HS.eqW hwb H.alloc
      try simp only [World.size_alloc, List.nil_append, List.cons_append, List.append_assoc] at H
      clear hwb
      generalize w75.heap.size = b19 at H ⊢
      try clear C
      try clear w75
      have C := H.cells
      try simp only [cellsOf, cellsM, apartOf, apartM, and_true] at C
      go_wp2_with fail
      refine (HFB.out ⟨pa, pn, pc⟩ ⟨ra, rn, rc⟩ _ (HNm.out.below H.done) (meAt_of (m := (⟨s0, s1, s2, s3, s4, s5, kd, dt, ck, fx, ws, fs⟩ : Mm)) HQM.out (H.says 1 rfl))).mono ?_
      rintro _ w76 ⟨sv9, cv, rfl, K0⟩
      replace H := H.join K0 (one_low rfl)
      clear K0
      try simp only [List.nil_append, List.cons_append] at H
      skip
      try clear C
      try simp only [World.size_alloc, List.nil_append, List.cons_append, List.append_assoc] at H
      have C := H.cells
      try simp only [cellsOf, cellsM, apartOf, apartM, and_true] at C
      try dsimp only [meV] at H ⊢
      try dsimp only [meV]
      try dsimp only at H ⊢
      clear HFB
      go_upto_region 16 with fail
      generalize hwb : w76.alloc _ = w18
      replace H := HS.eqW hwb H.alloc
      try simp only [World.size_alloc, List.nil_append, List.cons_append, List.append_assoc] at H
      clear hwb
      generalize w76.heap.size = b21 at H ⊢
      try clear C
      try clear w76
      have C := H.cells
      try simp only [cellsOf, cellsM, apartOf, apartM, and_true] at C
      have hlc : ¬ (cs.length : Int) ≤ (cN : Nat) := by have := HCN8.out; have := HCN.out; omega
      have HSW := Lib.hid (fun wx hx hy => (show Calls Tryd.prog 23 #[.agg #[.int .i64 li, .slice sz ls.length cz, .bool lp], .agg #[.int .i64 li, .slice sy ls.length cy, .bool lp]] wx (Gives (.bool true) wx) from by
        have h9 := sameWord13_any ⟨li, ls, lp⟩ ⟨li, ls, lp⟩ ⟨sz, ls.length, cz⟩ ⟨sy, ls.length, cy⟩ (by have := HN40.out; have := HLN.out; show ls.length ≤ _; omega) (by have := HN40.out; have := HLN.out; show ls.length ≤ _; omega) wx hx hy
        rw [decide_eq_true rfl] at h9
        exact h9))
      go_wp2_with fail
      refine (awake13_any _ (HNm.out.below H.done)).mono ?_
      rintro _ w19 ⟨rfl, hb⟩
      replace H := H.below hb
      clear hb
      try clear C
      try simp only [World.size_alloc, List.nil_append, List.cons_append, List.append_assoc] at H
      try clear w18
      have C := H.cells
      try simp only [cellsOf, cellsM, apartOf, apartM, and_true] at C
      dsimp only
      go_wp2_with fail
      refine (HSM.out ⟨a2, n2, c2⟩ ⟨b2, m2, d2⟩ ⟨pa, pn, pc⟩ ⟨ra, rn, rc⟩ _ (meAt_of (m := (⟨s0, s1, s2, s3, s4, s5, kd, dt, ck, fx, ws, fs⟩ : Mm)) HQ2.out (H.says 6 rfl)) (meAt_of (m := (⟨s0, s1, s2, s3, s4, s5, kd, dt, ck, fx, ws, fs⟩ : Mm)) HQM.out (H.says 1 rfl))).mono ?_
      rintro _ w20 ⟨rfl, hb⟩
      replace H := H.below hb
      clear hb
      try clear C
      try simp only [World.size_alloc, List.nil_append, List.cons_append, List.append_assoc] at H
      try clear w19
      have C := H.cells
      try simp only [cellsOf, cellsM, apartOf, apartM, and_true] at C
      dsimp only
      clear HSM
      go_wp2_with fail
      refine (HSW.out _ (bytes_row rfl (H.at 9 rfl)) (bytes_row rfl (H.at 11 rfl))).mono ?_
      rintro _ w21 ⟨rfl, hb⟩
      replace H := H.below hb
      clear hb
      try clear C
      try simp only [World.size_alloc, List.nil_append, List.cons_append, List.append_assoc] at H
      try clear w20
      have C := H.cells
      try simp only [cellsOf, cellsM, apartOf, apartM, and_true] at C
      dsimp only
      clear HSW
      go_wp2_with fail
      refine (HCO.out _).mono ?_
      rintro _ w22 ⟨rfl, hb⟩
      replace H := H.below hb
      clear hb
      try clear C
      try simp only [World.size_alloc, List.nil_append, List.cons_append, List.append_assoc] at H
      try clear w21
      have C := H.cells
      try simp only [cellsOf, cellsM, apartOf, apartM, and_true] at C
      dsimp only
      clear HCO
      go_wp2_with fail
      refine (HCV.out _ (HNm.out.below H.done)).mono ?_
      rintro _ w23 ⟨rfl, hb⟩
      replace H := H.below hb
      clear hb
      try clear C
      try simp only [World.size_alloc, List.nil_append, List.cons_append, List.append_assoc] at H
      try clear w22
      have C := H.cells
      try simp only [cellsOf, cellsM, apartOf, apartM, and_true] at C
      dsimp only
      clear HCV
      skip
      cases c9 with
      | false =>
        obtain ⟨rfl, rfl, rfl⟩ : vi = wi ∧ cs = bs ∧ vp = po := by have h9 := HLK.out; rw [if_neg (by decide)] at h9; injection h9 with h1 h2 h3; exact ⟨h1, h2, h3⟩
        have HSW := Lib.hid (fun wx hx hy => (show Calls Tryd.prog 23 #[.agg #[.int .i64 vi, .slice su cs.length cu, .bool vp], .agg #[.int .i64 vi, .slice sv9 cs.length cv, .bool vp]] wx (Gives (.bool true) wx) from by
          have h9 := sameWord13_any ⟨vi, cs, vp⟩ ⟨vi, cs, vp⟩ ⟨su, cs.length, cu⟩ ⟨sv9, cs.length, cv⟩ (by have := HN40.out; have := HCN8.out; show cs.length ≤ _; omega) (by have := HN40.out; have := HCN8.out; show cs.length ≤ _; omega) wx hx hy
          rw [decide_eq_true rfl] at h9
          exact h9))
        go_wp2_with fail
        refine (HSW.out _ (bytes_row rfl (H.at 13 rfl)) (bytes_row rfl (H.at 15 rfl))).mono ?_
        rintro _ w24 ⟨rfl, hb⟩
        replace H := H.below hb
        clear hb
        try clear C
        try simp only [World.size_alloc, List.nil_append, List.cons_append, List.append_assoc] at H
        try clear w23
        have C := H.cells
        try simp only [cellsOf, cellsM, apartOf, apartM, and_true] at C
        dsimp only
        go_wp2_with fail
        go_ret
        exact ⟨by first | rfl | go_simp, H.done⟩
      | true =>
        skip
        have hlk : (⟨vi, cs, vp⟩ : Wm) = ⟨wi, bs.set cN (stkB bs[cN]! ms vl), po⟩ := by have h9 := HLK.out; rw [if_pos rfl] at h9; exact h9
        injection hlk with hv1 hv2 hv3
        subst hv1 hv3
        obtain ⟨g8, c8, hv, -, -⟩ := World.ownsRow.form (H.at 15 rfl) (by have := HBN.out; have := HCN.out; omega)
        obtain ⟨rfl, -, rfl⟩ := Value.slice.inj hv
        clear hv
        have hbc : cN < bs.length := by have := HBN.out; have := HCN.out; omega
        have HVB := Lib.hid (show (bs.flatMap bC1)[cN]? = some (.int .u8 bs[cN]!) from by have := flat_get bC1_len bs cN 0 _ hbc rfl; simpa using this)
        have HBS := Lib.hid (by_set bs cN (stkB bs[cN]! ms vl))
        generalize bs[cN]! = vb at HVB HBS hv2
        have hcbi : (cN : Int) < bs.length := by omega
        go_upto_region 19 with fail
        refine wp_region_zH (by kernel_rfl) (by kernel_rfl) (by kernel_rfl) (by kernel_rfl) (by kernel_rfl) (by dsimp only [List.dropLast]) rfl (fun w => (∀ o, w.cell? ⟨b21, o, none⟩ = [Value.int .i64 vi, .slice (some ⟨g8, 0, none⟩) bs.length cv, .bool vp][o]?) ∧ (∀ o, w.cell? ⟨b7, o, none⟩ = [Value.int .i64 k, .int .i64 p0, .int .i64 p1, .int .i64 p2, .int .i64 p3, .int .i64 p4, .int .i64 p5, .int .i64 (cN : Nat), .int .u8 ms, .int .u8 vl, .bool true][o]?) ∧ w.cell? ⟨g8, cN, none⟩ = some (.int .u8 vb)) (H) (fun w0 H _ => ⟨fun o => (Blk.cell (H.at 16 rfl) o).trans (by simp), fun o => (Blk.cell (H.at 3 rfl) o).trans (by simp), (World.ownsRow.cellAt (H.at 15 rfl) cN (by omega)).trans HVB.out⟩) ?_
        clear H; intro w25 h0 H hz0
        try clear C
        try simp only [World.size_alloc, List.nil_append, List.cons_append, List.append_assoc] at H hz0
        clear hz0
        try clear w23
        have C := H.cells
        try simp only [cellsOf, cellsM, apartOf, apartM, and_true] at C
        repeat (first | (refine wpX_skip rfl ?_; go_simp) | (refine wpX_free rfl rfl rfl (fun K hK => ?_); go_step; refine hK _ _ ?_; clear hK K))
        (refine wpX_yield rfl rfl (.slice (some ⟨g8, 0, none⟩) bs.length cv) (fun w hw => by obtain ⟨k0, k1, k2⟩ := hw; go_simp) ?_; go_simp)
        repeat (first | (refine wpX_skip rfl ?_; go_simp) | (refine wpX_free rfl rfl rfl (fun K hK => ?_); go_step; refine hK _ _ ?_; clear hK K))
        (refine wpX_yield rfl rfl (.int .i64 (cN : Nat)) (fun w hw => by obtain ⟨k0, k1, k2⟩ := hw; go_simp) ?_; go_simp)
        repeat (first | (refine wpX_skip rfl ?_; go_simp) | (refine wpX_free rfl rfl rfl (fun K hK => ?_); go_step; refine hK _ _ ?_; clear hK K))
        (refine wpX_yield rfl rfl (.slice (some ⟨g8, 0, none⟩) bs.length cv) (fun w hw => by obtain ⟨k0, k1, k2⟩ := hw; go_simp) ?_; go_simp)
        repeat (first | (refine wpX_skip rfl ?_; go_simp) | (refine wpX_free rfl rfl rfl (fun K hK => ?_); go_step; refine hK _ _ ?_; clear hK K))
        (refine wpX_yield rfl rfl (.int .i64 (cN : Nat)) (fun w hw => by obtain ⟨k0, k1, k2⟩ := hw; go_simp) ?_; go_simp)
        repeat (first | (refine wpX_skip rfl ?_; go_simp) | (refine wpX_free rfl rfl rfl (fun K hK => ?_); go_step; refine hK _ _ ?_; clear hK K))
        (refine wpX_yield rfl rfl (.int .u8 vb) (fun w hw => by obtain ⟨k0, k1, k2⟩ := hw; go_simp) ?_; go_simp)
        repeat (first | (refine wpX_skip rfl ?_; go_simp) | (refine wpX_free rfl rfl rfl (fun K hK => ?_); go_step; refine hK _ _ ?_; clear hK K))
        (refine wpX_yield rfl rfl (.int .u8 ms) (fun w hw => by obtain ⟨k0, k1, k2⟩ := hw; go_simp) ?_; go_simp)
        repeat (first | (refine wpX_skip rfl ?_; go_simp) | (refine wpX_free rfl rfl rfl (fun K hK => ?_); go_step; refine hK _ _ ?_; clear hK K))
        (refine wpX_yield rfl rfl (.int .u8 vl) (fun w hw => by obtain ⟨k0, k1, k2⟩ := hw; go_simp) ?_; go_simp)
        repeat (first | (refine wpX_skip rfl ?_; go_simp) | (refine wpX_free rfl rfl rfl (fun K hK => ?_); go_step; refine hK _ _ ?_; clear hK K))
        (refine wpX_nil ?_; go_step)
        have hkf := (H.rowCells 15 rfl cN (by omega)).2
        have hkc := (H.rowCells 15 rfl cN (by omega)).1.trans HVB.out
        go_upto_region 20 with fail
        generalize hwb : World.setCell w25 _ _ = w84
        have H0 := HS.eqW hwb (H.rowSet 15 rfl cN (.int .u8 (stkB vb ms vl)))
        clear H C hwb hkf hkc
        simp only [List.set_cons_succ, List.set_cons_zero] at H0
        rw [HBS.out, ← hv2] at H0
        have H := H0
        clear H0
        skip
        try clear C
        try simp only [World.size_alloc, List.nil_append, List.cons_append, List.append_assoc] at H
        have C := H.cells
        try simp only [cellsOf, cellsM, apartOf, apartM, and_true] at C
        have HBL := Lib.hid (show bs.length = cs.length by rw [hv2, List.length_set])
        clear hv2 hbc
        have HSW := Lib.hid (fun wx hx hy => (show Calls Tryd.prog 23 #[.agg #[.int .i64 vi, .slice su cs.length cu, .bool vp], .agg #[.int .i64 vi, .slice (some ⟨g8, 0, none⟩) bs.length cv, .bool vp]] wx (Gives (.bool true) wx) from by
          have h9 := sameWord13_any ⟨vi, cs, vp⟩ ⟨vi, cs, vp⟩ ⟨su, cs.length, cu⟩ ⟨some ⟨g8, 0, none⟩, bs.length, cv⟩ (by have := HN40.out; have := HCN8.out; show cs.length ≤ _; omega) (by have := HN40.out; have := HCN8.out; show cs.length ≤ _; omega) wx hx hy
          rw [decide_eq_true rfl] at h9
          exact h9))
        go_wp2_with fail
        refine (HSW.out _ (bytes_row rfl (H.at 13 rfl)) (bytes_row HBL.out (H.at 15 rfl))).mono ?_
        rintro _ w26 ⟨rfl, hb⟩
        replace H := H.below hb
        clear hb
        try clear C
        try simp only [World.size_alloc, List.nil_append, List.cons_append, List.append_assoc] at H
        try clear w84
        have C := H.cells
        try simp only [cellsOf, cellsM, apartOf, apartM, and_true] at C
        dsimp only
        go_wp2_with fail
        go_ret
        exact ⟨by first | rfl | go_simp, H.done⟩
  · rw [decide_eq_false h400] at hli
    have HLI := Lib.hid hli
    clear hli
    go_enter Tryd.func4, Tryd.ntmps4
    have H := HS.start NoD w
    go_wp2_with fail
    refine (gives_of (HLI.out _)).mono ?_
    rintro _ w1 ⟨rfl, hb⟩
    replace H := H.below hb
    clear hb
    try clear C
    try simp only [World.size_alloc, List.nil_append, List.cons_append, List.append_assoc] at H
    have C := H.cells
    try simp only [cellsOf, cellsM, apartOf, apartM, and_true] at C
    dsimp only
    go_wp2_with fail
    refine (awake13_any _ (HNm.out.below H.done)).mono ?_
    rintro _ w2 ⟨rfl, hb⟩
    replace H := H.below hb
    clear hb
    try clear C
    try simp only [World.size_alloc, List.nil_append, List.cons_append, List.append_assoc] at H
    try clear w1
    have C := H.cells
    try simp only [cellsOf, cellsM, apartOf, apartM, and_true] at C
    dsimp only
    go_wp2_with fail
    go_ret
    exact ⟨rfl, H.done⟩
end Go.Proofs.YtplflpmkomeadaaDoor
