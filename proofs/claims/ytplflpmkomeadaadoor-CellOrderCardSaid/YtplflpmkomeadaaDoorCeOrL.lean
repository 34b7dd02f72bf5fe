/- CellOrder's walk. -/
import Derived.Test.YtplflpmkomeadaaDoorCeY
import Derived.Test.YtplflpmkomeadaaDoorCeZ
import Derived.Test.YtplflpmkomeadaaDoorCeSt
import Derived.Test.YtplflpmkomeadaaDoorK1
namespace Go.Proofs.YtplflpmkomeadaaDoor
set_option linter.unusedSimpArgs false
set_option linter.unusedVariables false
open Go.RowKit
set_option maxRecDepth 100000
attribute [local irreducible] wpX wpF Calls

set_option maxHeartbeats 16000000 in
theorem order_walk (sa : Option Addr) (len cap : Nat) (hl : len ≤ maxLen) (w : World) (hN : Nm w) (hI : Ints w sa len) : Calls Tryd.prog 5 #[.slice sa len cap] w (Gives (.bool true) w) := by
  have HI := Lib.hid hI
  have HNm := Lib.hid hN
  clear hI hN
  have hli := light_any sa len cap hl
  clear hl
  by_cases h400 : len ≤ 400
  · rw [decide_eq_true h400] at hli
    have HLI := Lib.hid hli
    clear hli
    go_enter Tryd.func5, Tryd.ntmps5
    have H := HS.start NoD w
    go_wp2_with fail
    refine (gives_of (HLI.out _)).mono ?_
    rintro _ w1 ⟨rfl, hb⟩
    replace H := H.below hb
    clear hb
    try clear C
    try simp only [World.size_alloc, List.nil_append, List.cons_append, List.append_assoc] at H
    have C := H.cells
    try simp only [cellsOf, cellsM, apartOf, apartM, and_true] at C
    dsimp only
    go_wp2_with fail
    refine (roll_at w.heap.size _ _ _ h400 _ H.size (H.ints HI.out)).mono ?_
    rintro _ w2 ⟨bd, rfl, hd, hb, hbb⟩
    replace H := H.getsDice hb hd hbb (Nat.le_refl _)
    clear hb hd hbb
    try clear C
    try simp only [World.size_alloc, List.nil_append, List.cons_append, List.append_assoc] at H
    try clear w1
    have C := H.cells
    try simp only [cellsOf, cellsM, apartOf, apartM, and_true] at C
    dsimp only
    go_wp2_with fail
    refine (random13_any w.heap.size bd _ (H.at 0 rfl) H.size).mono ?_
    rintro _ w61 ⟨M, ⟨pa, pn, pc⟩, ⟨ra, rn, rc⟩, qs, F, hg, hbw, hz, hfl, hqm, rfl, K0⟩
    replace H := H.joinDice 0 rfl K0 (one_low rfl)
    clear K0
    try simp only [List.nil_append, List.cons_append] at H
    obtain ⟨s0, s1, s2, s3, s4, s5, kd, dt, ck, fx, ws, fs⟩ := M
    have HG := Lib.hid hg
    have HBW := Lib.hid hbw
    have HZ := Lib.hid hz
    have HQM := Lib.hid hqm
    have HFL := Lib.hid (show fs.length ≤ 10 from hfl)
    have hrg := codeB_rng hg.co
    have hrg1 : 1 ≤ dt + ck ∧ dt + ck ≤ 40 ∧ 0 ≤ dt ∧ 0 ≤ ck := by dsimp only at hrg; omega
    have HRG := Lib.hid hrg1
    obtain ⟨N, hN⟩ : ∃ N : Nat, (N : Int) = dt + ck := ⟨(dt + ck).toNat, by have := HRG.out; omega⟩
    have hN2 : (dt + ck).toNat = N := by omega
    have HN2 := Lib.hid hN2
    have HN40 := Lib.hid (show N ≤ 40 by omega)
    have HN1 := Lib.hid (show 1 ≤ N by omega)
    have HCH := Lib.hid (fun w => (show Calls Tryd.prog 14 #[.agg #[.int .i64 kd, .int .i64 dt, .int .i64 ck, .int .i64 fx]] w (Gives (.int .i64 (N : Int)) w) from by rw [hN]; exact r13chips_any kd dt ck fx (by omega) (by omega) w))
    have HSV := Lib.hid (show SV s0 s1 s2 s3 s4 s5 from hg.sv)
    have hGW : GoodWs (szM (⟨s0, s1, s2, s3, s4, s5, kd, dt, ck, fx, ws, fs⟩ : Mm)) N ws := by have := HG.out.ws; dsimp only at this; rwa [hN2] at this
    have HGW := Lib.hid hGW
    have HSM1 := Lib.hid (HG.out.small (Nat.le_trans HZ.out (by decide)))
    obtain ⟨sz9, hZ⟩ : ∃ z : Nat, z = sizeN s0 s1 s2 s3 s4 s5 := ⟨_, rfl⟩
    have hz64 : sz9 ≤ 64 := by rw [hZ]; exact HZ.out
    have hz1 : 1 ≤ sz9 := by
      have h1 := sizeN_yes HSV.out
      have h2 : (0 : Int) < 2 ^ (s0 + s1 + s2 + s3 + s4 + s5).toNat := Int.pow_pos (by decide)
      omega
    have HZZ := Lib.hid (show szM (⟨s0, s1, s2, s3, s4, s5, kd, dt, ck, fx, ws, fs⟩ : Mm) = sz9 from hZ.symm)
    have HZ64 := Lib.hid hz64
    have HZ1 := Lib.hid hz1
    have HSZ := Lib.hid (fun w => show Calls Tryd.prog 17 #[.agg #[.int .i64 s0, .int .i64 s1, .int .i64 s2, .int .i64 s3, .int .i64 s4, .int .i64 s5]] w (Gives (.int .i64 sz9) w) from by rw [hZ]; exact rsize_all s0 s1 s2 s3 s4 s5 w)
    have HND := Lib.hid hN
    clear hg hbw hz hfl hqm hrg hrg1 hN hN2 hGW hZ hz64 hz1
    skip
    try clear C
    try simp only [World.size_alloc, List.nil_append, List.cons_append, List.append_assoc] at H
    have C := H.cells
    try simp only [cellsOf, cellsM, apartOf, apartM, and_true] at C
    try dsimp only [meV] at H ⊢
    try dsimp only [meV]
    go_upto_region 5 with fail
    generalize hwb : w61.alloc _ = w3
    replace H := HS.eqW hwb H.alloc
    try simp only [World.size_alloc, List.nil_append, List.cons_append, List.append_assoc] at H
    clear hwb
    generalize w61.heap.size = b4 at H ⊢
    try clear C
    try clear w61
    have C := H.cells
    try simp only [cellsOf, cellsM, apartOf, apartM, and_true] at C
    go_wp2_with fail
    refine (HCH.out _).mono ?_
    rintro _ w4 ⟨rfl, hb⟩
    replace H := H.below hb
    clear hb
    try clear C
    try simp only [World.size_alloc, List.nil_append, List.cons_append, List.append_assoc] at H
    try clear w3
    have C := H.cells
    try simp only [cellsOf, cellsM, apartOf, apartM, and_true] at C
    dsimp only
    go_wp2_with fail
    refine (HSZ.out _).mono ?_
    rintro _ w5 ⟨rfl, hb⟩
    replace H := H.below hb
    clear hb
    try clear C
    try simp only [World.size_alloc, List.nil_append, List.cons_append, List.append_assoc] at H
    try clear w4
    have C := H.cells
    try simp only [cellsOf, cellsM, apartOf, apartM, and_true] at C
    dsimp only
    clear HCH HSZ
    go_wp2_with fail
    refine (next_any (sz9 : Int) (by have := HZ64.out; omega) w.heap.size bd _ (H.at 0 rfl)).mono ?_
    rintro _ w6 ⟨v5, rfl, hv5, hd, hg⟩
    replace H := (H).diceAt 0 rfl hg hd
    clear hg hd
    try clear C
    try simp only [World.size_alloc, List.nil_append, List.cons_append, List.append_assoc] at H
    try clear w5
    have C := H.cells
    try simp only [cellsOf, cellsM, apartOf, apartM, and_true] at C
    dsimp only
    have hv0 : 0 ≤ v5 := hv5.1
    have hvz : v5 < sz9 := hv5.lt (by have := HZ1.out; omega)
    obtain ⟨i, rfl⟩ : ∃ n : Nat, v5 = n := ⟨v5.toNat, by omega⟩
    have HR1 := Lib.hid (show 0 ≤ (i : Int) ∧ (i : Int) < szM (⟨s0, s1, s2, s3, s4, s5, kd, dt, ck, fx, ws, fs⟩ : Mm) from ⟨by omega, by rw [HZZ.out]; exact hvz⟩)
    obtain ⟨k, hkm⟩ : ∃ k : Nat, (k : Int) = ((i : Int) + 1).tmod sz9 := ⟨(((i : Int) + 1).tmod sz9).toNat, by have := Int.tmod_nonneg (sz9 : Int) (show 0 ≤ (i : Int) + 1 by omega); omega⟩
    have HR2 := Lib.hid (show 0 ≤ (k : Int) ∧ (k : Int) < szM (⟨s0, s1, s2, s3, s4, s5, kd, dt, ck, fx, ws, fs⟩ : Mm) from ⟨by omega, by rw [HZZ.out, hkm]; have := HZ1.out; exact Int.tmod_lt_of_pos _ (by omega)⟩)
    have HNE := Lib.hid (show ¬ (sz9 : Int) = 1 → (i : Int) ≠ k from fun h1 e => by
      have h2 : ((i : Int) + 1).tmod sz9 = i := by rw [← hkm, e]
      have h3 := HZ1.out
      by_cases h4 : (i : Int) + 1 = sz9
      · rw [h4, Int.tmod_self] at h2; omega
      · rw [Int.tmod_eq_of_lt (by omega) (by omega)] at h2; omega)
    have HKM := Lib.hid hkm
    have HIZ := Lib.hid (show (i : Int) < 64 by have := HZ64.out; omega)
    clear hv5 hv0 hvz hkm
    go_wp2_with fail
    refine (mbytesB_any N (by have := HN40.out; omega) w.heap.size bd _ (H.at 0 rfl) H.size).mono ?_
    rintro _ w62 ⟨sB, cB, bs, rfl, hbl, hbr, K0⟩
    replace H := H.joinDice 0 rfl K0 (one_low rfl)
    clear K0
    try simp only [List.nil_append, List.cons_append] at H
    skip
    try clear C
    try simp only [World.size_alloc, List.nil_append, List.cons_append, List.append_assoc] at H
    have C := H.cells
    try simp only [cellsOf, cellsM, apartOf, apartM, and_true] at C
    dsimp only
    have HBL := Lib.hid hbl
    have HBR := Lib.hid hbr
    clear hbl hbr
    go_wp2_with fail
    refine (one_any 3 (by omega) (by omega) w.heap.size bd _ (H.at 0 rfl)).mono ?_
    rintro _ w7 ⟨po, rfl, hd, hg⟩
    replace H := (H).diceAt 0 rfl hg hd
    clear hg hd
    try clear C
    try simp only [World.size_alloc, List.nil_append, List.cons_append, List.append_assoc] at H
    try clear w62
    have C := H.cells
    try simp only [cellsOf, cellsM, apartOf, apartM, and_true] at C
    dsimp only
    go_upto_region 8 with fail
    generalize hwb : w7.alloc _ = w8
    replace H := HS.eqW hwb H.alloc
    try simp only [World.size_alloc, List.nil_append, List.cons_append, List.append_assoc] at H
    clear hwb
    generalize w7.heap.size = b7 at H ⊢
    try clear C
    try clear w7
    have C := H.cells
    try simp only [cellsOf, cellsM, apartOf, apartM, and_true] at C
    have hiw : IntKind.i64.wrap ((i : Int) + 1) = (i : Int) + 1 := by rw [IntWalk.i64_in _ (by have := HIZ.out; omega)]
    have hrem : ((i : Int) + 1).tmod sz9 = (k : Int) := HKM.out.symm
    have hkw : IntKind.i64.wrap (k : Int) = (k : Int) := by have := HR2.out; have := HZZ.out; have := HZ64.out; rw [IntWalk.i64_in _ (by omega)]
    have hsz0 : ¬ (sz9 : Int) = 0 := by have := HZ1.out; omega
    have hszb : ((sz9 : Int) == 0) = false := beq_eq_false_iff_ne.2 hsz0
    have hszn : ¬ sz9 = 0 := by have := HZ1.out; omega
    refine wp_region_h (by kernel_rfl) [0, 1, 2, 3, 4, 5, 6, 7, 8, 9, 10] (by kernel_rfl) (by kernel_rfl) (by kernel_rfl) (fun k => k = bd) (H) ?_
    clear H; intro w9 H hz0
    try clear C
    try simp only [World.size_alloc, List.nil_append, List.cons_append, List.append_assoc] at H hz0 ⊢
    clear hz0
    try clear w8
    have C := H.cells
    try simp only [cellsOf, cellsM, apartOf, apartM, and_true] at C
    have Z := H.zs
    try simp only [ltsOf, ltsM, and_true] at Z
    simp only [List.filterMap_cons, List.filterMap_nil, List.getElem?_toArray, List.getElem?_cons_zero, List.getElem?_cons_succ]
    (refine wpH_free rfl rfl rfl (fun _ _ => ?_); go_step; go_step)
    (refine wpH_load rfl rfl rfl (by simp [Stay, OneD, NoD, *]) (by simp [*]) (fun _ _ => ?_); go_step; go_step)
    (refine wpH_yield rfl rfl (.int .i64 ((i : Int) + 1) ) (fun w _ => by  go_simp) ?_; go_simp)
    (refine wpH_free rfl rfl rfl (fun _ _ => ?_); go_step; go_step)
    (refine wpH_yield rfl rfl (.int .i64 (k : Nat) ) (fun w _ => by  go_simp) ?_; go_simp)
    (refine wpH_free rfl rfl rfl (fun _ _ => ?_); go_step; go_step)
    (refine wpH_free rfl rfl rfl (fun _ _ => ?_); go_step; go_step)
    (refine wpH_call rfl rfl (fun wc hc _ _ => ?_); go_step; refine (mbytesB_any N (by have := HN40.out; omega) w.heap.size bd _ (hc.hs.at 0 rfl) hc.hs.size).mono ?_; rintro _ wd ⟨sC, cC, cs, rfl, hcl, hcr, K⟩; dsimp only; go_step; refine ⟨_, (hc.joinDiceH (fun _ h => h.1) 0 rfl (fun h => h.2 (by first | exact rfl | exact .inl rfl)) (K) (one_low rfl)).1, (hc.joinDiceH (fun _ h => h.1) 0 rfl (fun h => h.2 (by first | exact rfl | exact .inl rfl)) (K) (one_low rfl)).2, ?_⟩; clear hc; try clear wc wd)
    (refine wpH_free rfl rfl rfl (fun _ _ => ?_); go_step; go_step)
    (refine wpH_float rfl rfl #[.int .i64 0, .slice none 0 0, .bool false]   50 (fun w => by kernel_rfl) (fun b8 hb8 nb8 _ _ => ?_); go_simp; go_step)
    (refine wpH_store (cs := #[.int .i64 (k : Nat), .slice sC N cC, .bool false]) rfl rfl rfl rfl (Fl.at _ _ _) rfl (by kernel_rfl) rfl rfl (fun _ _ => ?_); go_simp; go_step)
    refine wpH_nil ?_
    intro w10 hC
    have hL := hC.laid b8 _ (Fl.at _ _ _)
    replace H := hC.hs.lay hL.2.1 (Nat.le_trans H.size hL.1) hL.2.2
    clear hC hL
    try clear C
    try clear Z
    try simp only [List.nil_append, List.cons_append, List.append_assoc, List.set_cons_succ, List.set_cons_zero] at H
    try clear w9
    have C := H.cells
    try simp only [cellsOf, cellsM, apartOf, apartM, and_true] at C
    have HCL := Lib.hid hcl
    clear hcl hcr hiw hrem hkw hsz0 hszb hszn HKM HIZ
    obtain ⟨xs, hxs⟩ : ∃ vs, vs = putW ws (⟨(i : Nat), bs, po⟩ : Wm) := ⟨_, rfl⟩
    obtain ⟨xt, hxt⟩ : ∃ vs, vs = putW xs (⟨(k : Nat), cs, false⟩ : Wm) := ⟨_, rfl⟩
    obtain ⟨ys, hys⟩ : ∃ vs, vs = putW ws (⟨(k : Nat), cs, false⟩ : Wm) := ⟨_, rfl⟩
    obtain ⟨yt, hyt⟩ : ∃ vs, vs = putW ys (⟨(i : Nat), bs, po⟩ : Wm) := ⟨_, rfl⟩
    have g1 : GoodWs (szM (⟨s0, s1, s2, s3, s4, s5, kd, dt, ck, fx, ws, fs⟩ : Mm)) N xs := by rw [hxs]; exact HGW.out.put HR1.out HBL.out
    have g2 : GoodWs (szM (⟨s0, s1, s2, s3, s4, s5, kd, dt, ck, fx, ws, fs⟩ : Mm)) N xt := by rw [hxt]; exact g1.put HR2.out HCL.out
    have g3 : GoodWs (szM (⟨s0, s1, s2, s3, s4, s5, kd, dt, ck, fx, ws, fs⟩ : Mm)) N ys := by rw [hys]; exact HGW.out.put HR2.out HCL.out
    have g4 : GoodWs (szM (⟨s0, s1, s2, s3, s4, s5, kd, dt, ck, fx, ws, fs⟩ : Mm)) N yt := by rw [hyt]; exact g3.put HR1.out HBL.out
    have good : ∀ vs : List Wm, GoodWs (szM (⟨s0, s1, s2, s3, s4, s5, kd, dt, ck, fx, ws, fs⟩ : Mm)) N vs → GoodM (⟨s0, s1, s2, s3, s4, s5, kd, dt, ck, fx, vs, fs⟩ : Mm) := fun vs h => HG.out.setWs (vs := vs) (by show GoodWs (szM (⟨s0, s1, s2, s3, s4, s5, kd, dt, ck, fx, ws, fs⟩ : Mm)) (dt + ck).toNat vs; rw [HN2.out]; exact h)
    have small : ∀ vs : List Wm, GoodWs (szM (⟨s0, s1, s2, s3, s4, s5, kd, dt, ck, fx, ws, fs⟩ : Mm)) N vs → SmallM (⟨s0, s1, s2, s3, s4, s5, kd, dt, ck, fx, vs, fs⟩ : Mm) := fun vs h => (good vs h).small (Nat.le_trans (show szM (⟨s0, s1, s2, s3, s4, s5, kd, dt, ck, fx, vs, fs⟩ : Mm) ≤ 64 from HZ.out) (by decide))
    have hsto : ∀ (vs : List Wm) (m : Wm), GoodWs (szM (⟨s0, s1, s2, s3, s4, s5, kd, dt, ck, fx, ws, fs⟩ : Mm)) N vs → (0 ≤ m.ix ∧ m.ix < szM (⟨s0, s1, s2, s3, s4, s5, kd, dt, ck, fx, ws, fs⟩ : Mm)) → m.bs.length = N → storeF (⟨s0, s1, s2, s3, s4, s5, kd, dt, ck, fx, vs, fs⟩ : Mm) m = ((⟨s0, s1, s2, s3, s4, s5, kd, dt, ck, fx, (putW vs m), fs⟩ : Mm), 0) := fun vs m h h1 h2 => by
      unfold storeF
      rw [goodB_iff.2 (good vs h), if_pos rfl, if_pos (show 0 ≤ m.ix ∧ m.ix < szM (⟨s0, s1, s2, s3, s4, s5, kd, dt, ck, fx, vs, fs⟩ : Mm) from h1), if_pos (show m.bs.length = (dt + ck).toNat by rw [HN2.out]; exact h2)]
      rfl
    have HGD := Lib.hid good
    have HSL := Lib.hid small
    have t1 : storeF (⟨s0, s1, s2, s3, s4, s5, kd, dt, ck, fx, ws, fs⟩ : Mm) (⟨(i : Nat), bs, po⟩ : Wm) = ((⟨s0, s1, s2, s3, s4, s5, kd, dt, ck, fx, xs, fs⟩ : Mm), 0) := by rw [hsto ws _ HGW.out HR1.out HBL.out, ← hxs]
    have t2 : storeF (⟨s0, s1, s2, s3, s4, s5, kd, dt, ck, fx, xs, fs⟩ : Mm) (⟨(k : Nat), cs, false⟩ : Wm) = ((⟨s0, s1, s2, s3, s4, s5, kd, dt, ck, fx, xt, fs⟩ : Mm), 0) := by rw [hsto xs _ g1 HR2.out HCL.out, ← hxt]
    have t3 : storeF (⟨s0, s1, s2, s3, s4, s5, kd, dt, ck, fx, ws, fs⟩ : Mm) (⟨(k : Nat), cs, false⟩ : Wm) = ((⟨s0, s1, s2, s3, s4, s5, kd, dt, ck, fx, ys, fs⟩ : Mm), 0) := by rw [hsto ws _ HGW.out HR2.out HCL.out, ← hys]
    have t4 : storeF (⟨s0, s1, s2, s3, s4, s5, kd, dt, ck, fx, ys, fs⟩ : Mm) (⟨(i : Nat), bs, po⟩ : Wm) = ((⟨s0, s1, s2, s3, s4, s5, kd, dt, ck, fx, yt, fs⟩ : Mm), 0) := by rw [hsto ys _ g3 HR1.out HBL.out, ← hyt]
    have HS1 := Lib.hid (fun (x y z : Sv) wx hn hx hb => (show Calls Tryd.prog 30 #[meV (⟨s0, s1, s2, s3, s4, s5, kd, dt, ck, fx, ws, fs⟩ : Mm) x y, cwV (⟨(i : Nat), bs, po⟩ : Wm) z] wx (GivesMeE (⟨s0, s1, s2, s3, s4, s5, kd, dt, ck, fx, xs, fs⟩ : Mm) 0 wx) from by
      have h9 := cstore_any (⟨s0, s1, s2, s3, s4, s5, kd, dt, ck, fx, ws, fs⟩ : Mm) x y HSM1.out (⟨(i : Nat), bs, po⟩ : Wm) z (by show bs.length ≤ 140737488355328; have := HBL.out; have := HCL.out; have := HN40.out; omega) wx hn hx hb
      rw [t1] at h9
      exact h9))
    have HS2 := Lib.hid (fun (x y z : Sv) wx hn hx hb => (show Calls Tryd.prog 30 #[meV (⟨s0, s1, s2, s3, s4, s5, kd, dt, ck, fx, xs, fs⟩ : Mm) x y, cwV (⟨(k : Nat), cs, false⟩ : Wm) z] wx (GivesMeE (⟨s0, s1, s2, s3, s4, s5, kd, dt, ck, fx, xt, fs⟩ : Mm) 0 wx) from by
      have h9 := cstore_any (⟨s0, s1, s2, s3, s4, s5, kd, dt, ck, fx, xs, fs⟩ : Mm) x y (small xs g1) (⟨(k : Nat), cs, false⟩ : Wm) z (by show cs.length ≤ 140737488355328; have := HBL.out; have := HCL.out; have := HN40.out; omega) wx hn hx hb
      rw [t2] at h9
      exact h9))
    have HS3 := Lib.hid (fun (x y z : Sv) wx hn hx hb => (show Calls Tryd.prog 30 #[meV (⟨s0, s1, s2, s3, s4, s5, kd, dt, ck, fx, ws, fs⟩ : Mm) x y, cwV (⟨(k : Nat), cs, false⟩ : Wm) z] wx (GivesMeE (⟨s0, s1, s2, s3, s4, s5, kd, dt, ck, fx, ys, fs⟩ : Mm) 0 wx) from by
      have h9 := cstore_any (⟨s0, s1, s2, s3, s4, s5, kd, dt, ck, fx, ws, fs⟩ : Mm) x y HSM1.out (⟨(k : Nat), cs, false⟩ : Wm) z (by show cs.length ≤ 140737488355328; have := HBL.out; have := HCL.out; have := HN40.out; omega) wx hn hx hb
      rw [t3] at h9
      exact h9))
    have HS4 := Lib.hid (fun (x y z : Sv) wx hn hx hb => (show Calls Tryd.prog 30 #[meV (⟨s0, s1, s2, s3, s4, s5, kd, dt, ck, fx, ys, fs⟩ : Mm) x y, cwV (⟨(i : Nat), bs, po⟩ : Wm) z] wx (GivesMeE (⟨s0, s1, s2, s3, s4, s5, kd, dt, ck, fx, yt, fs⟩ : Mm) 0 wx) from by
      have h9 := cstore_any (⟨s0, s1, s2, s3, s4, s5, kd, dt, ck, fx, ys, fs⟩ : Mm) x y (small ys g3) (⟨(i : Nat), bs, po⟩ : Wm) z (by show bs.length ≤ 140737488355328; have := HBL.out; have := HCL.out; have := HN40.out; omega) wx hn hx hb
      rw [t4] at h9
      exact h9))
    have HEQ := Lib.hid (show ¬ (sz9 : Int) = 1 → xt = yt from fun h => by rw [hxt, hyt, hxs, hys]; exact put_comm HGW.out (a := (⟨(i : Nat), bs, po⟩ : Wm)) (b := (⟨(k : Nat), cs, false⟩ : Wm)) HR1.out HBL.out HR2.out HCL.out (HNE.out h))
    have HSXY := Lib.hid (fun (h : ¬ (sz9 : Int) = 1) (x y u v : Sv) wx hx hy => (show Calls Tryd.prog 20 #[meV (⟨s0, s1, s2, s3, s4, s5, kd, dt, ck, fx, xt, fs⟩ : Mm) x y, meV (⟨s0, s1, s2, s3, s4, s5, kd, dt, ck, fx, yt, fs⟩ : Mm) u v] wx (Gives (.bool true) wx) from by
      have h9 := same13_any (⟨s0, s1, s2, s3, s4, s5, kd, dt, ck, fx, xt, fs⟩ : Mm) (⟨s0, s1, s2, s3, s4, s5, kd, dt, ck, fx, yt, fs⟩ : Mm) x y u v (small xt g2).long (small yt g4).long wx hx hy
      rw [decide_eq_true (by rw [HEQ.out h])] at h9
      exact h9))
    clear hxs hxt hys hyt g1 g2 g3 g4 good small hsto t1 t2 t3 t4 HNE HEQ
    try clear C
    try simp only [World.size_alloc, List.nil_append, List.cons_append, List.append_assoc] at H
    have C := H.cells
    try simp only [cellsOf, cellsM, apartOf, apartM, and_true] at C
    go_wp2_with fail
    refine (HS1.out ⟨pa, pn, pc⟩ ⟨ra, rn, rc⟩ ⟨sB, N, cB⟩ _ (HNm.out.below H.done) (meAt_of (m := (⟨s0, s1, s2, s3, s4, s5, kd, dt, ck, fx, ws, fs⟩ : Mm)) HQM.out (H.says 1 rfl)) (bytes_row HBL.out.symm (H.at 3 rfl))).mono ?_
    rintro _ w71 ⟨⟨a1, n1, c1⟩, ⟨b1, m1, d1⟩, q1, F1, hq1, rfl, K0⟩
    replace H := H.join K0 (one_low rfl)
    clear K0
    try simp only [List.nil_append, List.cons_append] at H
    skip
    try clear C
    try simp only [World.size_alloc, List.nil_append, List.cons_append, List.append_assoc] at H
    have C := H.cells
    try simp only [cellsOf, cellsM, apartOf, apartM, and_true] at C
    try dsimp only [meV] at H ⊢
    try dsimp only [meV]
    try dsimp only at H ⊢
    have HQ1 := Lib.hid hq1
    clear hq1 HS1
    go_upto_region 10 with fail
    generalize hwb : w71.alloc _ = w11
    replace H := HS.eqW hwb H.alloc
    try simp only [World.size_alloc, List.nil_append, List.cons_append, List.append_assoc] at H
    clear hwb
    generalize w71.heap.size = b9 at H ⊢
    try clear C
    try clear w71
    have C := H.cells
    try simp only [cellsOf, cellsM, apartOf, apartM, and_true] at C
    go_wp2_with fail
    refine (HS2.out ⟨a1, n1, c1⟩ ⟨b1, m1, d1⟩ ⟨sC, N, cC⟩ _ (HNm.out.below H.done) (meAt_of (m := (⟨s0, s1, s2, s3, s4, s5, kd, dt, ck, fx, xs, fs⟩ : Mm)) HQ1.out (H.says 7 rfl)) (bytes_row HCL.out.symm (H.at 5 rfl))).mono ?_
    rintro _ w72 ⟨⟨a2, n2, c2⟩, ⟨b2, m2, d2⟩, q2, F2, hq2, rfl, K0⟩
    replace H := H.join K0 (one_low rfl)
    clear K0
    try simp only [List.nil_append, List.cons_append] at H
    skip
    try clear C
    try simp only [World.size_alloc, List.nil_append, List.cons_append, List.append_assoc] at H
    have C := H.cells
    try simp only [cellsOf, cellsM, apartOf, apartM, and_true] at C
    try dsimp only [meV] at H ⊢
    try dsimp only [meV]
    try dsimp only at H ⊢
    have HQ2 := Lib.hid hq2
    clear hq2 HS2
    repeat go_step
    generalize hwb : (((((((((((w72.setCell _ _).setCell _ _).setCell _ _).setCell _ _).setCell _ _).setCell _ _).setCell _ _).setCell _ _).setCell _ _).setCell _ _).setCell _ _).setCell _ _ = w12
    replace H := HS.eqW hwb (H.putAll (i := 8) rfl (vs := [.int .i64 s0, .int .i64 s1, .int .i64 s2, .int .i64 s3, .int .i64 s4, .int .i64 s5, .int .i64 kd, .int .i64 dt, .int .i64 ck, .int .i64 fx, .slice a2 n2 c2, .slice b2 m2 d2]) rfl rfl)
    simp only [List.nil_append, List.cons_append, List.append_assoc, List.set_cons_succ, List.set_cons_zero] at H
    clear hwb
    try clear C
    try clear w72
    have C := H.cells
    try simp only [cellsOf, cellsM, apartOf, apartM, and_true] at C
    go_wp2_with fail
    refine (HS3.out ⟨pa, pn, pc⟩ ⟨ra, rn, rc⟩ ⟨sC, N, cC⟩ _ (HNm.out.below H.done) (meAt_of (m := (⟨s0, s1, s2, s3, s4, s5, kd, dt, ck, fx, ws, fs⟩ : Mm)) HQM.out (H.says 1 rfl)) (bytes_row HCL.out.symm (H.at 5 rfl))).mono ?_
    rintro _ w73 ⟨⟨a3, n3, c3⟩, ⟨b3, m3, d3⟩, q3, F3, hq3, rfl, K0⟩
    replace H := H.join K0 (one_low rfl)
    clear K0
    try simp only [List.nil_append, List.cons_append] at H
    skip
    try clear C
    try simp only [World.size_alloc, List.nil_append, List.cons_append, List.append_assoc] at H
    have C := H.cells
    try simp only [cellsOf, cellsM, apartOf, apartM, and_true] at C
    try dsimp only [meV] at H ⊢
    try dsimp only [meV]
    try dsimp only at H ⊢
    have HQ3 := Lib.hid hq3
    clear hq3 HS3
    go_upto_region 12 with fail
    generalize hwb : w73.alloc _ = w13
    replace H := HS.eqW hwb H.alloc
    try simp only [World.size_alloc, List.nil_append, List.cons_append, List.append_assoc] at H
    clear hwb
    generalize w73.heap.size = b12 at H ⊢
    try clear C
    try clear w73
    have C := H.cells
    try simp only [cellsOf, cellsM, apartOf, apartM, and_true] at C
    go_wp2_with fail
    refine (HS4.out ⟨a3, n3, c3⟩ ⟨b3, m3, d3⟩ ⟨sB, N, cB⟩ _ (HNm.out.below H.done) (meAt_of (m := (⟨s0, s1, s2, s3, s4, s5, kd, dt, ck, fx, ys, fs⟩ : Mm)) HQ3.out (H.says 10 rfl)) (bytes_row HBL.out.symm (H.at 3 rfl))).mono ?_
    rintro _ w74 ⟨⟨a4, n4, c4⟩, ⟨b4, m4, d4⟩, q4, F4, hq4, rfl, K0⟩
    replace H := H.join K0 (one_low rfl)
    clear K0
    try simp only [List.nil_append, List.cons_append] at H
    skip
    try clear C
    try simp only [World.size_alloc, List.nil_append, List.cons_append, List.append_assoc] at H
    have C := H.cells
    try simp only [cellsOf, cellsM, apartOf, apartM, and_true] at C
    try dsimp only [meV] at H ⊢
    try dsimp only [meV]
    try dsimp only at H ⊢
    have HQ4 := Lib.hid hq4
    clear hq4 HS4
    repeat go_step
    generalize hwb : (((((((((((w74.setCell _ _).setCell _ _).setCell _ _).setCell _ _).setCell _ _).setCell _ _).setCell _ _).setCell _ _).setCell _ _).setCell _ _).setCell _ _).setCell _ _ = w14
    replace H := HS.eqW hwb (H.putAll (i := 11) rfl (vs := [.int .i64 s0, .int .i64 s1, .int .i64 s2, .int .i64 s3, .int .i64 s4, .int .i64 s5, .int .i64 kd, .int .i64 dt, .int .i64 ck, .int .i64 fx, .slice a4 n4 c4, .slice b4 m4 d4]) rfl rfl)
    simp only [List.nil_append, List.cons_append, List.append_assoc, List.set_cons_succ, List.set_cons_zero] at H
    clear hwb
    try clear C
    try clear w74
    have C := H.cells
    try simp only [cellsOf, cellsM, apartOf, apartM, and_true] at C
    go_upto_region 13 with fail
    refine wp_region_fH (by kernel_rfl) [0, 1, 2, 3, 4, 5, 6, 7, 8, 9, 10, 11, 12, 13] (by kernel_rfl) (by kernel_rfl) (by kernel_rfl) (OneD bd) (H) ?_
    clear H; intro w15 H hz0
    try clear C
    try simp only [World.size_alloc, List.nil_append, List.cons_append, List.append_assoc] at H hz0 ⊢
    clear hz0
    try clear w14
    have C := H.cells
    try simp only [cellsOf, cellsM, apartOf, apartM, and_true] at C
    simp only [List.filterMap_cons, List.filterMap_nil, List.getElem?_toArray, List.getElem?_cons_zero, List.getElem?_cons_succ]
    (refine wpF_free rfl rfl rfl (fun _ _ => ?_); go_step; go_step)
    (refine wpF_free rfl rfl rfl (fun _ _ => ?_); go_step; go_step)
    (refine wpF_load rfl rfl rfl (by simp [Stay, OneD, NoD, *]) (by simp [*]) (fun _ _ => ?_); go_step; go_step)
    (refine wpF_free rfl rfl rfl (fun _ _ => ?_); go_step; go_step)
    (refine wpF_call rfl rfl (fun wc hc _ _ => ?_); go_step; refine (faultv_any HSV.out (N : Int) (by have := HN1.out; omega) (by have := HN40.out; omega) false w.heap.size bd _ (hc.inv.at 0 rfl) hc.inv.size).mono ?_; rintro _ wd ⟨f8, rfl, hfh8, hfv8, hd, hg⟩; dsimp only; go_step; refine ⟨hc.chgS hg rfl (Dice.lt (H.at 0 rfl)) (hc.inv.diceAt 0 rfl hg hd), hc.chgK hg (Dice.lt (H.at 0 rfl)), ?_⟩; clear hg hd hc wc wd)
    (refine wpF_free rfl rfl rfl (fun _ _ => ?_); go_step; go_step)
    (refine wpF_free rfl rfl rfl (fun _ _ => ?_); go_step; go_step)
    (refine wpF_load rfl rfl rfl (by simp [Stay, OneD, NoD, *]) (by simp [*]) (fun _ _ => ?_); go_step; go_step)
    (refine wpF_free rfl rfl rfl (fun _ _ => ?_); go_step; go_step)
    (refine wpF_call rfl rfl (fun wc hc _ _ => ?_); go_step; refine (faultv_any HSV.out (N : Int) (by have := HN1.out; omega) (by have := HN40.out; omega) false w.heap.size bd _ (hc.inv.at 0 rfl) hc.inv.size).mono ?_; rintro _ wd ⟨f9, rfl, hfh9, hfv9, hd, hg⟩; dsimp only; go_step; refine ⟨hc.chgS hg rfl (Dice.lt (H.at 0 rfl)) (hc.inv.diceAt 0 rfl hg hd), hc.chgK hg (Dice.lt (H.at 0 rfl)), ?_⟩; clear hg hd hc wc wd)
    (refine wpF_float rfl rfl #[.int .i64 0, .int .i64 0, .int .i64 0, .int .i64 0, .int .i64 0, .int .i64 0, .int .i64 0, .int .i64 0, .int .u8 0, .int .u8 0, .bool false]   38 (fun w => by kernel_rfl) (fun b15 hb15 nb15 _ _ => ?_); go_simp; go_step)
    (refine wpF_float rfl rfl #[.int .i64 0, .int .i64 0, .int .i64 0, .int .i64 0, .int .i64 0, .int .i64 0, .int .i64 0, .int .i64 0, .int .u8 0, .int .u8 0, .bool false]   38 (fun w => by kernel_rfl) (fun b16 hb16 nb16 _ _ => ?_); go_simp; go_step)
    have hne : b16 ≠ b15 := fun e => by rw [e] at nb16; simp [Fl.put] at nb16
    (refine wpF_store (cs := #[.int .i64 f8.k, .int .i64 f8.p0, .int .i64 f8.p1, .int .i64 f8.p2, .int .i64 f8.p3, .int .i64 f8.p4, .int .i64 f8.p5, .int .i64 f8.ch, .int .u8 f8.ms, .int .u8 f8.vl, .bool f8.hd]) rfl rfl rfl rfl ((Fl.ne _ (Ne.symm hne) _).trans (Fl.at _ _ _)) rfl (by kernel_rfl) rfl rfl (fun _ _ => ?_); go_simp; go_step)
    (refine wpF_store (cs := #[.int .i64 f9.k, .int .i64 f9.p0, .int .i64 f9.p1, .int .i64 f9.p2, .int .i64 f9.p3, .int .i64 f9.p4, .int .i64 f9.p5, .int .i64 f9.ch, .int .u8 f9.ms, .int .u8 f9.vl, .bool f9.hd]) rfl rfl rfl rfl ((Fl.ne _ hne _).trans (Fl.at _ _ _)) rfl (by kernel_rfl) rfl rfl (fun _ _ => ?_); go_simp; go_step)
    refine wpF_nil ?_
    intro w16 hC
    replace H := H.floats2 hC hne ((Fl.ne _ (Ne.symm hne) _).trans (Fl.at _ _ _)) (Fl.at _ _ _)
    clear hC hne C hb15 nb15 hb16 nb16 w15
    try simp only [List.nil_append, List.cons_append, List.append_assoc] at H
    have C := H.cells
    try simp only [cellsOf, cellsM, apartOf, apartM, and_true] at C
    go_step
    go_step
    obtain ⟨k, p0, p1, p2, p3, p4, p5, ch, ms, vl, hd⟩ := f8
    replace hfh8 : hd = false := hfh8
    subst hfh8
    try dsimp only at H
    replace hfv8 : vfF (⟨s0, s1, s2, s3, s4, s5, kd, dt, ck, fx, ws, fs⟩ : Mm) (N : Int) (⟨k, p0, p1, p2, p3, p4, p5, ch, ms, vl, false⟩ : Fa) = true := hfv8
    have hcr := vf_ch hfv8
    obtain ⟨cN, hcN⟩ : ∃ c : Nat, ch = c := ⟨ch.toNat, by have := hcr.1; dsimp only at this; omega⟩
    subst hcN
    have HCN := Lib.hid (show cN < N by have := hcr.2; dsimp only at this; omega)
    obtain ⟨k', p0', p1', p2', p3', p4', p5', ch', ms', vl', hd'⟩ := f9
    replace hfh9 : hd' = false := hfh9
    subst hfh9
    try dsimp only at H
    replace hfv9 : vfF (⟨s0, s1, s2, s3, s4, s5, kd, dt, ck, fx, ws, fs⟩ : Mm) (N : Int) (⟨k', p0', p1', p2', p3', p4', p5', ch', ms', vl', false⟩ : Fa) = true := hfv9
    have hcr' := vf_ch hfv9
    obtain ⟨cN', hcN⟩ : ∃ c : Nat, ch' = c := ⟨ch'.toNat, by have := hcr'.1; dsimp only at this; omega⟩
    subst hcN
    have HCN' := Lib.hid (show cN' < N by have := hcr'.2; dsimp only at this; omega)
    have hfp : ∀ vs : List Wm, vfF (⟨s0, s1, s2, s3, s4, s5, kd, dt, ck, fx, vs, fs⟩ : Mm) ((⟨s0, s1, s2, s3, s4, s5, kd, dt, ck, fx, vs, fs⟩ : Mm).dt + (⟨s0, s1, s2, s3, s4, s5, kd, dt, ck, fx, vs, fs⟩ : Mm).ck) (⟨k, p0, p1, p2, p3, p4, p5, (cN : Int), ms, vl, false⟩ : Fa) = true := fun vs => by show vfF (⟨s0, s1, s2, s3, s4, s5, kd, dt, ck, fx, ws, fs⟩ : Mm) (dt + ck) (⟨k, p0, p1, p2, p3, p4, p5, (cN : Int), ms, vl, false⟩ : Fa) = true; rw [← HND.out]; exact hfv8
    have hfq : ∀ vs : List Wm, vfF (⟨s0, s1, s2, s3, s4, s5, kd, dt, ck, fx, vs, fs⟩ : Mm) ((⟨s0, s1, s2, s3, s4, s5, kd, dt, ck, fx, vs, fs⟩ : Mm).dt + (⟨s0, s1, s2, s3, s4, s5, kd, dt, ck, fx, vs, fs⟩ : Mm).ck) (⟨k', p0', p1', p2', p3', p4', p5', (cN' : Int), ms', vl', false⟩ : Fa) = true := fun vs => by show vfF (⟨s0, s1, s2, s3, s4, s5, kd, dt, ck, fx, ws, fs⟩ : Mm) (dt + ck) (⟨k', p0', p1', p2', p3', p4', p5', (cN' : Int), ms', vl', false⟩ : Fa) = true; rw [← HND.out]; exact hfv9
    obtain ⟨us, hus⟩ : ∃ vs, vs = flipL N cN ms (covM (⟨s0, s1, s2, s3, s4, s5, kd, dt, ck, fx, ws, fs⟩ : Mm) (⟨k, p0, p1, p2, p3, p4, p5, (cN : Int), ms, vl, false⟩ : Fa)) ws := ⟨_, rfl⟩
    obtain ⟨ut, hut⟩ : ∃ vs, vs = flipL N cN' ms' (covM (⟨s0, s1, s2, s3, s4, s5, kd, dt, ck, fx, ws, fs⟩ : Mm) (⟨k', p0', p1', p2', p3', p4', p5', (cN' : Int), ms', vl', false⟩ : Fa)) us := ⟨_, rfl⟩
    obtain ⟨vs, hvs⟩ : ∃ vs, vs = flipL N cN' ms' (covM (⟨s0, s1, s2, s3, s4, s5, kd, dt, ck, fx, ws, fs⟩ : Mm) (⟨k', p0', p1', p2', p3', p4', p5', (cN' : Int), ms', vl', false⟩ : Fa)) ws := ⟨_, rfl⟩
    obtain ⟨vt, hvt⟩ : ∃ wt, wt = flipL N cN ms (covM (⟨s0, s1, s2, s3, s4, s5, kd, dt, ck, fx, ws, fs⟩ : Mm) (⟨k, p0, p1, p2, p3, p4, p5, (cN : Int), ms, vl, false⟩ : Fa)) vs := ⟨_, rfl⟩
    have g1 : GoodWs (szM (⟨s0, s1, s2, s3, s4, s5, kd, dt, ck, fx, ws, fs⟩ : Mm)) N us := by rw [hus]; exact HGW.out.flip _ _ _ (covM_lt (⟨s0, s1, s2, s3, s4, s5, kd, dt, ck, fx, ws, fs⟩ : Mm) (⟨k, p0, p1, p2, p3, p4, p5, (cN : Int), ms, vl, false⟩ : Fa))
    have g2 : GoodWs (szM (⟨s0, s1, s2, s3, s4, s5, kd, dt, ck, fx, ws, fs⟩ : Mm)) N ut := by rw [hut]; exact g1.flip _ _ _ (covM_lt (⟨s0, s1, s2, s3, s4, s5, kd, dt, ck, fx, ws, fs⟩ : Mm) (⟨k', p0', p1', p2', p3', p4', p5', (cN' : Int), ms', vl', false⟩ : Fa))
    have g3 : GoodWs (szM (⟨s0, s1, s2, s3, s4, s5, kd, dt, ck, fx, ws, fs⟩ : Mm)) N vs := by rw [hvs]; exact HGW.out.flip _ _ _ (covM_lt (⟨s0, s1, s2, s3, s4, s5, kd, dt, ck, fx, ws, fs⟩ : Mm) (⟨k', p0', p1', p2', p3', p4', p5', (cN' : Int), ms', vl', false⟩ : Fa))
    have g4 : GoodWs (szM (⟨s0, s1, s2, s3, s4, s5, kd, dt, ck, fx, ws, fs⟩ : Mm)) N vt := by rw [hvt]; exact g3.flip _ _ _ (covM_lt (⟨s0, s1, s2, s3, s4, s5, kd, dt, ck, fx, ws, fs⟩ : Mm) (⟨k, p0, p1, p2, p3, p4, p5, (cN : Int), ms, vl, false⟩ : Fa))
    have t1 : injF (⟨s0, s1, s2, s3, s4, s5, kd, dt, ck, fx, ws, fs⟩ : Mm) (⟨k, p0, p1, p2, p3, p4, p5, (cN : Int), ms, vl, false⟩ : Fa) = ((⟨s0, s1, s2, s3, s4, s5, kd, dt, ck, fx, us, fs⟩ : Mm), 0) := by
      have h9 := injF_soft HG.out (hfp ws) rfl
      dsimp only [setWs] at h9
      rw [HN2.out, ← hus] at h9
      exact h9
    have t2 : injF (⟨s0, s1, s2, s3, s4, s5, kd, dt, ck, fx, us, fs⟩ : Mm) (⟨k', p0', p1', p2', p3', p4', p5', (cN' : Int), ms', vl', false⟩ : Fa) = ((⟨s0, s1, s2, s3, s4, s5, kd, dt, ck, fx, ut, fs⟩ : Mm), 0) := by
      have h9 := injF_soft (HGD.out us g1) (hfq us) rfl
      dsimp only [setWs] at h9
      rw [HN2.out, show covM (⟨s0, s1, s2, s3, s4, s5, kd, dt, ck, fx, us, fs⟩ : Mm) (⟨k', p0', p1', p2', p3', p4', p5', (cN' : Int), ms', vl', false⟩ : Fa) = covM (⟨s0, s1, s2, s3, s4, s5, kd, dt, ck, fx, ws, fs⟩ : Mm) (⟨k', p0', p1', p2', p3', p4', p5', (cN' : Int), ms', vl', false⟩ : Fa) from rfl, ← hut] at h9
      exact h9
    have t3 : injF (⟨s0, s1, s2, s3, s4, s5, kd, dt, ck, fx, ws, fs⟩ : Mm) (⟨k', p0', p1', p2', p3', p4', p5', (cN' : Int), ms', vl', false⟩ : Fa) = ((⟨s0, s1, s2, s3, s4, s5, kd, dt, ck, fx, vs, fs⟩ : Mm), 0) := by
      have h9 := injF_soft HG.out (hfq ws) rfl
      dsimp only [setWs] at h9
      rw [HN2.out, ← hvs] at h9
      exact h9
    have t4 : injF (⟨s0, s1, s2, s3, s4, s5, kd, dt, ck, fx, vs, fs⟩ : Mm) (⟨k, p0, p1, p2, p3, p4, p5, (cN : Int), ms, vl, false⟩ : Fa) = ((⟨s0, s1, s2, s3, s4, s5, kd, dt, ck, fx, vt, fs⟩ : Mm), 0) := by
      have h9 := injF_soft (HGD.out vs g3) (hfp vs) rfl
      dsimp only [setWs] at h9
      rw [HN2.out, show covM (⟨s0, s1, s2, s3, s4, s5, kd, dt, ck, fx, vs, fs⟩ : Mm) (⟨k, p0, p1, p2, p3, p4, p5, (cN : Int), ms, vl, false⟩ : Fa) = covM (⟨s0, s1, s2, s3, s4, s5, kd, dt, ck, fx, ws, fs⟩ : Mm) (⟨k, p0, p1, p2, p3, p4, p5, (cN : Int), ms, vl, false⟩ : Fa) from rfl, ← hvt] at h9
      exact h9
    have heq : ut = vt := by rw [hut, hvt, hus, hvs]; exact flip_comm HGW.out (by show cN < N; exact HCN.out) (by show cN' < N; exact HCN'.out) (covM_nd (⟨s0, s1, s2, s3, s4, s5, kd, dt, ck, fx, ws, fs⟩ : Mm) (⟨k, p0, p1, p2, p3, p4, p5, (cN : Int), ms, vl, false⟩ : Fa)) (covM_lt (⟨s0, s1, s2, s3, s4, s5, kd, dt, ck, fx, ws, fs⟩ : Mm) (⟨k, p0, p1, p2, p3, p4, p5, (cN : Int), ms, vl, false⟩ : Fa)) (covM_nd (⟨s0, s1, s2, s3, s4, s5, kd, dt, ck, fx, ws, fs⟩ : Mm) (⟨k', p0', p1', p2', p3', p4', p5', (cN' : Int), ms', vl', false⟩ : Fa)) (covM_lt (⟨s0, s1, s2, s3, s4, s5, kd, dt, ck, fx, ws, fs⟩ : Mm) (⟨k', p0', p1', p2', p3', p4', p5', (cN' : Int), ms', vl', false⟩ : Fa))
    have HI1 := Lib.hid (fun (x y : Sv) wx hn hx => (show Calls Tryd.prog 15 #[meV (⟨s0, s1, s2, s3, s4, s5, kd, dt, ck, fx, ws, fs⟩ : Mm) x y, .agg #[.int .i64 k, .int .i64 p0, .int .i64 p1, .int .i64 p2, .int .i64 p3, .int .i64 p4, .int .i64 p5, .int .i64 (cN : Nat), .int .u8 ms, .int .u8 vl, .bool false]] wx (GivesMeE (⟨s0, s1, s2, s3, s4, s5, kd, dt, ck, fx, us, fs⟩ : Mm) 0 wx) from by
      have h9 := cinject_any (⟨s0, s1, s2, s3, s4, s5, kd, dt, ck, fx, ws, fs⟩ : Mm) x y HSM1.out (⟨k, p0, p1, p2, p3, p4, p5, (cN : Int), ms, vl, false⟩ : Fa) wx hn hx
      rw [t1] at h9
      exact h9))
    have HI2 := Lib.hid (fun (x y : Sv) wx hn hx => (show Calls Tryd.prog 15 #[meV (⟨s0, s1, s2, s3, s4, s5, kd, dt, ck, fx, us, fs⟩ : Mm) x y, .agg #[.int .i64 k', .int .i64 p0', .int .i64 p1', .int .i64 p2', .int .i64 p3', .int .i64 p4', .int .i64 p5', .int .i64 (cN' : Nat), .int .u8 ms', .int .u8 vl', .bool false]] wx (GivesMeE (⟨s0, s1, s2, s3, s4, s5, kd, dt, ck, fx, ut, fs⟩ : Mm) 0 wx) from by
      have h9 := cinject_any (⟨s0, s1, s2, s3, s4, s5, kd, dt, ck, fx, us, fs⟩ : Mm) x y (HSL.out us g1) (⟨k', p0', p1', p2', p3', p4', p5', (cN' : Int), ms', vl', false⟩ : Fa) wx hn hx
      rw [t2] at h9
      exact h9))
    have HI3 := Lib.hid (fun (x y : Sv) wx hn hx => (show Calls Tryd.prog 15 #[meV (⟨s0, s1, s2, s3, s4, s5, kd, dt, ck, fx, ws, fs⟩ : Mm) x y, .agg #[.int .i64 k', .int .i64 p0', .int .i64 p1', .int .i64 p2', .int .i64 p3', .int .i64 p4', .int .i64 p5', .int .i64 (cN' : Nat), .int .u8 ms', .int .u8 vl', .bool false]] wx (GivesMeE (⟨s0, s1, s2, s3, s4, s5, kd, dt, ck, fx, vs, fs⟩ : Mm) 0 wx) from by
      have h9 := cinject_any (⟨s0, s1, s2, s3, s4, s5, kd, dt, ck, fx, ws, fs⟩ : Mm) x y HSM1.out (⟨k', p0', p1', p2', p3', p4', p5', (cN' : Int), ms', vl', false⟩ : Fa) wx hn hx
      rw [t3] at h9
      exact h9))
    have HI4 := Lib.hid (fun (x y : Sv) wx hn hx => (show Calls Tryd.prog 15 #[meV (⟨s0, s1, s2, s3, s4, s5, kd, dt, ck, fx, vs, fs⟩ : Mm) x y, .agg #[.int .i64 k, .int .i64 p0, .int .i64 p1, .int .i64 p2, .int .i64 p3, .int .i64 p4, .int .i64 p5, .int .i64 (cN : Nat), .int .u8 ms, .int .u8 vl, .bool false]] wx (GivesMeE (⟨s0, s1, s2, s3, s4, s5, kd, dt, ck, fx, vt, fs⟩ : Mm) 0 wx) from by
      have h9 := cinject_any (⟨s0, s1, s2, s3, s4, s5, kd, dt, ck, fx, vs, fs⟩ : Mm) x y (HSL.out vs g3) (⟨k, p0, p1, p2, p3, p4, p5, (cN : Int), ms, vl, false⟩ : Fa) wx hn hx
      rw [t4] at h9
      exact h9))
    have HSUV := Lib.hid (fun (x y u v : Sv) wx hx hy => (show Calls Tryd.prog 20 #[meV (⟨s0, s1, s2, s3, s4, s5, kd, dt, ck, fx, ut, fs⟩ : Mm) x y, meV (⟨s0, s1, s2, s3, s4, s5, kd, dt, ck, fx, vt, fs⟩ : Mm) u v] wx (Gives (.bool true) wx) from by
      have h9 := same13_any (⟨s0, s1, s2, s3, s4, s5, kd, dt, ck, fx, ut, fs⟩ : Mm) (⟨s0, s1, s2, s3, s4, s5, kd, dt, ck, fx, vt, fs⟩ : Mm) x y u v (HSL.out ut g2).long (HSL.out vt g4).long wx hx hy
      rw [decide_eq_true (by rw [heq])] at h9
      exact h9))
    clear hfp hfq hus hut hvs hvt g1 g2 g3 g4 t1 t2 t3 t4 heq hfv8 hfv9 hcr hcr' HG HBW HGD HSL HGW HSM1
    try clear C
    try simp only [World.size_alloc, List.nil_append, List.cons_append, List.append_assoc] at H
    have C := H.cells
    try simp only [cellsOf, cellsM, apartOf, apartM, and_true] at C
    go_wp2_with fail
    refine (HI1.out ⟨pa, pn, pc⟩ ⟨ra, rn, rc⟩ _ (HNm.out.below H.done) (meAt_of (m := (⟨s0, s1, s2, s3, s4, s5, kd, dt, ck, fx, ws, fs⟩ : Mm)) HQM.out (H.says 1 rfl))).mono ?_
    rintro _ w75 ⟨⟨a5, n5, c5⟩, ⟨b5, m5, d5⟩, q5, F5, hq5, rfl, K0⟩
    replace H := H.join K0 (one_low rfl)
    clear K0
    try simp only [List.nil_append, List.cons_append] at H
    skip
    try clear C
    try simp only [World.size_alloc, List.nil_append, List.cons_append, List.append_assoc] at H
    have C := H.cells
    try simp only [cellsOf, cellsM, apartOf, apartM, and_true] at C
    try dsimp only [meV] at H ⊢
    try dsimp only [meV]
    try dsimp only at H ⊢
    have HQ5 := Lib.hid hq5
    clear hq5 HI1
    go_upto_region 15 with fail
    generalize hwb : w75.alloc _ = w17
    replace H := HS.eqW hwb H.alloc
    try simp only [World.size_alloc, List.nil_append, List.cons_append, List.append_assoc] at H
    clear hwb
    generalize w75.heap.size = b17 at H ⊢
    try clear C
    try clear w75
    have C := H.cells
    try simp only [cellsOf, cellsM, apartOf, apartM, and_true] at C
    go_wp2_with fail
    refine (HI2.out ⟨a5, n5, c5⟩ ⟨b5, m5, d5⟩ _ (HNm.out.below H.done) (meAt_of (m := (⟨s0, s1, s2, s3, s4, s5, kd, dt, ck, fx, us, fs⟩ : Mm)) HQ5.out (H.says 15 rfl))).mono ?_
    rintro _ w76 ⟨⟨a6, n6, c6⟩, ⟨b6, m6, d6⟩, q6, F6, hq6, rfl, K0⟩
    replace H := H.join K0 (one_low rfl)
    clear K0
    try simp only [List.nil_append, List.cons_append] at H
    skip
    try clear C
    try simp only [World.size_alloc, List.nil_append, List.cons_append, List.append_assoc] at H
    have C := H.cells
    try simp only [cellsOf, cellsM, apartOf, apartM, and_true] at C
    try dsimp only [meV] at H ⊢
    try dsimp only [meV]
    try dsimp only at H ⊢
    have HQ6 := Lib.hid hq6
    clear hq6 HI2
    repeat go_step
    generalize hwb : (((((((((((w76.setCell _ _).setCell _ _).setCell _ _).setCell _ _).setCell _ _).setCell _ _).setCell _ _).setCell _ _).setCell _ _).setCell _ _).setCell _ _).setCell _ _ = w18
    replace H := HS.eqW hwb (H.putAll (i := 16) rfl (vs := [.int .i64 s0, .int .i64 s1, .int .i64 s2, .int .i64 s3, .int .i64 s4, .int .i64 s5, .int .i64 kd, .int .i64 dt, .int .i64 ck, .int .i64 fx, .slice a6 n6 c6, .slice b6 m6 d6]) rfl rfl)
    simp only [List.nil_append, List.cons_append, List.append_assoc, List.set_cons_succ, List.set_cons_zero] at H
    clear hwb
    try clear C
    try clear w76
    have C := H.cells
    try simp only [cellsOf, cellsM, apartOf, apartM, and_true] at C
    go_wp2_with fail
    refine (HI3.out ⟨pa, pn, pc⟩ ⟨ra, rn, rc⟩ _ (HNm.out.below H.done) (meAt_of (m := (⟨s0, s1, s2, s3, s4, s5, kd, dt, ck, fx, ws, fs⟩ : Mm)) HQM.out (H.says 1 rfl))).mono ?_
    rintro _ w77 ⟨⟨a7, n7, c7⟩, ⟨b7, m7, d7⟩, q7, F7, hq7, rfl, K0⟩
    replace H := H.join K0 (one_low rfl)
    clear K0
    try simp only [List.nil_append, List.cons_append] at H
    skip
    try clear C
    try simp only [World.size_alloc, List.nil_append, List.cons_append, List.append_assoc] at H
    have C := H.cells
    try simp only [cellsOf, cellsM, apartOf, apartM, and_true] at C
    try dsimp only [meV] at H ⊢
    try dsimp only [meV]
    try dsimp only at H ⊢
    have HQ7 := Lib.hid hq7
    clear hq7 HI3
    go_upto_region 17 with fail
    generalize hwb : w77.alloc _ = w19
    replace H := HS.eqW hwb H.alloc
    try simp only [World.size_alloc, List.nil_append, List.cons_append, List.append_assoc] at H
    clear hwb
    generalize w77.heap.size = b20 at H ⊢
    try clear C
    try clear w77
    have C := H.cells
    try simp only [cellsOf, cellsM, apartOf, apartM, and_true] at C
    go_wp2_with fail
    refine (HI4.out ⟨a7, n7, c7⟩ ⟨b7, m7, d7⟩ _ (HNm.out.below H.done) (meAt_of (m := (⟨s0, s1, s2, s3, s4, s5, kd, dt, ck, fx, vs, fs⟩ : Mm)) HQ7.out (H.says 18 rfl))).mono ?_
    rintro _ w78 ⟨⟨a8, n8, c8⟩, ⟨b8, m8, d8⟩, q8, F8, hq8, rfl, K0⟩
    replace H := H.join K0 (one_low rfl)
    clear K0
    try simp only [List.nil_append, List.cons_append] at H
    skip
    try clear C
    try simp only [World.size_alloc, List.nil_append, List.cons_append, List.append_assoc] at H
    have C := H.cells
    try simp only [cellsOf, cellsM, apartOf, apartM, and_true] at C
    try dsimp only [meV] at H ⊢
    try dsimp only [meV]
    try dsimp only at H ⊢
    have HQ8 := Lib.hid hq8
    clear hq8 HI4
    repeat go_step
    generalize hwb : (((((((((((w78.setCell _ _).setCell _ _).setCell _ _).setCell _ _).setCell _ _).setCell _ _).setCell _ _).setCell _ _).setCell _ _).setCell _ _).setCell _ _).setCell _ _ = w20
    replace H := HS.eqW hwb (H.putAll (i := 19) rfl (vs := [.int .i64 s0, .int .i64 s1, .int .i64 s2, .int .i64 s3, .int .i64 s4, .int .i64 s5, .int .i64 kd, .int .i64 dt, .int .i64 ck, .int .i64 fx, .slice a8 n8 c8, .slice b8 m8 d8]) rfl rfl)
    simp only [List.nil_append, List.cons_append, List.append_assoc, List.set_cons_succ, List.set_cons_zero] at H
    clear hwb
    try clear C
    try clear w78
    have C := H.cells
    try simp only [cellsOf, cellsM, apartOf, apartM, and_true] at C
    go_wp2_with fail
    refine (awake13_any _ (HNm.out.below H.done)).mono ?_
    rintro _ w21 ⟨rfl, hb⟩
    replace H := H.below hb
    clear hb
    try clear C
    try simp only [World.size_alloc, List.nil_append, List.cons_append, List.append_assoc] at H
    try clear w20
    have C := H.cells
    try simp only [cellsOf, cellsM, apartOf, apartM, and_true] at C
    dsimp only
    skip
    by_cases h1 : (sz9 : Int) = 1
    · have h1b : ((sz9 : Int) == 1) = true := beq_iff_eq.2 h1
      have h1d : decide ((sz9 : Int) = 1) = true := decide_eq_true h1
      go_wp2_with fail
      refine (HSUV.out ⟨a6, n6, c6⟩ ⟨b6, m6, d6⟩ ⟨a8, n8, c8⟩ ⟨b8, m8, d8⟩ _ (meAt_of (m := (⟨s0, s1, s2, s3, s4, s5, kd, dt, ck, fx, ut, fs⟩ : Mm)) HQ6.out (H.says 17 rfl)) (meAt_of (m := (⟨s0, s1, s2, s3, s4, s5, kd, dt, ck, fx, vt, fs⟩ : Mm)) HQ8.out (H.says 20 rfl))).mono ?_
      rintro _ w22 ⟨rfl, hb⟩
      replace H := H.below hb
      clear hb
      try clear C
      try simp only [World.size_alloc, List.nil_append, List.cons_append, List.append_assoc] at H
      try clear w21
      have C := H.cells
      try simp only [cellsOf, cellsM, apartOf, apartM, and_true] at C
      dsimp only
      go_wp2_with fail
      go_ret
      exact ⟨by first | rfl | go_simp, H.done⟩
    · skip
      have h1b : ((sz9 : Int) == 1) = false := beq_eq_false_iff_ne.2 h1
      go_wp2_with fail
      refine (HSXY.out h1 ⟨a2, n2, c2⟩ ⟨b2, m2, d2⟩ ⟨a4, n4, c4⟩ ⟨b4, m4, d4⟩ _ (meAt_of (m := (⟨s0, s1, s2, s3, s4, s5, kd, dt, ck, fx, xt, fs⟩ : Mm)) HQ2.out (H.says 9 rfl)) (meAt_of (m := (⟨s0, s1, s2, s3, s4, s5, kd, dt, ck, fx, yt, fs⟩ : Mm)) HQ4.out (H.says 12 rfl))).mono ?_
      rintro _ w23 ⟨rfl, hb⟩
      replace H := H.below hb
      clear hb
      try clear C
      try simp only [World.size_alloc, List.nil_append, List.cons_append, List.append_assoc] at H
      try clear w21
      have C := H.cells
      try simp only [cellsOf, cellsM, apartOf, apartM, and_true] at C
      dsimp only
      go_wp2_with fail
      refine (HSUV.out ⟨a6, n6, c6⟩ ⟨b6, m6, d6⟩ ⟨a8, n8, c8⟩ ⟨b8, m8, d8⟩ _ (meAt_of (m := (⟨s0, s1, s2, s3, s4, s5, kd, dt, ck, fx, ut, fs⟩ : Mm)) HQ6.out (H.says 17 rfl)) (meAt_of (m := (⟨s0, s1, s2, s3, s4, s5, kd, dt, ck, fx, vt, fs⟩ : Mm)) HQ8.out (H.says 20 rfl))).mono ?_
      rintro _ w24 ⟨rfl, hb⟩
      replace H := H.below hb
      clear hb
      try clear C
      try simp only [World.size_alloc, List.nil_append, List.cons_append, List.append_assoc] at H
      try clear w23
      have C := H.cells
      try simp only [cellsOf, cellsM, apartOf, apartM, and_true] at C
      dsimp only
      go_wp2_with fail
      go_ret
      exact ⟨by first | rfl | go_simp, H.done⟩
  · rw [decide_eq_false h400] at hli
    have HLI := Lib.hid hli
    clear hli
    go_enter Tryd.func5, Tryd.ntmps5
    have H := HS.start NoD w
    go_wp2_with fail
    refine (gives_of (HLI.out _)).mono ?_
    rintro _ w1 ⟨rfl, hb⟩
    replace H := H.below hb
    clear hb
    try clear C
    try simp only [World.size_alloc, List.nil_append, List.cons_append, List.append_assoc] at H
    have C := H.cells
    try simp only [cellsOf, cellsM, apartOf, apartM, and_true] at C
    dsimp only
    go_wp2_with fail
    refine (awake13_any _ (HNm.out.below H.done)).mono ?_
    rintro _ w2 ⟨rfl, hb⟩
    replace H := H.below hb
    clear hb
    try clear C
    try simp only [World.size_alloc, List.nil_append, List.cons_append, List.append_assoc] at H
    try clear w1
    have C := H.cells
    try simp only [cellsOf, cellsM, apartOf, apartM, and_true] at C
    dsimp only
    go_wp2_with fail
    go_ret
    exact ⟨rfl, H.done⟩
end Go.Proofs.YtplflpmkomeadaaDoor
