/- CellFlips' walk. -/
import Derived.Test.YtplflpmkomeadaaDoorCeY
import Derived.Test.YtplflpmkomeadaaDoorCeZ
import Derived.Test.YtplflpmkomeadaaDoorK1
namespace Go.Proofs.YtplflpmkomeadaaDoor
set_option linter.unusedSimpArgs false
set_option linter.unusedVariables false
open Go.RowKit
set_option maxRecDepth 100000
attribute [local irreducible] wpX wpF Calls

set_option maxHeartbeats 16000000 in
theorem flips_walk (sa : Option Addr) (len cap : Nat) (hl : len ≤ maxLen) (index : Int) (w : World) (hN : Nm w) (hI : Ints w sa len) : Calls Tryd.prog 3 #[.slice sa len cap, .int .i64 index] w (Gives (.bool true) w) := by
  have HI := Lib.hid hI
  have HNm := Lib.hid hN
  clear hI hN
  have hli := light_any sa len cap hl
  clear hl
  by_cases h400 : len ≤ 400
  · rw [decide_eq_true h400] at hli
    have HLI := Lib.hid hli
    clear hli
    go_enter Tryd.func3, Tryd.ntmps3
    have H := HS.start NoD w
    go_wp2_with fail
    refine (gives_of (HLI.out _)).mono ?_
    rintro _ w1 ⟨rfl, hb⟩
    replace H := H.below hb
    clear hb
    try clear C
    try simp only [World.size_alloc, List.nil_append, List.cons_append, List.append_assoc] at H
    have C := H.cells
    try simp only [cellsOf, cellsM, apartOf, apartM, and_true] at C
    dsimp only
    go_wp2_with fail
    refine (roll_at w.heap.size _ _ _ h400 _ H.size (H.ints HI.out)).mono ?_
    rintro _ w2 ⟨bd, rfl, hd, hb, hbb⟩
    replace H := H.getsDice hb hd hbb (Nat.le_refl _)
    clear hb hd hbb
    try clear C
    try simp only [World.size_alloc, List.nil_append, List.cons_append, List.append_assoc] at H
    try clear w1
    have C := H.cells
    try simp only [cellsOf, cellsM, apartOf, apartM, and_true] at C
    dsimp only
    go_wp2_with fail
    refine (random13_any w.heap.size bd _ (H.at 0 rfl) H.size).mono ?_
    rintro _ w61 ⟨M, ⟨pa, pn, pc⟩, ⟨ra, rn, rc⟩, qs, F, hg, hbw, hz, -, hqm, rfl, K0⟩
    replace H := H.joinDice 0 rfl K0 (one_low rfl)
    clear K0
    try simp only [List.nil_append, List.cons_append] at H
    obtain ⟨s0, s1, s2, s3, s4, s5, kd, dt, ck, fx, ws, fs⟩ := M
    have HG := Lib.hid hg
    have HBW := Lib.hid hbw
    have HZ := Lib.hid hz
    have HQM := Lib.hid hqm
    have hrg := codeB_rng hg.co
    have hrg1 : 1 ≤ dt + ck ∧ dt + ck ≤ 40 ∧ 0 ≤ dt ∧ 0 ≤ ck := by dsimp only at hrg; omega
    have HRG := Lib.hid hrg1
    have HCH := Lib.hid (fun w => (show Calls Tryd.prog 14 #[.agg #[.int .i64 kd, .int .i64 dt, .int .i64 ck, .int .i64 fx]] w (Gives (.int .i64 (dt + ck)) w) from r13chips_any kd dt ck fx (by omega) (by omega) w))
    have HSV := Lib.hid (show SV s0 s1 s2 s3 s4 s5 from hg.sv)
    clear hg hbw hz hqm hrg hrg1
    skip
    try clear C
    try simp only [World.size_alloc, List.nil_append, List.cons_append, List.append_assoc] at H
    have C := H.cells
    try simp only [cellsOf, cellsM, apartOf, apartM, and_true] at C
    try dsimp only [meV] at H ⊢
    try dsimp only [meV]
    go_upto_region 5 with fail
    generalize hwb : w61.alloc _ = w3
    replace H := HS.eqW hwb H.alloc
    try simp only [World.size_alloc, List.nil_append, List.cons_append, List.append_assoc] at H
    clear hwb
    generalize w61.heap.size = b6 at H ⊢
    try clear C
    try clear w61
    have C := H.cells
    try simp only [cellsOf, cellsM, apartOf, apartM, and_true] at C
    refine wp_region_fH (by kernel_rfl) [0, 1, 2, 3, 4, 5, 6, 7, 8] (by kernel_rfl) (by kernel_rfl) (by kernel_rfl) (OneD bd) (H) ?_
    clear H; intro w4 H hz0
    try clear C
    try simp only [World.size_alloc, List.nil_append, List.cons_append, List.append_assoc] at H hz0 ⊢
    clear hz0
    try clear w3
    have C := H.cells
    try simp only [cellsOf, cellsM, apartOf, apartM, and_true] at C
    simp only [List.filterMap_cons, List.filterMap_nil, List.getElem?_toArray, List.getElem?_cons_zero, List.getElem?_cons_succ]
    (refine wpF_free rfl rfl rfl (fun _ _ => ?_); go_step; go_step)
    (refine wpF_free rfl rfl rfl (fun _ _ => ?_); go_step; go_step)
    (refine wpF_load rfl rfl rfl (by simp [Stay, OneD, NoD, *]) (by simp [*]) (fun _ _ => ?_); go_step; go_step)
    (refine wpF_free rfl rfl rfl (fun _ _ => ?_); go_step; go_step)
    (refine wpF_load rfl rfl rfl (by simp [Stay, OneD, NoD, *]) (by simp [*]) (fun _ _ => ?_); go_step; go_step)
    (refine wpF_call rfl rfl (fun wc hc _ _ => ?_); go_step; refine (HCH.out _).mono ?_; rintro _ wd ⟨rfl, hb⟩; dsimp only; go_step; refine ⟨hc.below (fun _ h => h.lt) hb (hc.inv.below hb), fun k _ hk => hb.block k hk, ?_⟩; clear hb hc wc wd)
    (refine wpF_call rfl rfl (fun wc hc _ _ => ?_); go_step; refine (faultv_any HSV.out (dt + ck) (by have := HRG.out; omega) (by have := HRG.out; omega) false w.heap.size bd _ (hc.inv.at 0 rfl) hc.inv.size).mono ?_; rintro _ wd ⟨f9, rfl, hfh, hfv, hd, hg⟩; dsimp only; go_step; refine ⟨hc.chgS hg rfl (Dice.lt (H.at 0 rfl)) (hc.inv.diceAt 0 rfl hg hd), hc.chgK hg (Dice.lt (H.at 0 rfl)), ?_⟩; clear hg hd hc wc wd)
    (refine wpF_float rfl rfl #[.int .i64 0, .int .i64 0, .int .i64 0, .int .i64 0, .int .i64 0, .int .i64 0, .int .i64 0, .int .i64 0, .int .u8 0, .int .u8 0, .bool false]   38 (fun w => by kernel_rfl) (fun b7 hb7 nb7 _ _ => ?_); go_simp; go_step)
    (refine wpF_store (cs := #[.int .i64 f9.k, .int .i64 f9.p0, .int .i64 f9.p1, .int .i64 f9.p2, .int .i64 f9.p3, .int .i64 f9.p4, .int .i64 f9.p5, .int .i64 f9.ch, .int .u8 f9.ms, .int .u8 f9.vl, .bool f9.hd]) rfl rfl rfl rfl (Fl.at _ _ _) rfl (by kernel_rfl) rfl rfl (fun _ _ => ?_); go_simp; go_step)
    refine wpF_nil ?_
    intro w5 hC
    replace H := H.floats1 hC (Fl.at _ _ _)
    clear hC C hb7 nb7 w4
    try simp only [List.nil_append, List.cons_append, List.append_assoc] at H
    have C := H.cells
    try simp only [cellsOf, cellsM, apartOf, apartM, and_true] at C
    go_step
    go_step
    obtain ⟨k, p0, p1, p2, p3, p4, p5, ch, ms, vl, hd9⟩ := f9
    replace hfh : hd9 = false := hfh
    subst hfh
    try dsimp only at H
    replace hfv : vfF (⟨s0, s1, s2, s3, s4, s5, kd, dt, ck, fx, ws, fs⟩ : Mm) (dt + ck) (⟨k, p0, p1, p2, p3, p4, p5, ch, ms, vl, false⟩ : Fa) = true := hfv
    have hcr := vf_ch hfv
    obtain ⟨N, hN⟩ : ∃ N : Nat, (N : Int) = dt + ck := ⟨(dt + ck).toNat, by have := HRG.out; omega⟩
    have hN2 : (dt + ck).toNat = N := by omega
    obtain ⟨cN, hcN⟩ : ∃ c : Nat, ch = c := ⟨ch.toNat, by have := hcr.1; dsimp only at this; omega⟩
    subst hcN
    have HCN := Lib.hid (show cN < N by have := hcr.2; dsimp only at this; omega)
    obtain ⟨vs, hvs⟩ : ∃ vs, vs = flipL N cN ms (covM (⟨s0, s1, s2, s3, s4, s5, kd, dt, ck, fx, ws, fs⟩ : Mm) (⟨k, p0, p1, p2, p3, p4, p5, (cN : Int), ms, vl, false⟩ : Fa)) ws := ⟨_, rfl⟩
    have hGW : GoodWs (szM (⟨s0, s1, s2, s3, s4, s5, kd, dt, ck, fx, ws, fs⟩ : Mm)) N ws := by have := HG.out.ws; dsimp only at this; rwa [hN2] at this
    have hGV : GoodWs (szM (⟨s0, s1, s2, s3, s4, s5, kd, dt, ck, fx, ws, fs⟩ : Mm)) N vs := by rw [hvs]; exact hGW.flip _ _ _ (covM_lt (⟨s0, s1, s2, s3, s4, s5, kd, dt, ck, fx, ws, fs⟩ : Mm) (⟨k, p0, p1, p2, p3, p4, p5, (cN : Int), ms, vl, false⟩ : Fa))
    have hGX : GoodM (⟨s0, s1, s2, s3, s4, s5, kd, dt, ck, fx, vs, fs⟩ : Mm) := HG.out.setWs (vs := vs) (by show GoodWs (szM (⟨s0, s1, s2, s3, s4, s5, kd, dt, ck, fx, ws, fs⟩ : Mm)) (dt + ck).toNat vs; rw [hN2]; exact hGV)
    have hi1 : injF (⟨s0, s1, s2, s3, s4, s5, kd, dt, ck, fx, ws, fs⟩ : Mm) (⟨k, p0, p1, p2, p3, p4, p5, (cN : Int), ms, vl, false⟩ : Fa) = ((⟨s0, s1, s2, s3, s4, s5, kd, dt, ck, fx, vs, fs⟩ : Mm), 0) := by
      have h9 := injF_soft HG.out hfv rfl
      dsimp only [setWs] at h9
      rw [hN2, ← hvs] at h9
      exact h9
    have hi2 : injF (⟨s0, s1, s2, s3, s4, s5, kd, dt, ck, fx, vs, fs⟩ : Mm) (⟨k, p0, p1, p2, p3, p4, p5, (cN : Int), ms, vl, false⟩ : Fa) = ((⟨s0, s1, s2, s3, s4, s5, kd, dt, ck, fx, ws, fs⟩ : Mm), 0) := by
      have h9 := injF_soft hGX (f := (⟨k, p0, p1, p2, p3, p4, p5, (cN : Int), ms, vl, false⟩ : Fa)) hfv rfl
      have h8 : flipL N cN ms (covM (⟨s0, s1, s2, s3, s4, s5, kd, dt, ck, fx, vs, fs⟩ : Mm) (⟨k, p0, p1, p2, p3, p4, p5, (cN : Int), ms, vl, false⟩ : Fa)) vs = ws := by
        rw [show covM (⟨s0, s1, s2, s3, s4, s5, kd, dt, ck, fx, vs, fs⟩ : Mm) (⟨k, p0, p1, p2, p3, p4, p5, (cN : Int), ms, vl, false⟩ : Fa) = covM (⟨s0, s1, s2, s3, s4, s5, kd, dt, ck, fx, ws, fs⟩ : Mm) (⟨k, p0, p1, p2, p3, p4, p5, (cN : Int), ms, vl, false⟩ : Fa) from rfl, hvs]
        exact flip_twice hGW HBW.out (by show cN < N; exact HCN.out) (covM_nd (⟨s0, s1, s2, s3, s4, s5, kd, dt, ck, fx, ws, fs⟩ : Mm) (⟨k, p0, p1, p2, p3, p4, p5, (cN : Int), ms, vl, false⟩ : Fa)) (covM_lt (⟨s0, s1, s2, s3, s4, s5, kd, dt, ck, fx, ws, fs⟩ : Mm) (⟨k, p0, p1, p2, p3, p4, p5, (cN : Int), ms, vl, false⟩ : Fa))
      dsimp only [setWs] at h9
      rw [hN2, h8] at h9
      exact h9
    have HSM1 := Lib.hid (HG.out.small (Nat.le_trans HZ.out (by decide)))
    have HSM2 := Lib.hid (hGX.small (Nat.le_trans (show szM (⟨s0, s1, s2, s3, s4, s5, kd, dt, ck, fx, vs, fs⟩ : Mm) ≤ 64 from HZ.out) (by decide)))
    have HI1 := Lib.hid (fun (x y : Sv) wx hn hx => (show Calls Tryd.prog 15 #[meV (⟨s0, s1, s2, s3, s4, s5, kd, dt, ck, fx, ws, fs⟩ : Mm) x y, .agg #[.int .i64 k, .int .i64 p0, .int .i64 p1, .int .i64 p2, .int .i64 p3, .int .i64 p4, .int .i64 p5, .int .i64 (cN : Nat), .int .u8 ms, .int .u8 vl, .bool false]] wx (GivesMeE (⟨s0, s1, s2, s3, s4, s5, kd, dt, ck, fx, vs, fs⟩ : Mm) 0 wx) from by
      have h9 := cinject_any (⟨s0, s1, s2, s3, s4, s5, kd, dt, ck, fx, ws, fs⟩ : Mm) x y HSM1.out (⟨k, p0, p1, p2, p3, p4, p5, (cN : Int), ms, vl, false⟩ : Fa) wx hn hx
      rw [hi1] at h9
      exact h9))
    have HI2 := Lib.hid (fun (x y : Sv) wx hn hx => (show Calls Tryd.prog 15 #[meV (⟨s0, s1, s2, s3, s4, s5, kd, dt, ck, fx, vs, fs⟩ : Mm) x y, .agg #[.int .i64 k, .int .i64 p0, .int .i64 p1, .int .i64 p2, .int .i64 p3, .int .i64 p4, .int .i64 p5, .int .i64 (cN : Nat), .int .u8 ms, .int .u8 vl, .bool false]] wx (GivesMeE (⟨s0, s1, s2, s3, s4, s5, kd, dt, ck, fx, ws, fs⟩ : Mm) 0 wx) from by
      have h9 := cinject_any (⟨s0, s1, s2, s3, s4, s5, kd, dt, ck, fx, vs, fs⟩ : Mm) x y HSM2.out (⟨k, p0, p1, p2, p3, p4, p5, (cN : Int), ms, vl, false⟩ : Fa) wx hn hx
      rw [hi2] at h9
      exact h9))
    obtain ⟨sz9, hZ⟩ : ∃ z : Nat, z = sizeN s0 s1 s2 s3 s4 s5 := ⟨_, rfl⟩
    have hz64 : sz9 ≤ 64 := by rw [hZ]; exact HZ.out
    have hz1 : 1 ≤ sz9 := by
      have h1 := sizeN_yes HSV.out
      have h2 : (0 : Int) < 2 ^ (s0 + s1 + s2 + s3 + s4 + s5).toNat := Int.pow_pos (by decide)
      omega
    have HSZ := Lib.hid (fun w => show Calls Tryd.prog 17 #[.agg #[.int .i64 s0, .int .i64 s1, .int .i64 s2, .int .i64 s3, .int .i64 s4, .int .i64 s5]] w (Gives (.int .i64 sz9) w) from by rw [hZ]; exact rsize_all s0 s1 s2 s3 s4 s5 w)
    have M1 := Lib.hid (fun w => gives_of (mod_any index (sz9 : Int) w))
    have hmx : Nextly (sz9 : Int) (modF index sz9) := modF_nextly (by omega)
    generalize modF index (sz9 : Int) = i9 at M1 hmx
    have hi0 : 0 ≤ i9 := hmx.1
    have hiz : i9 < sz9 := hmx.lt (by omega)
    obtain ⟨i, rfl⟩ : ∃ n : Nat, i9 = n := ⟨i9.toNat, by omega⟩
    have hir : 0 ≤ (i : Int) ∧ (i : Int) < szM (⟨s0, s1, s2, s3, s4, s5, kd, dt, ck, fx, ws, fs⟩ : Mm) := ⟨hi0, by show (i : Int) < (sizeN s0 s1 s2 s3 s4 s5 : Nat); rw [← hZ]; exact hiz⟩
    have hsa : storedF (⟨s0, s1, s2, s3, s4, s5, kd, dt, ck, fx, ws, fs⟩ : Mm) i = (lookW N ws i, 0) := by unfold storedF; rw [goodB_iff.2 HG.out, if_pos rfl, if_pos hir]; show (lookW (dt + ck).toNat ws i, (0 : Int)) = _; rw [hN2]
    have hsb : storedF (⟨s0, s1, s2, s3, s4, s5, kd, dt, ck, fx, vs, fs⟩ : Mm) i = (lookW N vs i, 0) := by unfold storedF; rw [goodB_iff.2 hGX, if_pos rfl, if_pos hir]; show (lookW (dt + ck).toNat vs i, (0 : Int)) = _; rw [hN2]
    have HSA := Lib.hid (fun (x y : Sv) wx hn hx => (show Calls Tryd.prog 19 #[meV (⟨s0, s1, s2, s3, s4, s5, kd, dt, ck, fx, ws, fs⟩ : Mm) x y, .int .i64 (i : Nat)] wx (GivesCwRE (lookW N ws i) 0 wx) from by
      have h9 := cstored_any (⟨s0, s1, s2, s3, s4, s5, kd, dt, ck, fx, ws, fs⟩ : Mm) x y HSM1.out i wx hn hx
      rw [hsa] at h9
      exact h9))
    have HSB := Lib.hid (fun (x y : Sv) wx hn hx => (show Calls Tryd.prog 19 #[meV (⟨s0, s1, s2, s3, s4, s5, kd, dt, ck, fx, vs, fs⟩ : Mm) x y, .int .i64 (i : Nat)] wx (GivesCwRE (lookW N vs i) 0 wx) from by
      have h9 := cstored_any (⟨s0, s1, s2, s3, s4, s5, kd, dt, ck, fx, vs, fs⟩ : Mm) x y HSM2.out i wx hn hx
      rw [hsb] at h9
      exact h9))
    have hlk : lookW N vs i = if cvF (⟨s0, s1, s2, s3, s4, s5, kd, dt, ck, fx, ws, fs⟩ : Mm) (⟨k, p0, p1, p2, p3, p4, p5, (cN : Int), ms, vl, false⟩ : Fa) i = true then xorAt cN ms (lookW N ws i) else lookW N ws i := by
      rw [hvs, hGW.look_flip cN ms (covM (⟨s0, s1, s2, s3, s4, s5, kd, dt, ck, fx, ws, fs⟩ : Mm) (⟨k, p0, p1, p2, p3, p4, p5, (cN : Int), ms, vl, false⟩ : Fa)) (covM_nd (⟨s0, s1, s2, s3, s4, s5, kd, dt, ck, fx, ws, fs⟩ : Mm) (⟨k, p0, p1, p2, p3, p4, p5, (cN : Int), ms, vl, false⟩ : Fa)) (covM_lt (⟨s0, s1, s2, s3, s4, s5, kd, dt, ck, fx, ws, fs⟩ : Mm) (⟨k, p0, p1, p2, p3, p4, p5, (cN : Int), ms, vl, false⟩ : Fa)) i]
      have hm : (i ∈ covM (⟨s0, s1, s2, s3, s4, s5, kd, dt, ck, fx, ws, fs⟩ : Mm) (⟨k, p0, p1, p2, p3, p4, p5, (cN : Int), ms, vl, false⟩ : Fa)) ↔ (cvF (⟨s0, s1, s2, s3, s4, s5, kd, dt, ck, fx, ws, fs⟩ : Mm) (⟨k, p0, p1, p2, p3, p4, p5, (cN : Int), ms, vl, false⟩ : Fa) i = true) := ⟨fun h => (List.mem_filter.1 h).2, fun h => List.mem_filter.2 ⟨List.mem_range.2 (by have := hir.2; omega), h⟩⟩
      by_cases h : cvF (⟨s0, s1, s2, s3, s4, s5, kd, dt, ck, fx, ws, fs⟩ : Mm) (⟨k, p0, p1, p2, p3, p4, p5, (cN : Int), ms, vl, false⟩ : Fa) i = true
      · rw [if_pos (hm.2 h), if_pos h]
      · rw [if_neg (fun h9 => h (hm.1 h9)), if_neg h]
    obtain ⟨q0, q1, q2, q3, q4, q5, hat⟩ : ∃ q0 q1 q2 q3 q4 q5, atF s0 s1 s2 s3 s4 s5 (i : Int) = ⟨q0, q1, q2, q3, q4, q5⟩ := ⟨_, _, _, _, _, _, rfl⟩
    have HAT := Lib.hid (fun w => (show Calls Tryd.prog 18 #[.agg #[.int .i64 s0, .int .i64 s1, .int .i64 s2, .int .i64 s3, .int .i64 s4, .int .i64 s5], .int .i64 (i : Nat)] w (Gives (.tuple #[v6 q0 q1 q2 q3 q4 q5, .int .i64 0]) w) from by
      have h9 := at_is (i := (i : Int)) HSV.out hir.1 (by rw [← sizeN_yes HSV.out]; exact hir.2) w
      rw [hat] at h9
      exact h9))
    have HCV := Lib.hid (fun w hn => (show Calls Tryd.prog 22 #[.agg #[.int .i64 k, .int .i64 p0, .int .i64 p1, .int .i64 p2, .int .i64 p3, .int .i64 p4, .int .i64 p5, .int .i64 (cN : Nat), .int .u8 ms, .int .u8 vl, .bool false], .agg #[.int .i64 q0, .int .i64 q1, .int .i64 q2, .int .i64 q3, .int .i64 q4, .int .i64 q5]] w (Gives (.bool (cvF (⟨s0, s1, s2, s3, s4, s5, kd, dt, ck, fx, ws, fs⟩ : Mm) (⟨k, p0, p1, p2, p3, p4, p5, (cN : Int), ms, vl, false⟩ : Fa) i)) w) from by rw [cvF_eq (M := (⟨s0, s1, s2, s3, s4, s5, kd, dt, ck, fx, ws, fs⟩ : Mm)) hat]; exact covers_all k p0 p1 p2 p3 p4 p5 cN ms vl q0 q1 q2 q3 q4 q5 false w hn))
    have hbl : (lookW N ws i).bs.length = N := hGW.look_len i
    generalize lookW N vs i = m8 at HSB hlk
    generalize lookW N ws i = m9 at HSA hlk hbl
    generalize cvF (⟨s0, s1, s2, s3, s4, s5, kd, dt, ck, fx, ws, fs⟩ : Mm) (⟨k, p0, p1, p2, p3, p4, p5, (cN : Int), ms, vl, false⟩ : Fa) i = c9 at HCV hlk
    obtain ⟨wi, bs, po⟩ := m9
    obtain ⟨vi, cs, vp⟩ := m8
    have HLK := Lib.hid hlk
    have HBN := Lib.hid (show bs.length = N from hbl)
    have HN40 := Lib.hid (show N ≤ 40 by have := HRG.out; omega)
    have HSM := Lib.hid (fun (x y u v : Sv) wx hx hy => (show Calls Tryd.prog 20 #[meV (⟨s0, s1, s2, s3, s4, s5, kd, dt, ck, fx, ws, fs⟩ : Mm) x y, meV (⟨s0, s1, s2, s3, s4, s5, kd, dt, ck, fx, ws, fs⟩ : Mm) u v] wx (Gives (.bool true) wx) from by
      have h9 := same13_any (⟨s0, s1, s2, s3, s4, s5, kd, dt, ck, fx, ws, fs⟩ : Mm) (⟨s0, s1, s2, s3, s4, s5, kd, dt, ck, fx, ws, fs⟩ : Mm) x y u v HSM1.out.long HSM1.out.long wx hx hy
      rw [decide_eq_true rfl] at h9
      exact h9))
    have HVX := Lib.hid (fun (x y : Sv) wx hn hx => (show Calls Tryd.prog 21 #[meV (⟨s0, s1, s2, s3, s4, s5, kd, dt, ck, fx, vs, fs⟩ : Mm) x y] wx (Gives (.bool true) wx) from by
      have h9 := cvalid13_any (⟨s0, s1, s2, s3, s4, s5, kd, dt, ck, fx, vs, fs⟩ : Mm) x y HSM2.out.long wx hn hx
      rw [goodB_iff.2 hGX] at h9
      exact h9))
    clear hfv hcr hN hN2 hvs hGW hGV hGX hi1 hi2 hZ hz1 hz64 hmx hi0 hiz hir hsa hsb hlk hat hbl HG HBW HSM1 HSM2
    try clear C
    try simp only [World.size_alloc, List.nil_append, List.cons_append, List.append_assoc] at H
    have C := H.cells
    try simp only [cellsOf, cellsM, apartOf, apartM, and_true] at C
    go_wp2_with fail
    refine (HI1.out ⟨pa, pn, pc⟩ ⟨ra, rn, rc⟩ _ (HNm.out.below H.done) (meAt_of (m := (⟨s0, s1, s2, s3, s4, s5, kd, dt, ck, fx, ws, fs⟩ : Mm)) HQM.out (H.says 1 rfl))).mono ?_
    rintro _ w62 ⟨⟨pb, pm, pd⟩, ⟨rb, rm, rd⟩, qx, Fx, hqx, rfl, K0⟩
    replace H := H.join K0 (one_low rfl)
    clear K0
    try simp only [List.nil_append, List.cons_append] at H
    skip
    try clear C
    try simp only [World.size_alloc, List.nil_append, List.cons_append, List.append_assoc] at H
    have C := H.cells
    try simp only [cellsOf, cellsM, apartOf, apartM, and_true] at C
    try dsimp only [meV] at H ⊢
    try dsimp only [meV]
    have HQX := Lib.hid hqx
    clear hqx HI1
    go_upto_region 7 with fail
    generalize hwb : w62.alloc _ = w6
    replace H := HS.eqW hwb H.alloc
    try simp only [World.size_alloc, List.nil_append, List.cons_append, List.append_assoc] at H
    clear hwb
    generalize w62.heap.size = b8 at H ⊢
    try clear C
    try clear w62
    have C := H.cells
    try simp only [cellsOf, cellsM, apartOf, apartM, and_true] at C
    go_wp2_with fail
    refine (HI2.out ⟨pb, pm, pd⟩ ⟨rb, rm, rd⟩ _ (HNm.out.below H.done) (meAt_of (m := (⟨s0, s1, s2, s3, s4, s5, kd, dt, ck, fx, vs, fs⟩ : Mm)) HQX.out (H.says 4 rfl))).mono ?_
    rintro _ w63 ⟨⟨pe, pk, pf⟩, ⟨re, rk, rf⟩, qy, Fy, hqy, rfl, K0⟩
    replace H := H.join K0 (one_low rfl)
    clear K0
    try simp only [List.nil_append, List.cons_append] at H
    skip
    try clear C
    try simp only [World.size_alloc, List.nil_append, List.cons_append, List.append_assoc] at H
    have C := H.cells
    try simp only [cellsOf, cellsM, apartOf, apartM, and_true] at C
    try dsimp only [meV] at H ⊢
    try dsimp only [meV]
    have HQY := Lib.hid hqy
    clear hqy HI2
    go_upto_region 8 with fail
    generalize hwb : w63.alloc _ = w7
    replace H := HS.eqW hwb H.alloc
    try simp only [World.size_alloc, List.nil_append, List.cons_append, List.append_assoc] at H
    clear hwb
    generalize w63.heap.size = b10 at H ⊢
    try clear C
    try clear w63
    have C := H.cells
    try simp only [cellsOf, cellsM, apartOf, apartM, and_true] at C
    go_wp2_with fail
    refine (HSZ.out _).mono ?_
    rintro _ w8 ⟨rfl, hb⟩
    replace H := H.below hb
    clear hb
    try clear C
    try simp only [World.size_alloc, List.nil_append, List.cons_append, List.append_assoc] at H
    try clear w7
    have C := H.cells
    try simp only [cellsOf, cellsM, apartOf, apartM, and_true] at C
    dsimp only
    go_wp2_with fail
    refine (M1.out _).mono ?_
    rintro _ w9 ⟨rfl, hb⟩
    replace H := H.below hb
    clear hb
    try clear C
    try simp only [World.size_alloc, List.nil_append, List.cons_append, List.append_assoc] at H
    try clear w8
    have C := H.cells
    try simp only [cellsOf, cellsM, apartOf, apartM, and_true] at C
    dsimp only
    clear HSZ M1
    go_wp2_with fail
    refine (HAT.out _).mono ?_
    rintro _ w10 ⟨rfl, hb⟩
    replace H := H.below hb
    clear hb
    try clear C
    try simp only [World.size_alloc, List.nil_append, List.cons_append, List.append_assoc] at H
    try clear w9
    have C := H.cells
    try simp only [cellsOf, cellsM, apartOf, apartM, and_true] at C
    dsimp only
    clear HAT
    go_upto_region 10 with fail
    generalize hwb : w10.alloc _ = w11
    replace H := HS.eqW hwb H.alloc
    try simp only [World.size_alloc, List.nil_append, List.cons_append, List.append_assoc] at H
    clear hwb
    generalize w10.heap.size = b13 at H ⊢
    try clear C
    try clear w10
    have C := H.cells
    try simp only [cellsOf, cellsM, apartOf, apartM, and_true] at C
    go_wp2_with fail
    refine (HSA.out ⟨pa, pn, pc⟩ ⟨ra, rn, rc⟩ _ (HNm.out.below H.done) (meAt_of (m := (⟨s0, s1, s2, s3, s4, s5, kd, dt, ck, fx, ws, fs⟩ : Mm)) HQM.out (H.says 1 rfl))).mono ?_
    rintro _ w64 ⟨sz, cz, rfl, K0⟩
    replace H := H.join K0 (one_low rfl)
    clear K0
    try simp only [List.nil_append, List.cons_append] at H
    skip
    try clear C
    try simp only [World.size_alloc, List.nil_append, List.cons_append, List.append_assoc] at H
    have C := H.cells
    try simp only [cellsOf, cellsM, apartOf, apartM, and_true] at C
    try dsimp only [meV] at H ⊢
    try dsimp only [meV]
    try dsimp only at H ⊢
    clear HSA
    go_upto_region 11 with fail
    generalize hwb : w64.alloc _ = w12
    replace H := HS.eqW hwb H.alloc
    try simp only [World.size_alloc, List.nil_append, List.cons_append, List.append_assoc] at H
    clear hwb
    generalize w64.heap.size = b15 at H ⊢
    try clear C
    try clear w64
    have C := H.cells
    try simp only [cellsOf, cellsM, apartOf, apartM, and_true] at C
    go_wp2_with fail
    refine (HSB.out ⟨pb, pm, pd⟩ ⟨rb, rm, rd⟩ _ (HNm.out.below H.done) (meAt_of (m := (⟨s0, s1, s2, s3, s4, s5, kd, dt, ck, fx, vs, fs⟩ : Mm)) HQX.out (H.says 4 rfl))).mono ?_
    rintro _ w65 ⟨sy, cy, rfl, K0⟩
    replace H := H.join K0 (one_low rfl)
    clear K0
    try simp only [List.nil_append, List.cons_append] at H
    skip
    try clear C
    try simp only [World.size_alloc, List.nil_append, List.cons_append, List.append_assoc] at H
    have C := H.cells
    try simp only [cellsOf, cellsM, apartOf, apartM, and_true] at C
    try dsimp only [meV] at H ⊢
    try dsimp only [meV]
    try dsimp only at H ⊢
    clear HSB
    go_upto_region 12 with fail
    generalize hwb : w65.alloc _ = w13
    replace H := HS.eqW hwb H.alloc
    try simp only [World.size_alloc, List.nil_append, List.cons_append, List.append_assoc] at H
    clear hwb
    generalize w65.heap.size = b17 at H ⊢
    try clear C
    try clear w65
    have C := H.cells
    try simp only [cellsOf, cellsM, apartOf, apartM, and_true] at C
    have hlc : ¬ (bs.length : Int) ≤ (cN : Nat) := by have := HBN.out; have := HCN.out; omega
    go_wp2_with fail
    refine (awake13_any _ (HNm.out.below H.done)).mono ?_
    rintro _ w14 ⟨rfl, hb⟩
    replace H := H.below hb
    clear hb
    try clear C
    try simp only [World.size_alloc, List.nil_append, List.cons_append, List.append_assoc] at H
    try clear w13
    have C := H.cells
    try simp only [cellsOf, cellsM, apartOf, apartM, and_true] at C
    dsimp only
    go_wp2_with fail
    refine (HSM.out ⟨pa, pn, pc⟩ ⟨ra, rn, rc⟩ ⟨pe, pk, pf⟩ ⟨re, rk, rf⟩ _ (meAt_of (m := (⟨s0, s1, s2, s3, s4, s5, kd, dt, ck, fx, ws, fs⟩ : Mm)) HQM.out (H.says 1 rfl)) (meAt_of (m := (⟨s0, s1, s2, s3, s4, s5, kd, dt, ck, fx, ws, fs⟩ : Mm)) HQY.out (H.says 6 rfl))).mono ?_
    rintro _ w15 ⟨rfl, hb⟩
    replace H := H.below hb
    clear hb
    try clear C
    try simp only [World.size_alloc, List.nil_append, List.cons_append, List.append_assoc] at H
    try clear w14
    have C := H.cells
    try simp only [cellsOf, cellsM, apartOf, apartM, and_true] at C
    dsimp only
    go_wp2_with fail
    refine (HVX.out ⟨pb, pm, pd⟩ ⟨rb, rm, rd⟩ _ (HNm.out.below H.done) (meAt_of (m := (⟨s0, s1, s2, s3, s4, s5, kd, dt, ck, fx, vs, fs⟩ : Mm)) HQX.out (H.says 4 rfl))).mono ?_
    rintro _ w16 ⟨rfl, hb⟩
    replace H := H.below hb
    clear hb
    try clear C
    try simp only [World.size_alloc, List.nil_append, List.cons_append, List.append_assoc] at H
    try clear w15
    have C := H.cells
    try simp only [cellsOf, cellsM, apartOf, apartM, and_true] at C
    dsimp only
    clear HSM HVX
    go_wp2_with fail
    refine (HCV.out _ (HNm.out.below H.done)).mono ?_
    rintro _ w17 ⟨rfl, hb⟩
    replace H := H.below hb
    clear hb
    try clear C
    try simp only [World.size_alloc, List.nil_append, List.cons_append, List.append_assoc] at H
    try clear w16
    have C := H.cells
    try simp only [cellsOf, cellsM, apartOf, apartM, and_true] at C
    dsimp only
    clear HCV
    skip
    cases c9 with
    | false =>
      obtain ⟨rfl, rfl, rfl⟩ : vi = wi ∧ cs = bs ∧ vp = po := by have h9 := HLK.out; rw [if_neg (by decide)] at h9; injection h9 with h1 h2 h3; exact ⟨h1, h2, h3⟩
      have HSW := Lib.hid (fun wx hx hy => (show Calls Tryd.prog 23 #[.agg #[.int .i64 vi, .slice sz cs.length cz, .bool vp], .agg #[.int .i64 vi, .slice sy cs.length cy, .bool vp]] wx (Gives (.bool true) wx) from by
        have h9 := sameWord13_any ⟨vi, cs, vp⟩ ⟨vi, cs, vp⟩ ⟨sz, cs.length, cz⟩ ⟨sy, cs.length, cy⟩ (by have := HBN.out; have := HN40.out; show cs.length ≤ _; omega) (by have := HBN.out; have := HN40.out; show cs.length ≤ _; omega) wx hx hy
        rw [decide_eq_true rfl] at h9
        exact h9))
      go_wp2_with fail
      refine (HSW.out _ (bytes_row rfl (H.at 9 rfl)) (bytes_row rfl (H.at 11 rfl))).mono ?_
      rintro _ w18 ⟨rfl, hb⟩
      replace H := H.below hb
      clear hb
      try clear C
      try simp only [World.size_alloc, List.nil_append, List.cons_append, List.append_assoc] at H
      try clear w17
      have C := H.cells
      try simp only [cellsOf, cellsM, apartOf, apartM, and_true] at C
      dsimp only
      go_wp2_with fail
      go_ret
      exact ⟨rfl, H.done⟩
    | true =>
      skip
      have hlk : (⟨vi, cs, vp⟩ : Wm) = ⟨wi, bs.set cN (xorB bs[cN]! ms), po⟩ := by have h9 := HLK.out; rw [if_pos rfl] at h9; exact h9
      injection hlk with hv1 hv2 hv3
      subst hv1 hv3
      obtain ⟨g8, c8, hv, -, -⟩ := World.ownsRow.form (H.at 9 rfl) (by have := HBN.out; have := HCN.out; omega)
      obtain ⟨rfl, -, rfl⟩ := Value.slice.inj hv
      clear hv
      have hbc : cN < bs.length := by have := HBN.out; have := HCN.out; omega
      have HVB := Lib.hid (show (bs.flatMap bC1)[cN]? = some (.int .u8 bs[cN]!) from by have := flat_get bC1_len bs cN 0 _ hbc rfl; simpa using this)
      have HBS := Lib.hid (by_set bs cN (xorB bs[cN]! ms))
      generalize bs[cN]! = vb at HVB HBS hv2
      have hcbi : (cN : Int) < bs.length := by omega
      go_upto_region 15 with fail
      refine wp_region_zH (by kernel_rfl) (by kernel_rfl) (by kernel_rfl) (by kernel_rfl) (by kernel_rfl) (by dsimp only [List.dropLast]) rfl (fun w => (∀ o, w.cell? ⟨b15, o, none⟩ = [Value.int .i64 vi, .slice (some ⟨g8, 0, none⟩) bs.length cz, .bool vp][o]?) ∧ (∀ o, w.cell? ⟨b7, o, none⟩ = [Value.int .i64 k, .int .i64 p0, .int .i64 p1, .int .i64 p2, .int .i64 p3, .int .i64 p4, .int .i64 p5, .int .i64 (cN : Nat), .int .u8 ms, .int .u8 vl, .bool false][o]?) ∧ w.cell? ⟨g8, cN, none⟩ = some (.int .u8 vb)) (H) (fun w0 H _ => ⟨fun o => (Blk.cell (H.at 10 rfl) o).trans (by simp), fun o => (Blk.cell (H.at 3 rfl) o).trans (by simp), (World.ownsRow.cellAt (H.at 9 rfl) cN (by omega)).trans HVB.out⟩) ?_
      clear H; intro w19 h0 H hz0
      try clear C
      try simp only [World.size_alloc, List.nil_append, List.cons_append, List.append_assoc] at H hz0
      clear hz0
      try clear w17
      have C := H.cells
      try simp only [cellsOf, cellsM, apartOf, apartM, and_true] at C
      repeat (first | (refine wpX_skip rfl ?_; go_simp) | (refine wpX_free rfl rfl rfl (fun K hK => ?_); go_step; refine hK _ _ ?_; clear hK K))
      (refine wpX_yield rfl rfl (.slice (some ⟨g8, 0, none⟩) bs.length cz) (fun w hw => by obtain ⟨k0, k1, k2⟩ := hw; go_simp) ?_; go_simp)
      repeat (first | (refine wpX_skip rfl ?_; go_simp) | (refine wpX_free rfl rfl rfl (fun K hK => ?_); go_step; refine hK _ _ ?_; clear hK K))
      (refine wpX_yield rfl rfl (.int .i64 (cN : Nat)) (fun w hw => by obtain ⟨k0, k1, k2⟩ := hw; go_simp) ?_; go_simp)
      repeat (first | (refine wpX_skip rfl ?_; go_simp) | (refine wpX_free rfl rfl rfl (fun K hK => ?_); go_step; refine hK _ _ ?_; clear hK K))
      (refine wpX_yield rfl rfl (.int .u8 vb) (fun w hw => by obtain ⟨k0, k1, k2⟩ := hw; go_simp) ?_; go_simp)
      repeat (first | (refine wpX_skip rfl ?_; go_simp) | (refine wpX_free rfl rfl rfl (fun K hK => ?_); go_step; refine hK _ _ ?_; clear hK K))
      (refine wpX_yield rfl rfl (.int .u8 ms) (fun w hw => by obtain ⟨k0, k1, k2⟩ := hw; go_simp) ?_; go_simp)
      repeat (first | (refine wpX_skip rfl ?_; go_simp) | (refine wpX_free rfl rfl rfl (fun K hK => ?_); go_step; refine hK _ _ ?_; clear hK K))
      (refine wpX_nil ?_; go_step)
      have hkf := (H.rowCells 9 rfl cN (by omega)).2
      have hkc := (H.rowCells 9 rfl cN (by omega)).1.trans HVB.out
      go_upto_region 16 with fail
      generalize hwb : World.setCell w19 _ _ = w84
      have H0 := HS.eqW hwb (H.rowSet 9 rfl cN (.int .u8 (xorB vb ms)))
      clear H C hwb hkf hkc
      simp only [List.set_cons_succ, List.set_cons_zero] at H0
      rw [HBS.out, ← hv2] at H0
      have H := H0
      clear H0
      skip
      try clear C
      try simp only [World.size_alloc, List.nil_append, List.cons_append, List.append_assoc] at H
      have C := H.cells
      try simp only [cellsOf, cellsM, apartOf, apartM, and_true] at C
      have HBL := Lib.hid (show bs.length = cs.length by rw [hv2, List.length_set])
      clear hv2 hbc
      have HSW := Lib.hid (fun wx hx hy => (show Calls Tryd.prog 23 #[.agg #[.int .i64 vi, .slice (some ⟨g8, 0, none⟩) bs.length cz, .bool vp], .agg #[.int .i64 vi, .slice sy cs.length cy, .bool vp]] wx (Gives (.bool true) wx) from by
        have h9 := sameWord13_any ⟨vi, cs, vp⟩ ⟨vi, cs, vp⟩ ⟨some ⟨g8, 0, none⟩, bs.length, cz⟩ ⟨sy, cs.length, cy⟩ (by have := HBN.out; have := HN40.out; have := HBL.out; show cs.length ≤ _; omega) (by have := HBN.out; have := HN40.out; have := HBL.out; show cs.length ≤ _; omega) wx hx hy
        rw [decide_eq_true rfl] at h9
        exact h9))
      go_wp2_with fail
      refine (HSW.out _ (bytes_row HBL.out (H.at 9 rfl)) (bytes_row rfl (H.at 11 rfl))).mono ?_
      rintro _ w20 ⟨rfl, hb⟩
      replace H := H.below hb
      clear hb
      try clear C
      try simp only [World.size_alloc, List.nil_append, List.cons_append, List.append_assoc] at H
      try clear w84
      have C := H.cells
      try simp only [cellsOf, cellsM, apartOf, apartM, and_true] at C
      dsimp only
      go_wp2_with fail
      go_ret
      exact ⟨rfl, H.done⟩
  · rw [decide_eq_false h400] at hli
    have HLI := Lib.hid hli
    clear hli
    go_enter Tryd.func3, Tryd.ntmps3
    have H := HS.start NoD w
    go_wp2_with fail
    refine (gives_of (HLI.out _)).mono ?_
    rintro _ w1 ⟨rfl, hb⟩
    replace H := H.below hb
    clear hb
    try clear C
    try simp only [World.size_alloc, List.nil_append, List.cons_append, List.append_assoc] at H
    have C := H.cells
    try simp only [cellsOf, cellsM, apartOf, apartM, and_true] at C
    dsimp only
    go_wp2_with fail
    refine (awake13_any _ (HNm.out.below H.done)).mono ?_
    rintro _ w2 ⟨rfl, hb⟩
    replace H := H.below hb
    clear hb
    try clear C
    try simp only [World.size_alloc, List.nil_append, List.cons_append, List.append_assoc] at H
    try clear w1
    have C := H.cells
    try simp only [cellsOf, cellsM, apartOf, apartM, and_true] at C
    dsimp only
    go_wp2_with fail
    go_ret
    exact ⟨rfl, H.done⟩
end Go.Proofs.YtplflpmkomeadaaDoor
