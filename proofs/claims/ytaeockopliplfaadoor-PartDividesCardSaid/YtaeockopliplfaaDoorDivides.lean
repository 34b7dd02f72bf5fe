/- The statement PartDivides: its walk. -/
import Derived.Test.YtaeockopliplfaaDoorAwake
import Derived.Test.YtaeockopliplfaaDoorShape
import Derived.Test.YtaeockopliplfaaDoorDivMath
namespace Go.Proofs.YtaeockopliplfaaDoor
set_option linter.unusedSimpArgs false
set_option linter.unusedVariables false
open Go.RowKit
set_option maxRecDepth 100000
attribute [local go_sem] lt_more ne_more ne_more'

theorem below_set {B : Nat} {u w : World} (h : Below B u w) {p : Addr} (hp : B ≤ p.block) (x : Value) : Below B u (w.setCell p x) :=
  ⟨h.os, h.tape, h.output, by simpa [World.setCell] using h.size, fun k hk => by rw [Below.heap_setCell _ _ _ _ (by omega)]; exact h.block k hk⟩

set_option maxHeartbeats 8000000 in
theorem divides_walk (sa : Option Addr) (len cap : Nat) (hl : len ≤ maxLen) (nn : Int) (w : World) (hN : Nm w) (hI : Ints w sa len) :
    Calls Tryd.prog 5 #[.slice sa len cap, .int .i64 nn] w (Gives (.bool true) w) := by
  by_cases h400 : len ≤ 400
  · have hli : ∀ w, Calls Tryd.prog 11 #[.slice sa len cap] w fun e w' => e = .returned (.bool true) ∧ w = w' := fun w => by
      have := light_any sa len cap hl w
      rwa [decide_eq_true h400] at this
    have HLI := Lib.hid hli
    have HI := Lib.hid hI
    have HN := Lib.hid hN
    obtain ⟨i0, hi, hz0, hz1, hz2⟩ := info_parts infoInt
    have HMK : Hid (∀ (w : World) (c : Nat), c ≤ 4096 → (Instr.makeSlice 22 (.int .i64 c) (.int .i64 c)).run Tryd.prog w = .ok (.slice (some ⟨w.heap.size, 0, none⟩) c c) (w.alloc (.cells (rowOf (fun _ => 0) c) 3))) := Lib.hid fun w c hc => by
      have := run_make (P := Tryd.prog) w 22 3 i0 (.int .i64 0) (by kernel_rfl) hi hz0 .i64 .i64 c c (by omega) (Int.le_refl _) (by rw [hz2]; omega) (by omega)
      rw [this, hz1]
      simp [Value.cells, made_row]
    clear hli hI hl hN hi hz0 hz1 hz2
    go_enter Tryd.func5, Tryd.ntmps5
    -- Light, Roll
    go_wp2_with (go_at_call 11; refine (HLI.out _).mono ?_; rintro _ w1 ⟨rfl, rfl⟩)
    refine (roll_any sa len cap h400 w HI.out).mono ?_
    rintro _ w1 ⟨b, rfl, hd, hB, hbb⟩
    -- Shape
    go_wp2_with fail
    refine (shape_any 6 (by decide) w.heap.size b w1 hd).mono ?_
    rintro _ w2 ⟨a0, a1, a2, a3, a4, a5, rfl, hS, hsm, hd2, hg2⟩
    replace hB := hg2.below hB hbb hB.size
    have HS := Lib.hid hS
    clear hd hg2 hd2
    -- Mod
    go_wp2_with fail
    refine (mod_any _ _ _).mono ?_
    rintro _ w4 ⟨rfl, rfl⟩
    obtain ⟨m, hm⟩ : ∃ m, m = modF nn 6 := ⟨_, rfl⟩
    have hmm := modF_in (n := nn) (m := 6) (by decide) (by decide)
    rw [← hm] at hmm ⊢
    clear hm
    have hk1 : (1 : Int) ≤ 1 + m := by omega
    have hk6 : 1 + m ≤ 6 := by omega
    have hwr : wrap64 (1 + m) = 1 + m := by unfold wrap64; omega
    -- the size
    have hp12 := pw_12 (a := a0 + a1 + a2 + a3 + a4 + a5) hS.sum
    have hp1 := pw_pos (a0 + a1 + a2 + a3 + a4 + a5)
    obtain ⟨n, hn⟩ : ∃ n : Nat, n = 2 ^ (a0 + a1 + a2 + a3 + a4 + a5).toNat := ⟨_, rfl⟩
    have hnI : (2 : Int) ^ (a0 + a1 + a2 + a3 + a4 + a5).toNat = (n : Int) := by rw [hn]; simp
    have hn12 : n ≤ 4096 := by omega
    have hn1 : 1 ≤ n := by omega
    have HNI := Lib.hid hnI
    have HNN := Lib.hid hn
    have hsz : ∀ w, Calls Tryd.prog 16 #[v6 a0 a1 a2 a3 a4 a5] w (Gives (.int .i64 n) w) := fun w => by rw [← HNI.out]; exact size_yes HS.out w
    have HSZ := Lib.hid hsz
    clear hsz hnI hn hp12 hp1 hS hsm
    have hsize2 := hB.size
    have S2 : Blk (w2.alloc (.cells #[.int .i64 a0, .int .i64 a1, .int .i64 a2, .int .i64 a3, .int .i64 a4, .int .i64 a5] 28)) w2.heap.size #[.int .i64 a0, .int .i64 a1, .int .i64 a2, .int .i64 a3, .int .i64 a4, .int .i64 a5] 28 := Blk.new w2 _ _
    go_wp2_with fail
    refine (HSZ.out _).mono ?_
    rintro _ w3 ⟨rfl, hb3⟩
    have hB3 := (hB.alloc hB.size (.cells #[.int .i64 a0, .int .i64 a1, .int .i64 a2, .int .i64 a3, .int .i64 a4, .int .i64 a5] 28)).trans (hb3.mono (by simp; omega))
    have S3 := S2.below hb3
    have cS := S3.cell
    have lS := S3.lt
    have nS := S3.ne
    have HMK3 := HMK.out w3 n hn12
    clear S2 hB hb3
    go_wp2_with fail
    have SW : Blk (w3.alloc (.cells (rowOf (fun _ => 0) n) 3)) w2.heap.size #[.int .i64 a0, .int .i64 a1, .int .i64 a2, .int .i64 a3, .int .i64 a4, .int .i64 a5] 28 := S3.alloc _
    have TW : Blk (w3.alloc (.cells (rowOf (fun _ => 0) n) 3)) w3.heap.size (rowOf (fun _ => 0) n) 3 := Blk.new w3 _ _
    have hBW : Below w.heap.size w (w3.alloc (.cells (rowOf (fun _ => 0) n) 3)) := hB3.alloc hB3.size _
    have hNW : Hid (Nm (w3.alloc (.cells (rowOf (fun _ => 0) n) 3))) := Lib.hid (HN.out.below hBW)
    clear HMK3 HMK S3 cS nS hB3 HLI HI
    generalize w3.alloc (.cells (rowOf (fun _ => 0) n) 3) = W at SW TW hBW hNW ⊢
    obtain ⟨T, hT⟩ : ∃ T, T = w3.heap.size := ⟨_, rfl⟩
    obtain ⟨s, hs⟩ : ∃ s, s = w2.heap.size := ⟨_, rfl⟩
    rw [← hT] at TW lS ⊢
    rw [← hs] at SW lS hsize2 ⊢
    clear hT hs w3 w2 w1 hbb
    obtain ⟨k, hk⟩ : ∃ k, k = 1 + m := ⟨_, rfl⟩
    rw [← hk] at hk1 hk6 ⊢
    clear hwr hmm hk
    -- the classes
    obtain ⟨r, hr⟩ : ∃ r : Nat → Nat → Bool, r = fun (i j : Nat) => covB a0 a1 a2 a3 a4 a5 k (atF a0 a1 a2 a3 a4 a5 i).a (atF a0 a1 a2 a3 a4 a5 i).b (atF a0 a1 a2 a3 a4 a5 i).c (atF a0 a1 a2 a3 a4 a5 i).d (atF a0 a1 a2 a3 a4 a5 i).e (atF a0 a1 a2 a3 a4 a5 i).f j := ⟨_, rfl⟩
    have hE : EqvB r := by rw [hr]; exact CV_eqv a0 a1 a2 a3 a4 a5 k
    have hcov : ∀ (j : Nat) (w : World), Nm w → Calls Tryd.prog 21 #[v6 a0 a1 a2 a3 a4 a5, vF k (atF a0 a1 a2 a3 a4 a5 j).a (atF a0 a1 a2 a3 a4 a5 j).b (atF a0 a1 a2 a3 a4 a5 j).c (atF a0 a1 a2 a3 a4 a5 j).d (atF a0 a1 a2 a3 a4 a5 j).e (atF a0 a1 a2 a3 a4 a5 j).f 0 1 0 false] w (GivesRow (clsL r n j) w) := fun j w hw => by
      have := covered_yes HS.out k (atF a0 a1 a2 a3 a4 a5 j).a (atF a0 a1 a2 a3 a4 a5 j).b (atF a0 a1 a2 a3 a4 a5 j).c (atF a0 a1 a2 a3 a4 a5 j).d (atF a0 a1 a2 a3 a4 a5 j).e (atF a0 a1 a2 a3 a4 a5 j).f 0 1 0 false ⟨hk1, hk6⟩ w hw
      rw [← HNN.out] at this
      rw [hr]
      exact this
    have HE := Lib.hid hE
    have HCOV := Lib.hid hcov
    clear hE hcov hr
    have TW0 : Blk W T (rowOf (gO r 0) n) 3 := by rw [rowOf_ext (g' := fun _ => 0) (fun j _ => gO_zero r j)]; exact TW
    clear TW
    go_loopw [9] (fun c wr => ∃ j : Nat, j ≤ n ∧ c = .int .i64 j ∧ Blk wr T (rowOf (gO r j) n) 3 ∧ Blk wr s #[.int .i64 a0, .int .i64 a1, .int .i64 a2, .int .i64 a3, .int .i64 a4, .int .i64 a5] 28 ∧ Below w.heap.size w wr ∧ Hid (Nm wr)) (fun c _ => n - (intOf c).toNat)
    case atStart => exact ⟨0, Nat.zero_le _, rfl, TW0, SW, hBW, hNW⟩
    case round =>
      clear TW0 SW hBW hNW
      obtain ⟨j, hj, rfl, TT, SS, hB, hNr⟩ := hrel
      obtain ⟨wo, hwo⟩ : ∃ wo : World, wo = wr := ⟨_, rfl⟩
      rw [← hwo] at TT SS hB hNr ⊢
      clear hwo wr
      have cS := SS.cell
      have zS := SS.lt
      have zT := TT.lt
      go_wp2_with fail
      refine (HSZ.out _).mono ?_
      rintro _ w4 ⟨rfl, hb4⟩
      have S4 := SS.below hb4
      have T4 := TT.below hb4
      have hB4 := hB.trans (hb4.mono hB.size)
      replace cS := S4.cell
      replace zS := S4.lt
      replace zT := T4.lt
      have hN4 := Lib.hid (hNr.out.below hb4)
      clear SS TT hB hb4 hNr
      by_cases hjn : j < n
      · have hj0 : (0 : Int) ≤ (j : Int) := by omega
        have hj1 : (j : Int) < 2 ^ (a0 + a1 + a2 + a3 + a4 + a5).toNat := by rw [HNI.out]; omega
        have hat := Lib.hid (fun w => at_is HS.out hj0 hj1 w)
        have hcv := Lib.hid (HCOV.out j)
        clear hj1
        obtain ⟨p, hp⟩ : ∃ p, p = atF a0 a1 a2 a3 a4 a5 j := ⟨_, rfl⟩
        rw [← hp] at hat hcv
        clear hp
        go_wp2_with fail
        refine (hat.out _).mono ?_
        rintro _ w5 ⟨rfl, hb5⟩
        have S5 := S4.below hb5
        have T5 := T4.below hb5
        have hB5 := hB4.trans (hb5.mono hB4.size)
        replace cS := S5.cell
        replace zS := S5.lt
        replace zT := T5.lt
        have nS := S5.ne
        have hN5 := Lib.hid (hN4.out.below hb5)
        have z5 := hb5.size
        clear S4 T4 hB4 hb5 hN4 z5
        go_wp2_with fail
        refine (hcv.out _ (hN5.out.below ((Below.refl _ _).alloc (Nat.le_refl _) _ |>.alloc (by simp) _))).mono ?_
        rintro _ w6 ⟨v, rfl, hrow, hb6⟩
        have S6 := ((S5.alloc _).alloc _).below hb6
        have T6 := ((T5.alloc _).alloc _).below hb6
        have hB6 := ((hB5.alloc hB5.size _).alloc (by have := hB5.size; simp; omega) _).trans (hb6.mono (by have := hB5.size; simp; omega))
        have hN6 := Lib.hid ((hN5.out.below ((Below.refl _ _).alloc (Nat.le_refl _) _ |>.alloc (by simp) _)).below hb6)
        replace cS := S6.cell
        have cT := T6.cell
        have T5lt : T < w5.heap.size := T5.lt
        clear S5 T5 hB5 hb6 hN5
        have hL := cls_pos HE.out hjn
        obtain ⟨g, cp, rfl, hg, hgl, hcell⟩ := hrow.at hL
        obtain ⟨x0, hx0, hx1, hx2, hx3⟩ := cls_head HE.out hjn
        have c0 := hcell 0 x0 hx0
        by_cases hxj : x0 = j
        · subst hxj
          have HCELL := Lib.hid hcell
          clear hcell
          go_wp2_with fail
          obtain ⟨q1, hq1⟩ : ∃ q1, q1 = (clsL r n x0).length := ⟨_, rfl⟩
          rw [← hq1] at hL ⊢
          have HQ := Lib.hid hq1
          have hq1n : q1 ≤ 4096 := by rw [hq1]; have := List.length_filter_le (r x0) (List.range n); simp only [List.length_range] at this; exact Nat.le_trans this hn12
          clear hq1
          have T60 : Blk w6 T (rowOf (gI r n x0 0) n) 3 := by rw [rowOf_ext (g' := gO r x0) (fun i _ => gI_zero r n x0 i)]; exact T6
          have hgne : g ≠ T := by have := T5lt; simp only [World.size_alloc] at hg; omega
          clear T6 cT
          go_loopw [14] (fun c wr => ∃ q : Nat, q ≤ q1 ∧ c = .int .i64 q ∧ Blk wr T (rowOf (gI r n x0 q) n) 3 ∧ Blk wr s #[.int .i64 a0, .int .i64 a1, .int .i64 a2, .int .i64 a3, .int .i64 a4, .int .i64 a5] 28 ∧ Below w.heap.size w wr ∧ Hid (Nm wr) ∧ Hid (∀ (i x : Nat), (clsL r n x0)[i]? = some x → wr.cell? ⟨g, i, none⟩ = some (.int .i64 x))) (fun c _ => q1 - (intOf c).toNat)
          case atStart => exact ⟨0, Nat.zero_le _, rfl, T60, S6, hB6, hN6, HCELL⟩
          case round =>
            clear T60 S6 hB6 hN6 HCELL
            obtain ⟨q, hq, rfl, T7, S7, hB7, hN7, hC7⟩ := hrel
            by_cases hqq : q < q1
            · have hqL : q < (clsL r n x0).length := by rw [← HQ.out]; exact hqq
              obtain ⟨x, hx⟩ : ∃ x, (clsL r n x0)[q]? = some x := ⟨_, List.getElem?_eq_getElem hqL⟩
              have hxn := (mem_cls.1 (List.mem_of_getElem? hx)).1
              have cx := hC7.out q x hx
              have cT := T7.cell x
              rw [rowOf_at hxn] at cT
              have fT := T7.free x
              have hgi := gI_in r n x0 q x
              go_wp2_with fail
              go_roundw
              case rel =>
                have hBs := below_set hB7 (p := ⟨T, x, none⟩) (by dsimp only; omega) (.int .i64 (gI r n x0 q x + 1))
                refine ⟨q + 1, by omega, by go_num, ?_, S7.other (p := ⟨T, x, none⟩) (by dsimp only; omega) _, hBs, Lib.hid (HN.out.below hBs), Lib.hid fun i y hy => ?_⟩
                · have hTs := T7.set x (.int .i64 (gI r n x0 q x + 1))
                  rw [rowOf_set (g' := gI r n x0 (q + 1)) (fun i _ => by rw [gI_step hx]; by_cases h : i = x <;> simp [h])] at hTs
                  exact hTs
                · rw [← hC7.out i y hy]
                  exact World.cell?_of_block (Below.heap_setCell _ _ _ _ (by dsimp only; omega))
              case measure => simp [intOf]; omega
            · have hqe : q = q1 := by omega
              subst hqe
              go_wp2_with fail
              go_roundw
              case rel =>
                refine ⟨x0 + 1, by omega, by go_num, ?_, S7, hB7, hN7⟩
                rw [HQ.out] at T7
                rw [rowOf_ext (fun i hi => gI_last HE.out hjn hx0 i hi)] at T7
                exact T7
              case measure => simp [intOf]; omega
        · clear hcell
          go_wp2_with fail
          go_roundw
          case rel =>
            refine ⟨j + 1, by omega, by go_num, ?_, S6, hB6, hN6⟩
            rw [rowOf_ext (g' := gO r j) (fun i _ => gO_skip HE.out hjn hx0 hxj i)]
            exact T6
          case measure => simp [intOf]; omega
      · have hje : j = n := by omega
        subst hje
        go_wp2_with fail
        go_loopw [15] (fun c wr => wr = w4 ∧ ∃ q : Nat, q ≤ j ∧ c = .int .i64 q) (fun c _ => j - (intOf c).toNat)
        case atStart => exact ⟨rfl, 0, Nat.zero_le _, rfl⟩
        case round =>
          obtain ⟨rfl, q, hq, rfl⟩ := hrel
          by_cases hqn : q < j
          · have cT := T4.cell q
            rw [rowOf_at hqn, gO_all HE.out hqn] at cT
            go_wp2_with fail
            go_roundw
            case rel => exact ⟨by simp, q + 1, by omega, by go_num⟩
            case measure => simp [intOf]; omega
          · go_wp2_with fail
            refine (awake09 _ hN4.out).mono ?_
            rintro _ w9 ⟨rfl, hb9⟩
            go_wp2_with fail
            go_ret
            exact ⟨rfl, hB4.trans (hb9.mono hB4.size)⟩
  · have hli : ∀ w, Calls Tryd.prog 11 #[.slice sa len cap] w fun e w' => e = .returned (.bool false) ∧ w = w' := fun w => by
      have := light_any sa len cap hl w
      rwa [decide_eq_false h400] at this
    have HLI := Lib.hid hli
    have HN := Lib.hid hN
    clear hli hI hl hN
    go_enter Tryd.func5, Tryd.ntmps5
    go_wp2_with (go_at_call 11; refine (HLI.out _).mono ?_; rintro _ w1 ⟨rfl, rfl⟩)
    refine (awake09 _ HN.out).mono ?_
    rintro _ w1 ⟨rfl, hb1⟩
    go_wp2_with fail
    go_ret
    exact ⟨rfl, hb1⟩
end Go.Proofs.YtaeockopliplfaaDoor
