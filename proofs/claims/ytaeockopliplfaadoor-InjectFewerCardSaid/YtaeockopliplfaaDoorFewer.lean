/- The statement InjectFewer: its walk. -/
import Derived.Test.YtaeockopliplfaaDoorInj6
import Derived.Test.YtaeockopliplfaaDoorMillK
import Derived.Test.YtaeockopliplfaaDoorAppR
namespace Go.Proofs.YtaeockopliplfaaDoor
set_option linter.unusedSimpArgs false
set_option linter.unusedVariables false
open Go.RowKit
set_option maxRecDepth 100000
attribute [local go_sem] lt_more ne_more ne_more'
attribute [local irreducible] wpX wpF wpG Calls

theorem HS.diceRow {D : Nat → Prop} {W w w' : World} {L : List Item} (h : HS D W L w) (i : Nat) {B b : Nat} (hi : L[i]? = some (.dice B b)) (hg : Chg b w w') (hd : Dice B w' b) {v : Value} {e : TypeId} {s n : Nat} {xs : List Value} (hr : w'.ownsRow w.heap.size e s v n xs) : HS D W (L ++ [.row v e s n xs]) w' :=
  HS.add (A := .row v e s n xs) (h.diceAt i hi hg hd) h.lts h.size (ownsRow_zero hr) (fun k hk => ownsRow_fp hr hk) ⟨Nat.zero_le _, fun k hk => absurd hk (Nat.not_lt_zero _)⟩

theorem mem_take_succ {x : Nat} {l : List Nat} {i : Nat} (h : i < l.length) : (x ∈ l.take (i + 1)) = (x ∈ l.take i ∨ x = l[i]!) := by
  rw [List.take_add_one, List.getElem?_eq_getElem h, getElem!_pos l i h, List.mem_append]; simp
theorem wB_sub {a0 a1 a2 a3 a4 a5 kd dt ck fx : Int} {ys xs : List St} (h : ys.Sublist xs) (hx : wB a0 a1 a2 a3 a4 a5 kd dt ck fx xs = true) : wB a0 a1 a2 a3 a4 a5 kd dt ck fx ys = true := by
  unfold wB at hx ⊢
  rw [Bool.and_eq_true, List.all_eq_true] at hx ⊢
  exact ⟨okS_sub h hx.1, fun i hi => okM_sub h _ _ _ _ (hx.2 i hi)⟩
theorem row_ptr2 {w : World} {B k n c : Nat} {e : TypeId} {sa : Option Addr} {cs : List Value} (h : w.ownsRow B e k (.slice sa n c) n cs) (hn : 0 < n) : ∃ g, sa = some ⟨g, 0, none⟩ ∧ g < w.heap.size ∧ n ≤ c := by
  rcases h.2 with ⟨h2, h3⟩ | ⟨g, cap, cur, hv, hg, hh, r⟩
  · omega
  · injection hv with e1 e2 e3
    subst e3
    exact ⟨g, e1, lt_of_heap hh, r.1⟩

set_option maxHeartbeats 16000000 in
theorem fewer_walk (sa : Option Addr) (len cap : Nat) (hl : len ≤ maxLen) (drop index time more : Int) (w : World) (hN : Nm w) (hI : Ints w sa len) :
    Calls Tryd.prog 8 #[.slice sa len cap, .int .i64 drop, .int .i64 index, .int .i64 time, .int .i64 more] w (Gives (.bool true) w) := by
  have HI := Lib.hid hI
  have HNm := Lib.hid hN
  clear hI hN
  have hli := light_any sa len cap hl
  clear hl
  by_cases h400 : len ≤ 400
  · rw [decide_eq_true h400] at hli
    have HLI := Lib.hid hli
    clear hli
    go_enter Tryd.func8, Tryd.ntmps8
    have H := HS.start NoD w
    go_wp2_with fail
    refine (gives_of (HLI.out _)).mono ?_
    rintro _ w1 ⟨rfl, hb⟩
    replace H := H.below hb
    clear hb
    try clear C
    try simp only [World.size_alloc, List.nil_append, List.cons_append, List.append_assoc] at H
    have C := H.cells
    try simp only [cellsOf, apartOf, and_true] at C
    dsimp only
    go_wp2_with fail
    refine (roll_at w.heap.size _ _ _ h400 _ H.size (H.ints HI.out)).mono ?_
    rintro _ w2 ⟨bd, rfl, hd, hb, hbb⟩
    replace H := H.getsDice hb hd hbb (Nat.le_refl _)
    clear hb hd hbb
    try clear C
    try simp only [World.size_alloc, List.nil_append, List.cons_append, List.append_assoc] at H
    try clear w1
    have C := H.cells
    try simp only [cellsOf, apartOf, and_true] at C
    dsimp only
    go_wp2_with fail
    refine (mshape_any w.heap.size bd _ (H.at 0 rfl) H.size).mono ?_
    rintro _ w3 ⟨s0, s1, s2, s4, rfl, hM, hd, hg⟩
    replace H := (H).diceAt 0 rfl hg hd
    clear hg hd
    try clear C
    try simp only [World.size_alloc, List.nil_append, List.cons_append, List.append_assoc] at H
    try clear w2
    have C := H.cells
    try simp only [cellsOf, apartOf, and_true] at C
    dsimp only
    have HSV := Lib.hid hM.sv
    clear hM
    go_wp2_with fail
    refine (code41_any w.heap.size bd _ (H.at 0 rfl) H.size).mono ?_
    rintro _ w4 ⟨kd, dt, ck, fx, rfl, hC, hn9, hd, hg⟩
    replace H := (H).diceAt 0 rfl hg hd
    clear hg hd
    try clear C
    try simp only [World.size_alloc, List.nil_append, List.cons_append, List.append_assoc] at H
    try clear w3
    have C := H.cells
    try simp only [cellsOf, apartOf, and_true] at C
    dsimp only
    have HC := Lib.hid hC
    clear hC
    have e1 : wrap64 (dt + ck) = dt + ck := IntWalk.wrap64_in _ (by omega)
    go_wp2_with fail
    generalize hwb : (w4.alloc _).alloc _ = w5
    replace H := HS.eqW hwb H.alloc.alloc
    try simp only [World.size_alloc, List.nil_append, List.cons_append, List.append_assoc] at H
    clear hwb
    generalize w4.heap.size + 1 = bC at H ⊢
    generalize w4.heap.size = bS at H ⊢
    try clear C
    try clear w4
    have C := H.cells
    try simp only [cellsOf, apartOf, and_true] at C
    refine (strikes_any HSV.out (dt + ck) (by omega) (by omega) w.heap.size bd _ (H.at 0 rfl) H.size).mono ?_
    rintro _ ws ⟨xs, t0, c0, rfl, hr, hxl, hd, hg⟩
    replace H := H.diceRow 0 rfl hg hd hr
    clear hr hd hg
    replace H := H.nilRow 63 12
    try simp only [List.nil_append, List.cons_append, List.append_assoc] at H
    skip
    try clear C
    try simp only [World.size_alloc, List.nil_append, List.cons_append, List.append_assoc] at H
    have C := H.cells
    try simp only [cellsOf, apartOf, and_true] at C
    go_wp2_with fail
    go_loopw [15, 46] (fun u c wr => ∃ (j : Nat) (ys : List St), c = .int .i64 j ∧ j ≤ xs.length ∧ ys.Sublist (xs.take j) ∧ HS NoD w [.dice w.heap.size bd, .blk bS #[.int .i64 s0, .int .i64 s1, .int .i64 s2, .int .i64 1, .int .i64 s4, .int .i64 2] 28, .blk bC #[.int .i64 kd, .int .i64 dt, .int .i64 ck, .int .i64 fx] 58, .row (.slice t0 xs.length c0) 63 12 xs.length (xs.flatMap stC), .row u 63 12 ys.length (ys.flatMap stC)] wr) (fun _ c _ => xs.length - (intOf c).toNat)
    case atStart => exact ⟨0, [], rfl, Nat.zero_le _, List.Sublist.slnil, H⟩
    case round =>
      clear H C ws
      obtain ⟨j, ys, rfl, hj, hsub, H⟩ := hrel
      have HSUB := Lib.hid hsub
      clear hsub
      skip
      try clear C
      try simp only [World.size_alloc, List.nil_append, List.cons_append, List.append_assoc] at H
      have C := H.cells
      try simp only [cellsOf, apartOf, and_true] at C
      by_cases hlt : j < xs.length
      · obtain ⟨b, o, rfl, hb, hc⟩ := (H.rowLies 3 stC_len rfl rfl).at hlt
        obtain ⟨x, hxj⟩ : ∃ x, x = xs[j]! := ⟨_, rfl⟩
        have htk : xs.take (j + 1) = xs.take j ++ [x] := by rw [hxj, getElem!_pos xs j hlt, List.take_add_one, List.getElem?_eq_getElem hlt]; rfl
        rw [← hxj] at hc
        have HTK := Lib.hid htk
        clear htk hxj
        obtain ⟨t, k, p0, p1, p2, p3, p4, p5, ch, ms, vl, hd⟩ := x
        have c0 : wr.cell? ⟨b, o + j * 12, none⟩ = some (.int .i64 t) := hc 0 _ rfl
        have c1 : wr.cell? ⟨b, o + j * 12 + 1, none⟩ = some (.int .i64 k) := hc 1 _ rfl
        have c2 : wr.cell? ⟨b, o + j * 12 + 2, none⟩ = some (.int .i64 p0) := hc 2 _ rfl
        have c3 : wr.cell? ⟨b, o + j * 12 + 3, none⟩ = some (.int .i64 p1) := hc 3 _ rfl
        have c4 : wr.cell? ⟨b, o + j * 12 + 4, none⟩ = some (.int .i64 p2) := hc 4 _ rfl
        have c5 : wr.cell? ⟨b, o + j * 12 + 5, none⟩ = some (.int .i64 p3) := hc 5 _ rfl
        have c6 : wr.cell? ⟨b, o + j * 12 + 6, none⟩ = some (.int .i64 p4) := hc 6 _ rfl
        have c7 : wr.cell? ⟨b, o + j * 12 + 7, none⟩ = some (.int .i64 p5) := hc 7 _ rfl
        have c8 : wr.cell? ⟨b, o + j * 12 + 8, none⟩ = some (.int .i64 ch) := hc 8 _ rfl
        have c9 : wr.cell? ⟨b, o + j * 12 + 9, none⟩ = some (.int .u8 ms) := hc 9 _ rfl
        have c10 : wr.cell? ⟨b, o + j * 12 + 10, none⟩ = some (.int .u8 vl) := hc 10 _ rfl
        have c11 : wr.cell? ⟨b, o + j * 12 + 11, none⟩ = some (.bool hd) := hc 11 _ rfl
        clear hc
        have hyl : ys.length ≤ j := by have := HSUB.out.length_le; rw [List.length_take] at this; omega
        obtain ⟨md, hmd⟩ : ∃ md, md = modF drop xs.length := ⟨_, rfl⟩
        have hmc : ∀ w, Calls Tryd.prog 15 #[.int .i64 drop, .int .i64 xs.length] w (Gives (.int .i64 md) w) := fun w => by rw [hmd]; exact gives_of (mod_any _ _ _)
        have HMC := Lib.hid hmc
        clear hmc hmd
        go_wp2_with fail
        refine (HMC.out _).mono ?_
        rintro _ w6 ⟨rfl, hb⟩
        replace H := H.alloc.below hb
        clear hb
        try clear C
        try simp only [World.size_alloc, List.nil_append, List.cons_append, List.append_assoc] at H
        generalize wr.heap.size = bx at H ⊢
        try clear wr
        have C := H.cells
        try simp only [cellsOf, apartOf, and_true] at C
        dsimp only
        clear c0 c1 c2 c3 c4 c5 c6 c7 c8 c9 c10 c11 hb
        by_cases he : (j : Int) = md
        · skip
          go_wp2_with fail
          go_roundw
          case rel => exact ⟨j + 1, ys, by go_num, by omega, by rw [HTK.out]; exact HSUB.out.trans (List.sublist_append_left _ _), H.less (by repeat (first | exact .slnil | refine .cons_cons _ ?_ | refine .cons _ ?_))⟩
          case measure => simp [intOf]; omega
        · skip
          go_wp2_with (at_builtin; refine wpList_append_H rfl (.tmp 57) (.tmp 59) 60 rfl elemSt H.alloc 4 rfl rfl 6 rfl rfl rfl rfl (by decide) (by unfold maxLen; omega) (by omega) (fun g cap wz HZ => ?_); clear H C)
          have H := HZ
          clear HZ
          skip
          simp only [List.cons_append, List.nil_append, List.set_cons_succ, List.set_cons_zero] at H
          go_wp2_with fail
          go_roundw
          case rel => exact ⟨j + 1, ys ++ [⟨t, k, p0, p1, p2, p3, p4, p5, ch, ms, vl, hd⟩], by go_num, by omega, by rw [HTK.out]; exact HSUB.out.append (List.Sublist.refl _), by
            rw [List.length_append, List.flatMap_append]
            exact H.less (by repeat (first | exact .slnil | refine .cons_cons _ ?_ | refine .cons _ ?_))⟩
          case measure => simp [intOf]; omega
      · have hje : j = xs.length := by omega
        subst hje
        have hsub := HSUB.out
        rw [List.take_length] at hsub
        clear HSUB
        have HSUB := Lib.hid hsub
        clear hsub
        obtain ⟨t1, c1, rfl⟩ := ownsRow_slice (H.at 4 rfl)
        have hpw := pw_12 (a := s0 + s1 + s2 + 1 + s4 + 2) HSV.out.sum
        obtain ⟨n, hn⟩ : ∃ n : Nat, n = 2 ^ (s0 + s1 + s2 + 1 + s4 + 2).toNat := ⟨_, rfl⟩
        have hni : ((n : Nat) : Int) = 2 ^ (s0 + s1 + s2 + 1 + s4 + 2).toNat := by rw [hn]; simp
        have hn4 : 1 ≤ n ∧ n ≤ 4096 := by have := pw_pos (s0 + s1 + s2 + 1 + s4 + 2); omega
        have HSZ := Lib.hid (fun w => by have := rsize_yes HSV.out w; rw [← hni] at this; exact this : ∀ w, Calls Tryd.prog 32 #[v6 s0 s1 s2 1 s4 2] w (Gives (.int .i64 n) w))
        have hki := modF_in (n := index) (m := n) (by omega) (by omega)
        have HMI := Lib.hid (fun w => gives_of (mod_any index n w))
        generalize modF index n = ki at hki HMI
        have hat1 := modF_in (n := time) (m := 20) (by omega) (by omega)
        have HMT := Lib.hid (fun w => gives_of (mod_any time 20 w))
        generalize modF time 20 = at1 at hat1 HMT
        have hat2 := modF_in (n := more) (m := 9) (by omega) (by omega)
        have HMM := Lib.hid (fun w => gives_of (mod_any more 9 w))
        generalize modF more 9 = at2 at hat2 HMM
        have q1 : wrap64 (at1 + at2) = at1 + at2 := IntWalk.wrap64_in _ (by omega)
        have hyl : ys.length ≤ 5 := by have := HSUB.out.length_le; omega
        have HCA := Lib.hid (fun sa c w hN hl => chips_is (time := at1 + at2) HSV.out hki.1 (by rw [← hni]; exact hki.2) (sa := sa) c (xs := xs) (by omega) w hN hl)
        have HCX := Lib.hid (fun sa c w hN hl => chips_is (time := at1) HSV.out hki.1 (by rw [← hni]; exact hki.2) (sa := sa) c (xs := xs) (by omega) w hN hl)
        have HCY := Lib.hid (fun sa c w hN hl => chips_is (time := at1) HSV.out hki.1 (by rw [← hni]; exact hki.2) (sa := sa) c (xs := ys) (by omega) w hN hl)
        have hin : ∀ k ∈ chL (mkI ys (atF s0 s1 s2 1 s4 2 ki) at1) 40 ++ chL (mkI xs (atF s0 s1 s2 1 s4 2 ki) at1) 40, k ∈ chL (mkI xs (atF s0 s1 s2 1 s4 2 ki) (at1 + at2)) 40 := fun k hk => by
          rcases List.mem_append.1 hk with hk | hk
          · exact chL_mono (fun x hx => HSUB.out.subset hx) (by omega) hk
          · exact chL_mono (fun x hx => hx) (by omega) hk
        have hll := chL_len (mkI xs (atF s0 s1 s2 1 s4 2 ki) (at1 + at2)) 40
        have hla := chL_len (mkI ys (atF s0 s1 s2 1 s4 2 ki) at1) 40
        have hlb := chL_len (mkI xs (atF s0 s1 s2 1 s4 2 ki) at1) 40
        generalize chL (mkI xs (atF s0 s1 s2 1 s4 2 ki) (at1 + at2)) 40 = LL at HCA hin hll
        generalize chL (mkI ys (atF s0 s1 s2 1 s4 2 ki) at1) 40 = LA at HCY hin hla
        generalize chL (mkI xs (atF s0 s1 s2 1 s4 2 ki) at1) 40 = LB at HCX hin hlb
        have HIN := Lib.hid hin
        have HLN : Hid (LL.length ≤ 40 ∧ LA.length ≤ 40 ∧ LB.length ≤ 40) := Lib.hid ⟨hll, hla, hlb⟩
        clear hin hll hla hlb hn hni hpw
        skip
        go_wp2_with fail
        refine (HSZ.out _).mono ?_
        rintro _ w7 ⟨rfl, hb⟩
        replace H := H.below hb
        clear hb
        try clear C
        try simp only [World.size_alloc, List.nil_append, List.cons_append, List.append_assoc] at H
        try clear wr
        have C := H.cells
        try simp only [cellsOf, apartOf, and_true] at C
        dsimp only
        go_wp2_with fail
        refine (HMI.out _).mono ?_
        rintro _ w8 ⟨rfl, hb⟩
        replace H := H.below hb
        clear hb
        try clear C
        try simp only [World.size_alloc, List.nil_append, List.cons_append, List.append_assoc] at H
        try clear w7
        have C := H.cells
        try simp only [cellsOf, apartOf, and_true] at C
        dsimp only
        go_wp2_with fail
        refine (HMT.out _).mono ?_
        rintro _ w9 ⟨rfl, hb⟩
        replace H := H.below hb
        clear hb
        try clear C
        try simp only [World.size_alloc, List.nil_append, List.cons_append, List.append_assoc] at H
        try clear w8
        have C := H.cells
        try simp only [cellsOf, apartOf, and_true] at C
        dsimp only
        go_wp2_with fail
        refine wp_region_xH (by kernel_rfl) (by kernel_rfl) (by kernel_rfl) (by kernel_rfl) (fun _ => False) (H) ?_
        clear H; intro w10 H hz0 hs0
        try clear C
        try simp only [World.size_alloc, List.nil_append, List.cons_append, List.append_assoc] at H hz0
        clear hz0
        try clear w9
        have C := H.cells
        try simp only [cellsOf, apartOf, and_true] at C
        have Z := H.zs
        try simp only [ltsOf, and_true] at Z
        have hz0 := Nat.le_refl w10.heap.size
        repeat (first | (refine wpX_skip rfl ?_; go_simp) | (refine wpX_free rfl rfl rfl (fun K hK => ?_); go_step; refine hK _ _ ?_; clear hK K) | (refine wpX_load rfl rfl rfl (by simp [Stay, OneD, NoD, *]) hs0 (by simp [*]) (fun K hK => ?_); go_step; refine hK _ _ ?_; clear hK K))
        refine wpX_eff rfl rfl (fun _ _ => ?_)
        go_step
        refine (HMM.out _).mono ?_
        rintro _ w11 ⟨rfl, hb⟩
        replace hs0 := hs0.belowS hz0 hb
        replace hz0 := Nat.le_trans hz0 hb.size
        replace H := H.below hb
        clear hb
        try clear C
        have C := H.cells
        try simp only [cellsOf, apartOf, and_true] at C
        try clear w10
        dsimp only
        go_step
        refine ⟨hs0, ?_⟩
        repeat (first | (refine wpX_skip rfl ?_; go_simp) | (refine wpX_free rfl rfl rfl (fun K hK => ?_); go_step; refine hK _ _ ?_; clear hK K) | (refine wpX_load rfl rfl rfl (by simp [Stay, OneD, NoD, *]) hs0 (by simp [*]) (fun K hK => ?_); go_step; refine hK _ _ ?_; clear hK K))
        refine wpX_eff rfl rfl (fun _ _ => ?_)
        go_step
        refine (HCA.out _ _ _ (HNm.out.below H.done) (H.rowLies 3 stC_len rfl rfl)).mono ?_
        rintro _ w12 ⟨v, rfl, hr, hb⟩
        replace hs0 := hs0.belowS hz0 hb
        replace hz0 := Nat.le_trans hz0 hb.size
        replace H := H.getsRow hb hr
        clear hb hr
        try simp only [List.nil_append, List.cons_append, List.append_assoc] at H
        try clear C
        have C := H.cells
        try simp only [cellsOf, apartOf, and_true] at C
        try clear w11
        dsimp only
        go_step
        refine ⟨hs0, ?_⟩
        obtain ⟨g5, d5, rfl⟩ := ownsRow_slice (H.at 5 rfl)
        repeat (first | (refine wpX_skip rfl ?_; go_simp) | (refine wpX_free rfl rfl rfl (fun K hK => ?_); go_step; refine hK _ _ ?_; clear hK K) | (refine wpX_load rfl rfl rfl (by simp [Stay, OneD, NoD, *]) hs0 (by simp [*]) (fun K hK => ?_); go_step; refine hK _ _ ?_; clear hK K))
        (refine wpX_nil ?_; go_step)
        clear q1
        go_wp2_with fail
        refine wp_region_xH (by kernel_rfl) (by kernel_rfl) (by kernel_rfl) (by kernel_rfl) (fun _ => False) (H) ?_
        clear H; intro w13 H hz0 hs0
        try clear C
        try simp only [World.size_alloc, List.nil_append, List.cons_append, List.append_assoc] at H hz0
        clear hz0
        try clear w12
        have C := H.cells
        try simp only [cellsOf, apartOf, and_true] at C
        have Z := H.zs
        try simp only [ltsOf, and_true] at Z
        have hz0 := Nat.le_refl w13.heap.size
        repeat (first | (refine wpX_skip rfl ?_; go_simp) | (refine wpX_free rfl rfl rfl (fun K hK => ?_); go_step; refine hK _ _ ?_; clear hK K) | (refine wpX_load rfl rfl rfl (by simp [Stay, OneD, NoD, *]) hs0 (by simp [*]) (fun K hK => ?_); go_step; refine hK _ _ ?_; clear hK K))
        refine wpX_eff rfl rfl (fun _ _ => ?_)
        go_step
        refine (HCY.out _ _ _ (HNm.out.below H.done) (H.rowLies 4 stC_len rfl rfl)).mono ?_
        rintro _ w14 ⟨v, rfl, hr, hb⟩
        have hba : ∀ k, _ = some k → _ ≤ k := fun k hk => Nat.le_trans hz0 (ownsRow_base hr k hk)
        obtain ⟨g6, d6, rfl⟩ := ownsRow_slice hr
        replace hs0 := hs0.belowS hz0 hb
        replace hz0 := Nat.le_trans hz0 hb.size
        replace H := H.getsRow hb hr
        clear hb hr
        try simp only [List.nil_append, List.cons_append, List.append_assoc] at H
        try clear C
        have C := H.cells
        try simp only [cellsOf, apartOf, and_true] at C
        try clear w13
        dsimp only
        go_step
        refine ⟨hs0, ?_⟩
        repeat (first | (refine wpX_skip rfl ?_; go_simp) | (refine wpX_free rfl rfl rfl (fun K hK => ?_); go_step; refine hK _ _ ?_; clear hK K) | (refine wpX_load rfl rfl rfl (by simp [Stay, OneD, NoD, *]) hs0 (by simp [*]) (fun K hK => ?_); go_step; refine hK _ _ ?_; clear hK K))
        refine wpX_eff rfl rfl (fun _ _ => ?_)
        go_step
        refine (HCX.out _ _ _ (HNm.out.below H.done) (H.rowLies 3 stC_len rfl rfl)).mono ?_
        rintro _ w15 ⟨v, rfl, hr, hb⟩
        replace hs0 := hs0.belowS hz0 hb
        replace hz0 := Nat.le_trans hz0 hb.size
        replace H := H.getsRow hb hr
        clear hb hr
        try simp only [List.nil_append, List.cons_append, List.append_assoc] at H
        try clear C
        have C := H.cells
        try simp only [cellsOf, apartOf, and_true] at C
        try clear w14
        dsimp only
        go_step
        refine ⟨hs0, ?_⟩
        obtain ⟨g7, d7, rfl⟩ := ownsRow_slice (H.at 7 rfl)
        repeat (first | (refine wpX_skip rfl ?_; go_simp) | (refine wpX_free rfl rfl rfl (fun K hK => ?_); go_step; refine hK _ _ ?_; clear hK K) | (refine wpX_load rfl rfl rfl (by simp [Stay, OneD, NoD, *]) hs0 (by simp [*]) (fun K hK => ?_); go_step; refine hK _ _ ?_; clear hK K))
        refine wpX_appendRow_H rfl rfl (.tmp 80) (.tmp 85) 22 rfl elemInt H 6 rfl rfl 7 rfl rfl (fun y hy => by obtain ⟨u, -, rfl⟩ := List.mem_map.1 hy; rfl) (by have := HLN.out; unfold maxLen; omega) (by have := HLN.out; omega) (fun v' wz HZ hgr => ?_)
        obtain ⟨g8, d8, rfl⟩ := ownsRow_slice (HZ.at 6 rfl)
        refine ⟨hs0.grownS hz0 hgr hba, ?_⟩
        obtain ⟨L2, hL2⟩ : ∃ L2, L2 = LA ++ LB := ⟨_, rfl⟩
        have hl2 : LA.length + LB.length = L2.length := by rw [hL2, List.length_append]
        have hL80 : L2.length ≤ 80 := by have := HLN.out; omega
        rw [← hL2] at HIN
        rw [hl2, ← List.map_append, ← hL2] at HZ
        rw [hl2]
        clear H C hba hgr hs0 hz0 hl2 hL2 HCA HCX HCY
        have H := HZ
        clear HZ
        simp only [List.cons_append, List.nil_append, List.set_cons_succ, List.set_cons_zero] at H
        skip
        try clear C
        try simp only [World.size_alloc, List.nil_append, List.cons_append, List.append_assoc] at H
        have C := H.cells
        try simp only [cellsOf, apartOf, and_true] at C
        repeat (first | (refine wpX_skip rfl ?_; go_simp) | (refine wpX_free rfl rfl rfl (fun K hK => ?_); go_step; refine hK _ _ ?_; clear hK K) | (refine wpX_load rfl rfl rfl (by simp [Stay, OneD, NoD, *]) hs0 (by simp [*]) (fun K hK => ?_); go_step; refine hK _ _ ?_; clear hK K))
        (refine wpX_nil ?_; go_step)
        go_wp2_with fail
        go_loopw [88] (fun c wr => ∃ (j : Nat), c = .int .i64 j ∧ j ≤ L2.length ∧ HS NoD w [.dice w.heap.size bd, .blk bS #[.int .i64 s0, .int .i64 s1, .int .i64 s2, .int .i64 1, .int .i64 s4, .int .i64 2] 28, .blk bC #[.int .i64 kd, .int .i64 dt, .int .i64 ck, .int .i64 fx] 58, .row (.slice t0 xs.length c0) 63 12 xs.length (xs.flatMap stC), .row (.slice t1 ys.length c1) 63 12 ys.length (ys.flatMap stC), rowI (.slice g5 LL.length d5) LL, rowI (.slice g8 L2.length d8) L2] wr) (fun c _ => L2.length - (intOf c).toNat)
        case atStart => exact ⟨0, rfl, Nat.zero_le _, H.less (by repeat (first | exact .slnil | refine .cons_cons _ ?_ | refine .cons _ ?_))⟩
        case round =>
          clear H C wz
          obtain ⟨j, rfl, hj, H⟩ := hrel
          skip
          try clear C
          try simp only [World.size_alloc, List.nil_append, List.cons_append, List.append_assoc] at H
          have C := H.cells
          try simp only [cellsOf, apartOf, and_true] at C
          by_cases hlt : j < L2.length
          · obtain ⟨g9, rfl, hg9, hnd⟩ := row_ptr2 (H.at 6 rfl) (by omega)
            obtain ⟨x, hxe⟩ : ∃ x, x = L2[j]! := ⟨_, rfl⟩
            have hxin : x ∈ LL := HIN.out x (by rw [hxe, getElem!_pos L2 j hlt]; exact List.getElem_mem _)
            have hcell : wr.cell? ⟨g9, j, none⟩ = some (.int .i64 x) := by
              have := World.ownsRow.cellAt (H.at 6 rfl) j (by omega)
              rw [this, hxe, List.getElem?_map, List.getElem?_eq_getElem hlt, getElem!_pos L2 j hlt]; rfl
            have HXI := Lib.hid hxin
            clear hxe hxin
            go_wp2_with fail
            clear hcell
            go_loopw [23, 94] (fun f c wr => ∃ (i : Nat), c = .int .i64 i ∧ i ≤ LL.length ∧ f = .bool (decide (x ∈ LL.take i)) ∧ HS NoD w [.dice w.heap.size bd, .blk bS #[.int .i64 s0, .int .i64 s1, .int .i64 s2, .int .i64 1, .int .i64 s4, .int .i64 2] 28, .blk bC #[.int .i64 kd, .int .i64 dt, .int .i64 ck, .int .i64 fx] 58, .row (.slice t0 xs.length c0) 63 12 xs.length (xs.flatMap stC), .row (.slice t1 ys.length c1) 63 12 ys.length (ys.flatMap stC), rowI (.slice g5 LL.length d5) LL, rowI (.slice (some ⟨g9, 0, none⟩) L2.length d8) L2] wr) (fun _ c _ => LL.length - (intOf c).toNat)
            case atStart => exact ⟨0, rfl, Nat.zero_le _, by simp, H⟩
            case round =>
              clear H C
              obtain ⟨i, rfl, hi, rfl, H⟩ := hrel
              skip
              try clear C
              try simp only [World.size_alloc, List.nil_append, List.cons_append, List.append_assoc] at H
              have C := H.cells
              try simp only [cellsOf, apartOf, and_true] at C
              have hLL : LL.length ≤ 40 := HLN.out.1
              by_cases hlt2 : i < LL.length
              · obtain ⟨gL, rfl, hgL, hndL⟩ := row_ptr2 (H.at 5 rfl) (by omega)
                obtain ⟨y, hye⟩ : ∃ y, y = LL[i]! := ⟨_, rfl⟩
                have hcell : wr.cell? ⟨gL, i, none⟩ = some (.int .i64 y) := by
                  have := World.ownsRow.cellAt (H.at 5 rfl) i (by omega)
                  rw [this, hye, List.getElem?_map, List.getElem?_eq_getElem hlt2, getElem!_pos LL i hlt2]; rfl
                have htk : (x ∈ LL.take (i + 1)) = (x ∈ LL.take i ∨ x = y) := by rw [hye]; exact mem_take_succ hlt2
                have HTK := Lib.hid htk
                clear htk hye
                by_cases h1 : x ∈ LL.take i
                · rw [decide_eq_true h1]
                  have HH1 := Lib.hid h1
                  clear h1
                  skip
                  go_wp2_with fail
                  go_roundw
                  case rel => exact ⟨i + 1, by go_num, by omega, by rw [decide_eq_true (by rw [HTK.out]; exact .inl HH1.out)], H⟩
                  case measure => simp [intOf]; omega
                · rw [decide_eq_false h1]
                  have HH1 := Lib.hid h1
                  clear h1
                  by_cases h2 : (x : Int) = (y : Int)
                  · skip
                    go_wp2_with fail
                    go_roundw
                    case rel => exact ⟨i + 1, by go_num, by omega, by rw [decide_eq_true (by rw [HTK.out]; exact .inr (by omega))], H⟩
                    case measure => simp [intOf]; omega
                  · skip
                    go_wp2_with fail
                    go_roundw
                    case rel => exact ⟨i + 1, by go_num, by omega, by rw [decide_eq_false (by rw [HTK.out]; rintro (h | h); exact HH1.out h; omega), show ((x : Int) == (y : Int)) = false from beq_eq_false_iff_ne.2 h2], H⟩
                    case measure => simp [intOf]; omega
              · have hie : i = LL.length := by omega
                subst hie
                have htr : decide (x ∈ LL.take LL.length) = true := by rw [List.take_length]; exact decide_eq_true HXI.out
                rw [htr]
                clear htr
                skip
                go_wp2_with fail
                go_roundw
                case rel => exact ⟨j + 1, by go_num, by omega, H⟩
                case measure => simp [intOf]; omega
          · skip
            have HWX := Lib.hid (fun sa c w hN hl => within_any HSV.out HC.out (sa := sa) c (xs := xs) (by omega) w hN hl)
            have HWY := Lib.hid (fun sa c w hN hl => within_any HSV.out HC.out (sa := sa) c (xs := ys) (by omega) w hN hl)
            have HWS := Lib.hid (fun h => wB_sub (a0 := s0) (a1 := s1) (a2 := s2) (a3 := 1) (a4 := s4) (a5 := 2) (kd := kd) (dt := dt) (ck := ck) (fx := fx) HSUB.out h)
            generalize wB s0 s1 s2 1 s4 2 kd dt ck fx xs = bx at HWX HWS
            generalize wB s0 s1 s2 1 s4 2 kd dt ck fx ys = bY at HWY HWS
            go_wp2_with fail
            refine (HWX.out _ _ _ (HNm.out.below H.done) (H.rowLies 3 stC_len rfl rfl)).mono ?_
            rintro _ w16 ⟨rfl, hb⟩
            replace H := H.below hb
            clear hb
            try clear C
            try simp only [World.size_alloc, List.nil_append, List.cons_append, List.append_assoc] at H
            try clear wr
            have C := H.cells
            try simp only [cellsOf, apartOf, and_true] at C
            dsimp only
            cases bx
            · skip
              go_wp2_with fail
              refine (awake41 _ (HNm.out.below H.done)).mono ?_
              rintro _ w17 ⟨rfl, hb⟩
              replace H := H.below hb
              clear hb
              try clear C
              try simp only [World.size_alloc, List.nil_append, List.cons_append, List.append_assoc] at H
              try clear w16
              have C := H.cells
              try simp only [cellsOf, apartOf, and_true] at C
              dsimp only
              go_wp2_with fail
              go_ret
              exact ⟨rfl, H.done⟩
            · have hby := HWS.out rfl
              subst hby
              skip
              go_wp2_with fail
              refine (HWY.out _ _ _ (HNm.out.below H.done) (H.rowLies 4 stC_len rfl rfl)).mono ?_
              rintro _ w18 ⟨rfl, hb⟩
              replace H := H.below hb
              clear hb
              try clear C
              try simp only [World.size_alloc, List.nil_append, List.cons_append, List.append_assoc] at H
              try clear w16
              have C := H.cells
              try simp only [cellsOf, apartOf, and_true] at C
              dsimp only
              go_wp2_with fail
              refine (awake41 _ (HNm.out.below H.done)).mono ?_
              rintro _ w19 ⟨rfl, hb⟩
              replace H := H.below hb
              clear hb
              try clear C
              try simp only [World.size_alloc, List.nil_append, List.cons_append, List.append_assoc] at H
              try clear w18
              have C := H.cells
              try simp only [cellsOf, apartOf, and_true] at C
              dsimp only
              go_wp2_with fail
              go_ret
              exact ⟨rfl, H.done⟩
  · rw [decide_eq_false h400] at hli
    have HLI := Lib.hid hli
    clear hli
    go_enter Tryd.func8, Tryd.ntmps8
    have H := HS.start NoD w
    go_wp2_with fail
    refine (gives_of (HLI.out _)).mono ?_
    rintro _ w1 ⟨rfl, hb⟩
    replace H := H.below hb
    clear hb
    try clear C
    try simp only [World.size_alloc, List.nil_append, List.cons_append, List.append_assoc] at H
    have C := H.cells
    try simp only [cellsOf, apartOf, and_true] at C
    dsimp only
    go_wp2_with fail
    refine (awake41 _ (HNm.out.below H.done)).mono ?_
    rintro _ w2 ⟨rfl, hb⟩
    replace H := H.below hb
    clear hb
    try clear C
    try simp only [World.size_alloc, List.nil_append, List.cons_append, List.append_assoc] at H
    try clear w1
    have C := H.cells
    try simp only [cellsOf, apartOf, and_true] at C
    dsimp only
    go_wp2_with fail
    go_ret
    exact ⟨rfl, H.done⟩
end Go.Proofs.YtaeockopliplfaaDoor
