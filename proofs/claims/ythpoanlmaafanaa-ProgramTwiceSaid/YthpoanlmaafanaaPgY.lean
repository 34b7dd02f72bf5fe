/- The statement ProgramReads: its walk. -/
import Derived.Test.YthpoanlmaafanaaPgV
namespace Go.Proofs.Ythpoanlmaafanaa
set_option linter.unusedSimpArgs false
set_option linter.unusedVariables false
open Go.RowKit
set_option maxRecDepth 100000
attribute [local irreducible] wpX wpF Calls

theorem takeU {us : List (Int × Int)} {j : Nat} (h : j < us.length) (p : Int × Int → Bool) : (us.take (j + 1)).any p = ((us.take j).any p || p us[j]!) := by
  rw [List.take_add_one, List.getElem?_eq_getElem h, getElem!_pos us j h, List.any_append]; simp
theorem hasU {f : PgF} {us : List (Int × Int)} (h : Uq f us) {x : Int × Int} {ok : Bool} (hk : ok = true ↔ f x ≠ none) : us.any (fun u => decide (u = x)) = ok := by
  have h1 : us.any (fun u => decide (u = x)) = true ↔ ok = true := by
    rw [hk, ← h.mem, List.any_eq_true]
    constructor
    · rintro ⟨y, hy, e⟩
      rw [← of_decide_eq_true e]; exact hy
    · intro hx
      exact ⟨x, hx, by simp⟩
  cases ok with
  | true => exact h1.2 rfl
  | false =>
    cases hb : us.any (fun u => decide (u = x)) with
    | false => rfl
    | true => exact absurd (h1.1 hb) (by simp)
set_option maxHeartbeats 16000000 in
theorem preads_walk (sa : Option Addr) (len cap : Nat) (hl : len ≤ maxLen) (k : Int) (w : World) (hI : Ints w sa len) :
    Calls Try.prog 4 #[.slice sa len cap, .int .i64 k] w (Gives (.bool true) w) := by
  have HI := Lib.hid hI
  clear hI
  have hli := light_any sa len cap hl
  clear hl
  have HAW := Lib.hid awake40_any
  by_cases h400 : len ≤ 400
  · rw [decide_eq_true h400] at hli
    have HLI := Lib.hid hli
    clear hli
    go_enter Try.func4, Try.ntmps4
    have H := HS.start NoD w
    go_wp2_with fail
    refine (gives_ofP (HLI.out _)).mono ?_
    rintro _ w1 ⟨rfl, hb⟩
    replace H := H.below hb
    clear hb
    try clear C
    try simp only [World.size_alloc, List.nil_append, List.cons_append, List.append_assoc] at H
    have C := H.cells
    try simp only [cellsOf, cellsM, apartOf, apartM, and_true] at C
    dsimp only
    go_wp2_with fail
    refine (roll_at w.heap.size _ _ _ h400 _ H.size (H.ints HI.out)).mono ?_
    rintro _ w2 ⟨bd, rfl, hd, hb, hbb⟩
    replace H := H.getsDice hb hd hbb (Nat.le_refl _)
    clear hb hd hbb
    try clear C
    try simp only [World.size_alloc, List.nil_append, List.cons_append, List.append_assoc] at H
    try clear w1
    have C := H.cells
    try simp only [cellsOf, cellsM, apartOf, apartM, and_true] at C
    dsimp only
    go_wp2_with fail
    refine (mops_any 2 (by omega) 30 (by omega) w.heap.size bd _ (H.at 0 rfl) H.size).mono ?_
    rintro _ w2 ⟨v, l, rfl, hl2, hlm, hln, K⟩
    replace H := HS.joinDice H 0 rfl K (fun A hA => by simp only [List.mem_cons, List.mem_nil_iff, or_false] at hA; rcases hA with rfl | rfl <;> rfl)
    clear K hln hl2
    simp only [List.nil_append, List.cons_append] at H
    obtain ⟨s1, c1, rfl⟩ := ownsRow_slice (H.at 1 rfl)
    skip
    try clear C
    try simp only [World.size_alloc, List.nil_append, List.cons_append, List.append_assoc] at H
    have C := H.cells
    try simp only [cellsOf, cellsM, apartOf, apartM, and_true] at C
    dsimp only
    have HM1 := Lib.hid (fun w => gives_ofP (mod_any k 3 w))
    have HM2 := Lib.hid (fun w => gives_ofP (mod_any (wrap64 (k.tdiv 3)) 3 w))
    have HM3 := Lib.hid (fun w => gives_ofP (mod_any (wrap64 (k.tdiv 9)) 4 w))
    have hm1 := modF_in (n := k) (m := 3) (by decide) (by decide)
    have hm2 := modF_in (n := wrap64 (k.tdiv 3)) (m := 3) (by decide) (by decide)
    have hm3 := modF_in (n := wrap64 (k.tdiv 9)) (m := 4) (by decide) (by decide)
    generalize modF k 3 = p0 at HM1 hm1
    generalize modF (wrap64 (k.tdiv 3)) 3 = g at HM2 hm2
    generalize modF (wrap64 (k.tdiv 9)) 4 = wd at HM3 hm3
    obtain ⟨p, hp⟩ : ∃ p, p = 1 + p0 := ⟨_, rfl⟩
    have hpw : IntKind.i64.wrap (1 + p0) = p := by rw [hp]; exact IntWalk.i64_in _ (by omega)
    have hpb : 1 ≤ p ∧ p ≤ 999 := by omega
    clear hp hm1
    go_wp2_with fail
    refine (HM1.out _).mono ?_
    rintro _ w3 ⟨rfl, hb⟩
    replace H := H.below hb
    clear hb
    try clear C
    try simp only [World.size_alloc, List.nil_append, List.cons_append, List.append_assoc] at H
    try clear w2
    have C := H.cells
    try simp only [cellsOf, cellsM, apartOf, apartM, and_true] at C
    dsimp only
    go_wp2_with fail
    refine (HM2.out _).mono ?_
    rintro _ w4 ⟨rfl, hb⟩
    replace H := H.below hb
    clear hb
    try clear C
    try simp only [World.size_alloc, List.nil_append, List.cons_append, List.append_assoc] at H
    try clear w3
    have C := H.cells
    try simp only [cellsOf, cellsM, apartOf, apartM, and_true] at C
    dsimp only
    go_wp2_with fail
    refine (HM3.out _).mono ?_
    rintro _ w5 ⟨rfl, hb⟩
    replace H := H.below hb
    clear hb
    try clear C
    try simp only [World.size_alloc, List.nil_append, List.cons_append, List.append_assoc] at H
    try clear w4
    have C := H.cells
    try simp only [cellsOf, cellsM, apartOf, apartM, and_true] at C
    dsimp only
    clear HM1 HM2 HM3
    go_upto_region 6 with fail
    generalize hwb : w5.alloc _ = w6
    replace H := HS.eqW hwb H.alloc
    try simp only [World.size_alloc, List.nil_append, List.cons_append, List.append_assoc] at H
    clear hwb
    generalize w5.heap.size = b7 at H ⊢
    try clear C
    try clear w5
    have C := H.cells
    try simp only [cellsOf, cellsM, apartOf, apartM, and_true] at C
    clear hpw
    go_upto_region 8 with (at_builtin; refine wpList_append_H rfl (.tmp 36) (.tmp 49) 22 rfl elemOp H.alloc 1 rfl rfl 4 rfl rfl rfl rfl (by decide) (by unfold maxLen; omega) (by omega) (fun g2 d2 wy HZ => ?_); clear H C)
    simp only [List.nil_append, List.cons_append, List.append_assoc, List.set_cons_succ, List.set_cons_zero] at HZ
    have H := HZ
    clear HZ
    obtain ⟨L, hL⟩ : ∃ L : List Ox, L = l ++ [⟨1, p, g, wd, 0, none, 0, 0⟩, ⟨6, p, g, 0, 0, none, 0, 0⟩, ⟨1, p, g, 0, 0, none, 0, 0⟩, ⟨1, p, g, wd, 0, none, 0, 0⟩] := ⟨_, rfl⟩
    have hLl : L.length = l.length + 4 := by rw [hL]; simp
    replace H : HS NoD w [.row (.slice (some ⟨g2, 0, none⟩) L.length d2) 38 6 L.length (L.flatMap oxC), .blk b7 #[.int .i64 1, .int .i64 p, .int .i64 g, .int .i64 wd, .int .i64 0, .slice none 0 0] 38] wy := by
      have H9 := HS.less (L' := [_, _]) H (.cons _ (.cons_cons _ (.cons _ (.cons_cons _ (List.nil_sublist _)))))
      rw [hLl, hL]
      simpa [oxC] using H9
    obtain ⟨a, ok, hR⟩ := reads_law l hpb ⟨hm2.1, by omega⟩ ⟨hm3.1, by omega⟩ hL
    have hcap := row_cap40 (H.at 0 rfl)
    have hLx : L.length ≤ 1000000 := by omega
    have q1 : IntKind.i64.wrap ((l.length : Int) + 3) = (l.length : Int) + 3 := IntWalk.i64_in _ (by omega)
    have S1 := Lib.hid (fun w h => source_any (l := L) hLx (l.length : Int) (sa := some ⟨g2, 0, none⟩) (c := d2) hcap w h)
    have S2 := Lib.hid (fun w h => source_any (l := L) hLx ((l.length : Int) + 3) (sa := some ⟨g2, 0, none⟩) (c := d2) hcap w h)
    rw [hR.one] at S1
    rw [hR.two] at S2
    have SP := Lib.hid (fun w h => pages_any (l := l) (by omega) (sa := some ⟨g2, 0, none⟩) d2 w h)
    have HRO := Lib.hid hR.org
    have HRH := Lib.hid hR.has
    have HTK := Lib.hid (show L.take l.length = l by rw [hL]; simp)
    clear hR hL
    obtain ⟨NL, hNL⟩ : ∃ n, n = l.length + 4 := ⟨_, rfl⟩
    rw [← hNL] at hLl ⊢
    rw [hLl] at H S1 S2 hcap
    have HLL := Lib.hid hLl
    have hNi : (l.length : Int) ≤ NL := by omega
    have hNc : (l.length : Int) ≤ d2 := by omega
    have hNd : (NL : Int) ≤ d2 := by omega
    clear hLl hNL hLx
    skip
    try clear C
    try simp only [World.size_alloc, List.nil_append, List.cons_append, List.append_assoc] at H
    have C := H.cells
    try simp only [cellsOf, cellsM, apartOf, apartM, and_true] at C
    go_wp2_with fail
    refine (S1.out _ (by rw [← HLL.out]; exact H.rowLies 0 oxC_len (xs := L) (by rw [HLL.out]; rfl) rfl)).mono ?_
    rintro _ w7 ⟨rfl, hb⟩
    replace H := H.below hb
    clear hb
    try clear C
    try simp only [World.size_alloc, List.nil_append, List.cons_append, List.append_assoc] at H
    try clear wy
    have C := H.cells
    try simp only [cellsOf, cellsM, apartOf, apartM, and_true] at C
    dsimp only
    go_wp2_with fail
    refine (S2.out _ (by rw [← HLL.out]; exact H.rowLies 0 oxC_len (xs := L) (by rw [HLL.out]; rfl) rfl)).mono ?_
    rintro _ w8 ⟨rfl, hb⟩
    replace H := H.below hb
    clear hb
    try clear C
    try simp only [World.size_alloc, List.nil_append, List.cons_append, List.append_assoc] at H
    try clear w7
    have C := H.cells
    try simp only [cellsOf, cellsM, apartOf, apartM, and_true] at C
    dsimp only
    go_wp2_with fail
    refine (SP.out _ (by have h9 := Lies.take (i := l.length) (H.rowLies 0 oxC_len (n := L.length) (xs := L) (by rw [HLL.out]; rfl) rfl) (by have := HLL.out; omega); rw [HTK.out] at h9; exact h9)).mono ?_
    rintro _ w9 ⟨us, v9, rfl, hu, hul, K⟩
    replace H := H.join K (fun A hA => by simp only [List.mem_cons, List.mem_nil_iff, or_false] at hA; rcases hA with rfl; rfl)
    simp only [List.nil_append, List.cons_append] at H
    have HUS := Lib.hid (hasU hu (x := (p, g)) HRH.out)
    clear K SP hu S1 S2
    obtain ⟨s5, c5, rfl⟩ := ownsRow_slice (H.at 2 rfl)
    skip
    try clear C
    try simp only [World.size_alloc, List.nil_append, List.cons_append, List.append_assoc] at H
    have C := H.cells
    try simp only [cellsOf, cellsM, apartOf, apartM, and_true] at C
    dsimp only
    go_wp2_with fail
    go_loopw [13, 15, 77] (fun hv _ jj wr => ∃ (j : Nat), jj = .int .i64 j ∧ j ≤ us.length ∧ hv = .bool ((us.take j).any fun u => decide (u = (p, g))) ∧ HS NoD w [.row (.slice (some ⟨g2, 0, none⟩) NL d2) 38 6 NL (L.flatMap oxC), .blk b7 #[.int .i64 1, .int .i64 p, .int .i64 g, .int .i64 wd, .int .i64 0, .slice none 0 0] 38, .row (.slice s5 us.length c5) 40 2 us.length (us.flatMap encU)] wr) (fun _ _ jj _ => us.length - (intOf jj).toNat)
    case atStart => exact ⟨0, rfl, Nat.zero_le _, by simp, H⟩
    case round =>
      clear H C
      obtain ⟨j, rfl, hj, rfl, H⟩ := hrel
      skip
      try clear C
      try simp only [World.size_alloc, List.nil_append, List.cons_append, List.append_assoc] at H
      have C := H.cells
      try simp only [cellsOf, cellsM, apartOf, apartM, and_true] at C
      skip
      by_cases hlt : j < us.length
      · obtain ⟨b, o, hso, hb2, hc⟩ := (H.rowLies 2 encU_len rfl rfl).at hlt
        subst hso
        have HAN := Lib.hid (takeU hlt (fun u => decide (u = (p, g))))
        obtain ⟨uo, huo⟩ : ∃ u, u = us[j]! := ⟨_, rfl⟩
        rw [← huo] at hc HAN
        clear huo
        obtain ⟨u1, u2⟩ := uo
        have c0 : wr.cell? ⟨b, o + j * 2, none⟩ = some (.int .i64 u1) := hc 0 _ rfl
        have c1 : wr.cell? ⟨b, o + j * 2 + 1, none⟩ = some (.int .i64 u2) := hc 1 _ rfl
        clear hc
        generalize (us.take j).any (fun u => decide (u = (p, g))) = ha at HAN ⊢
        have n1 : (b = wr.heap.size) = False := eq_false (by omega)
        have n2 : (wr.heap.size = b) = False := eq_false (by omega)
        go_upto_region 16 with fail
        clear c0 c1 n1 n2
        generalize hwb : wr.alloc _ = w9
        replace H := HS.eqW hwb H.alloc
        try simp only [World.size_alloc, List.nil_append, List.cons_append, List.append_assoc] at H
        clear hwb
        generalize wr.heap.size = bU at H ⊢
        try clear C
        try clear wr
        have C := H.cells
        try simp only [cellsOf, cellsM, apartOf, apartM, and_true] at C
        skip
        cases ha with
        | true =>
          go_wp2_with fail
          go_roundw
          case rel => exact ⟨j + 1, by go_num, by omega, by rw [HAN.out]; simp, HS.less H (by repeat (first | exact .slnil | refine .cons_cons _ ?_ | refine .cons _ ?_))⟩
          case measure => simp [intOf]; omega
        | false =>
          skip
          by_cases h1 : u1 = p
          · subst h1
            by_cases h2 : u2 = g
            · subst h2
              go_wp2_with fail
              go_roundw
              case rel => exact ⟨j + 1, by go_num, by omega, by rw [HAN.out]; simp, HS.less H (by repeat (first | exact .slnil | refine .cons_cons _ ?_ | refine .cons _ ?_))⟩
              case measure => simp [intOf]; omega
            · have h2b : (u2 == g) = false := beq_eq_false_iff_ne.2 h2
              skip
              go_wp2_with fail
              go_roundw
              case rel => exact ⟨j + 1, by go_num, by omega, by rw [HAN.out]; simp [h2], HS.less H (by repeat (first | exact .slnil | refine .cons_cons _ ?_ | refine .cons _ ?_))⟩
              case measure => simp [intOf]; omega
          · have h1b : (u1 == p) = false := beq_eq_false_iff_ne.2 h1
            skip
            go_wp2_with fail
            go_roundw
            case rel => exact ⟨j + 1, by go_num, by omega, by rw [HAN.out]; simp [h1], HS.less H (by repeat (first | exact .slnil | refine .cons_cons _ ?_ | refine .cons _ ?_))⟩
            case measure => simp [intOf]; omega
      · obtain rfl : j = us.length := by omega
        rw [List.take_length, HUS.out]
        clear hlt hj
        skip
        cases ok with
        | false =>
          go_wp2_with fail
          refine (HAW.out _).mono ?_
          rintro _ w10 ⟨rfl, hb⟩
          replace H := H.below hb
          clear hb
          try clear C
          try simp only [World.size_alloc, List.nil_append, List.cons_append, List.append_assoc] at H
          try clear wr
          have C := H.cells
          try simp only [cellsOf, cellsM, apartOf, apartM, and_true] at C
          dsimp only
          go_wp2_with fail
          go_ret
          exact ⟨rfl, H.done⟩
        | true =>
          obtain ⟨n, rfl, hn, hkk, hgg⟩ := HRO.out rfl
          have hni : (n : Int) < l.length := by omega
          have hnj : ¬ (l.length : Int) ≤ n := by omega
          have hnN : n < NL := by omega
          have hnd : (n : Int) < NL := by omega
          have hnd2 : (n : Int) < d2 := by omega
          have hnl : ¬ l.length ≤ n := by omega
          clear HRO HRH
          skip
          go_upto_region 24 with fail
          have HGG := Lib.hid hgg
          skip
          rcases hkk with hkk | ⟨hkk, hww⟩
          all_goals have HKK := Lib.hid hkk
          all_goals clear hkk hgg
          · skip
            refine wp_region_xH (by kernel_rfl) (by kernel_rfl) (by kernel_rfl) (by kernel_rfl) (fun _ => False) (H) ?_
            clear H; intro w11 H hz0 hs0
            try clear C
            try simp only [World.size_alloc, List.nil_append, List.cons_append, List.append_assoc] at H hz0
            clear hz0
            try clear wr
            have C := H.cells
            try simp only [cellsOf, cellsM, apartOf, apartM, and_true] at C
            have Z := H.zs
            try simp only [ltsOf, ltsM, and_true] at Z
            have hz0 := Nat.le_refl w11.heap.size
            have hg9 : g2 < w11.heap.size := Item.lt (H.at 0 rfl) (k := g2) rfl
            obtain ⟨b9, o9, e9, -, d0, -, d2', d3, -, -⟩ := oxCells (H.rowLies 0 oxC_len (n := L.length) (xs := L) (by rw [HLL.out]; rfl) rfl) (show n < L.length by rw [HLL.out]; exact hnN)
            obtain ⟨rfl, rfl⟩ : g2 = b9 ∧ 0 = o9 := by simpa using e9
            rw [Nat.zero_add] at d0 d2' d3
            rw [HKK.out] at d0
            rw [HGG.out] at d2'
            clear e9
            repeat (first | (refine wpX_skip rfl ?_; go_simp) | (refine wpX_free rfl rfl rfl (fun K hK => ?_); go_step; refine hK _ _ ?_; clear hK K) | (refine wpX_load rfl rfl rfl (by simp [Stay, OneD, NoD, *]) hs0 (by simp [*]) (fun K hK => ?_); go_step; refine hK _ _ ?_; clear hK K))
            refine wpX_eff rfl rfl (fun _ _ => ?_)
            go_step
            refine (HAW.out _).mono ?_
            rintro _ w12 ⟨rfl, hb⟩
            replace hs0 := hs0.belowS hz0 hb
            replace hz0 := Nat.le_trans hz0 hb.size
            replace H := H.below hb
            clear hb
            try clear C
            have C := H.cells
            try simp only [cellsOf, cellsM, apartOf, apartM, and_true] at C
            try clear w11
            dsimp only
            go_step
            refine ⟨hs0, ?_⟩
            repeat (first | (refine wpX_skip rfl ?_; go_simp) | (refine wpX_free rfl rfl rfl (fun K hK => ?_); go_step; refine hK _ _ ?_; clear hK K) | (refine wpX_load rfl rfl rfl (by simp [Stay, OneD, NoD, *]) hs0 (by simp [*]) (fun K hK => ?_); go_step; refine hK _ _ ?_; clear hK K))
            (refine wpX_nil ?_; go_step)
            go_wp2_with fail
            go_ret
            exact ⟨rfl, H.done⟩
          · skip
            refine wp_region_xH (by kernel_rfl) (by kernel_rfl) (by kernel_rfl) (by kernel_rfl) (fun _ => False) (H) ?_
            clear H; intro w13 H hz0 hs0
            try clear C
            try simp only [World.size_alloc, List.nil_append, List.cons_append, List.append_assoc] at H hz0
            clear hz0
            try clear wr
            have C := H.cells
            try simp only [cellsOf, cellsM, apartOf, apartM, and_true] at C
            have Z := H.zs
            try simp only [ltsOf, ltsM, and_true] at Z
            have hz0 := Nat.le_refl w13.heap.size
            have hg9 : g2 < w13.heap.size := Item.lt (H.at 0 rfl) (k := g2) rfl
            obtain ⟨b9, o9, e9, -, d0, -, d2', d3, -, -⟩ := oxCells (H.rowLies 0 oxC_len (n := L.length) (xs := L) (by rw [HLL.out]; rfl) rfl) (show n < L.length by rw [HLL.out]; exact hnN)
            obtain ⟨rfl, rfl⟩ : g2 = b9 ∧ 0 = o9 := by simpa using e9
            rw [Nat.zero_add] at d0 d2' d3
            rw [HKK.out] at d0
            rw [HGG.out] at d2'
            rw [hww] at d3
            clear hww
            clear e9
            repeat (first | (refine wpX_skip rfl ?_; go_simp) | (refine wpX_free rfl rfl rfl (fun K hK => ?_); go_step; refine hK _ _ ?_; clear hK K) | (refine wpX_load rfl rfl rfl (by simp [Stay, OneD, NoD, *]) hs0 (by simp [*]) (fun K hK => ?_); go_step; refine hK _ _ ?_; clear hK K))
            refine wpX_eff rfl rfl (fun _ _ => ?_)
            go_step
            refine (HAW.out _).mono ?_
            rintro _ w14 ⟨rfl, hb⟩
            replace hs0 := hs0.belowS hz0 hb
            replace hz0 := Nat.le_trans hz0 hb.size
            replace H := H.below hb
            clear hb
            try clear C
            have C := H.cells
            try simp only [cellsOf, cellsM, apartOf, apartM, and_true] at C
            try clear w13
            dsimp only
            go_step
            refine ⟨hs0, ?_⟩
            repeat (first | (refine wpX_skip rfl ?_; go_simp) | (refine wpX_free rfl rfl rfl (fun K hK => ?_); go_step; refine hK _ _ ?_; clear hK K) | (refine wpX_load rfl rfl rfl (by simp [Stay, OneD, NoD, *]) hs0 (by simp [*]) (fun K hK => ?_); go_step; refine hK _ _ ?_; clear hK K))
            (refine wpX_nil ?_; go_step)
            go_wp2_with fail
            go_ret
            exact ⟨rfl, H.done⟩
  · rw [decide_eq_false h400] at hli
    have HLI := Lib.hid hli
    clear hli
    go_enter Try.func4, Try.ntmps4
    have H := HS.start NoD w
    go_wp2_with fail
    refine (gives_ofP (HLI.out _)).mono ?_
    rintro _ w1 ⟨rfl, hb⟩
    replace H := H.below hb
    clear hb
    try clear C
    try simp only [World.size_alloc, List.nil_append, List.cons_append, List.append_assoc] at H
    have C := H.cells
    try simp only [cellsOf, cellsM, apartOf, apartM, and_true] at C
    dsimp only
    go_wp2_with fail
    refine (HAW.out _).mono ?_
    rintro _ w2 ⟨rfl, hb⟩
    replace H := H.below hb
    clear hb
    try clear C
    try simp only [World.size_alloc, List.nil_append, List.cons_append, List.append_assoc] at H
    try clear w1
    have C := H.cells
    try simp only [cellsOf, cellsM, apartOf, apartM, and_true] at C
    dsimp only
    go_wp2_with fail
    go_ret
    exact ⟨rfl, H.done⟩
end Go.Proofs.Ythpoanlmaafanaa
