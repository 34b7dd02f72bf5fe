/- The statement ProgramKeeps: its walk. NOT DONE: it ends in sorry after the first loop. -/
import Derived.Test.YthpoanlmaafanaaPgY
import Derived.Test.YthpoanlmaafanaaPgZ
import Derived.Test.YthpoanlmaafanaaPgE
namespace Go.Proofs.Ythpoanlmaafanaa
set_option linter.unusedSimpArgs false
set_option linter.unusedVariables false
open Go.RowKit
set_option maxRecDepth 100000
attribute [local irreducible] wpX wpF Calls

def oneP (p : Int) : Prop := p = 1
instance : DecidablePred oneP := fun p => inferInstanceAs (Decidable (p = 1))
theorem takeC {us : List (Int × Int)} {j : Nat} (h : j < us.length) : ((us.take (j + 1)).filter fun u => decide (u.1 = 1)).length = ((us.take j).filter fun u => decide (u.1 = 1)).length + (if decide ((us[j]!).1 = 1) = true then 1 else 0) := by
  rw [List.take_add_one, List.getElem?_eq_getElem h, getElem!_pos us j h, List.filter_append, List.length_append]
  congr 1
  show (List.filter _ [us[j]]).length = _
  rw [List.filter_cons]
  split <;> simp_all
set_option maxHeartbeats 16000000 in
theorem pkeeps_walk (sa : Option Addr) (len cap : Nat) (hl : len ≤ maxLen) (other k : Int) (w : World) (hI : Ints w sa len) :
    Calls Try.prog 6 #[.slice sa len cap, .int .i64 other, .int .i64 k] w (Gives (.bool true) w) := by
  have HI := Lib.hid hI
  clear hI
  have hli := light_any sa len cap hl
  clear hl
  have HAW := Lib.hid awake40_any
  by_cases h400 : len ≤ 400
  · rw [decide_eq_true h400] at hli
    have HLI := Lib.hid hli
    clear hli
    go_enter Try.func6, Try.ntmps6
    have H := HS.start NoD w
    go_wp2_with fail
    refine (gives_ofP (HLI.out _)).mono ?_
    rintro _ w1 ⟨rfl, hb⟩
    replace H := H.below hb
    clear hb
    try clear C
    try simp only [World.size_alloc, List.nil_append, List.cons_append, List.append_assoc] at H
    have C := H.cells
    try simp only [cellsOf, cellsM, apartOf, apartM, and_true] at C
    dsimp only
    go_wp2_with fail
    refine (roll_at w.heap.size _ _ _ h400 _ H.size (H.ints HI.out)).mono ?_
    rintro _ w2 ⟨bd, rfl, hd, hb, hbb⟩
    replace H := H.getsDice hb hd hbb (Nat.le_refl _)
    clear hb hd hbb
    try clear C
    try simp only [World.size_alloc, List.nil_append, List.cons_append, List.append_assoc] at H
    try clear w1
    have C := H.cells
    try simp only [cellsOf, cellsM, apartOf, apartM, and_true] at C
    dsimp only
    go_wp2_with fail
    refine (mops_any 1 (by omega) 20 (by omega) w.heap.size bd _ (H.at 0 rfl) H.size).mono ?_
    rintro _ w2 ⟨v, xs, rfl, hl2, hlm, hln, K⟩
    replace H := HS.joinDice H 0 rfl K (fun A hA => by simp only [List.mem_cons, List.mem_nil_iff, or_false] at hA; rcases hA with rfl | rfl <;> rfl)
    clear K hln hl2
    simp only [List.nil_append, List.cons_append] at H
    obtain ⟨s1, c1, rfl⟩ := ownsRow_slice (H.at 1 rfl)
    skip
    have H9 := HS.nilRow (HS.nilRow H 38 6) 38 6
    clear H
    have H := H9
    clear H9
    simp only [List.nil_append, List.cons_append] at H
    try clear C
    try simp only [World.size_alloc, List.nil_append, List.cons_append, List.append_assoc] at H
    have C := H.cells
    try simp only [cellsOf, cellsM, apartOf, apartM, and_true] at C
    dsimp only
    go_wp2_with fail
    go_loopw [8, 9, 29] (fun u8 u9 cc wr => ∃ (j : Nat) (l m : List Ox), cc = .int .i64 j ∧ j ≤ xs.length ∧ l.length ≤ j ∧ m.length ≤ l.length ∧ Hid (∀ y ∈ l, y ∈ xs) ∧ Hid (∀ y ∈ m, y ∈ xs) ∧ Hid (Run2 oneP l m) ∧ Hid (OnlyF oneP (runF 0 m noF)) ∧ HS NoD w [.dice w.heap.size bd, .row (.slice s1 xs.length c1) 38 6 xs.length (xs.flatMap oxC), dataI xs, .row u8 38 6 l.length (l.flatMap oxC), .row u9 38 6 m.length (m.flatMap oxC)] wr) (fun _ _ cc _ => xs.length - (intOf cc).toNat)
    case atStart => exact ⟨0, [], [], rfl, Nat.zero_le _, Nat.le_refl _, Nat.le_refl _, (show Hid _ from fun _ h => nomatch h), (show Hid _ from fun _ h => nomatch h), Run2.no _, OnlyF.no _, H⟩
    case round =>
      clear H C
      obtain ⟨j, l, m, rfl, hj, hlj, hml, HLX, HMX, HRU, HON, H⟩ := hrel
      skip
      try clear C
      try simp only [World.size_alloc, List.nil_append, List.cons_append, List.append_assoc] at H
      have C := H.cells
      try simp only [cellsOf, cellsM, apartOf, apartM, and_true] at C
      by_cases hlt : j < xs.length
      · have hxb : xs.length ≤ 22 := hlm
        obtain ⟨b, o, rfl, hb, hc⟩ := (H.rowLies 1 oxC_len rfl rfl).at hlt
        have HXM := Lib.hid (show xs[j]! ∈ xs by rw [getElem!_pos xs j hlt]; exact List.getElem_mem hlt)
        obtain ⟨x, hx⟩ : ∃ x, x = xs[j]! := ⟨_, rfl⟩
        rw [← hx] at hc HXM
        clear hx
        have HB := Lib.hid (HRU.out.both x)
        have HS1 := Lib.hid (fun (hk : x.k ≠ 4) (hp : ¬ oneP x.p) => HRU.out.skip x (doF_other hk hp))
        have HD := Lib.hid (fun (hk : x.k ≠ 4) (hp : oneP x.p) => (show OnlyF oneP (runF 0 (m ++ [x]) noF) by rw [runF_app]; exact HON.out.do hk hp))
        obtain ⟨xk, xp, xg, xw, xo, xsa, xn, xc⟩ := x
        dsimp only at HB HS1 HD
        have c0 : wr.cell? ⟨b, o + j * 6, none⟩ = some (.int .i64 xk) := hc 0 _ rfl
        have c1 : wr.cell? ⟨b, o + j * 6 + 1, none⟩ = some (.int .i64 xp) := hc 1 _ rfl
        have c2 : wr.cell? ⟨b, o + j * 6 + 2, none⟩ = some (.int .i64 xg) := hc 2 _ rfl
        have c3 : wr.cell? ⟨b, o + j * 6 + 3, none⟩ = some (.int .i64 xw) := hc 3 _ rfl
        have c4 : wr.cell? ⟨b, o + j * 6 + 4, none⟩ = some (.int .i64 xo) := hc 4 _ rfl
        have c5 : wr.cell? ⟨b, o + j * 6 + 5, none⟩ = some (.slice xsa xn xc) := hc 5 _ rfl
        have n1 : (b = wr.heap.size) = False := eq_false (by omega)
        have n2 : (wr.heap.size = b) = False := eq_false (by omega)
        clear hc
        go_upto_region 8 with fail
        clear c0 c1 c2 c3 c4 c5 n1 n2
        generalize hwb : wr.alloc _ = w3
        replace H := HS.eqW hwb H.alloc
        try simp only [World.size_alloc, List.nil_append, List.cons_append, List.append_assoc] at H
        clear hwb
        generalize wr.heap.size = bO at H ⊢
        try clear C
        try clear wr
        have C := H.cells
        try simp only [cellsOf, cellsM, apartOf, apartM, and_true] at C
        by_cases h4 : xk = 4
        · subst h4
          clear HB HS1 HD
          go_wp2_with fail
          go_roundw
          case rel => exact ⟨j + 1, l, m, by go_num, by omega, by omega, hml, HLX, HMX, HRU, HON, HS.less H (by repeat (first | exact .slnil | refine .cons_cons _ ?_ | refine .cons _ ?_))⟩
          case measure => simp [intOf]; omega
        · have hll : (l ++ [(⟨xk, xp, xg, xw, xo, xsa, xn, xc⟩ : Ox)]).length = l.length + 1 := by simp
          have hmm : (m ++ [(⟨xk, xp, xg, xw, xo, xsa, xn, xc⟩ : Ox)]).length = m.length + 1 := by simp
          have HLX' := Lib.hid (show ∀ y ∈ l ++ [(⟨xk, xp, xg, xw, xo, xsa, xn, xc⟩ : Ox)], y ∈ xs from fun y hy => by
            rcases List.mem_append.1 hy with hy | hy
            · exact HLX.out y hy
            · cases List.mem_singleton.1 hy; exact HXM.out)
          have HMX' := Lib.hid (show ∀ y ∈ m ++ [(⟨xk, xp, xg, xw, xo, xsa, xn, xc⟩ : Ox)], y ∈ xs from fun y hy => by
            rcases List.mem_append.1 hy with hy | hy
            · exact HMX.out y hy
            · cases List.mem_singleton.1 hy; exact HXM.out)
          go_upto_region 10 with (at_builtin; refine wpList_append_H rfl (.tmp 36) (.tmp 38) 22 rfl elemOp H.alloc 3 rfl rfl 6 rfl rfl rfl rfl (by decide) (by unfold maxLen; omega) (by omega) (fun g1 d1 wz HZ => ?_); clear H C)
          simp only [List.nil_append, List.cons_append, List.append_assoc, List.set_cons_succ, List.set_cons_zero] at HZ
          have H := HS.less (L' := [_, _, _, _, _, _]) HZ (by repeat (first | exact .slnil | refine .cons_cons _ ?_ | refine .cons _ ?_))
          clear HZ
          skip
          try clear C
          try simp only [World.size_alloc, List.nil_append, List.cons_append, List.append_assoc] at H
          have C := H.cells
          try simp only [cellsOf, cellsM, apartOf, apartM, and_true] at C
          by_cases h1 : xp = 1
          · subst h1
            have HB' := Lib.hid (HB.out (fun e => absurd e h4))
            have HD' := Lib.hid (HD.out h4 rfl)
            clear HB HS1 HD
            go_upto_region 12 with (at_builtin; refine wpList_append_H rfl (.tmp 43) (.tmp 45) 22 rfl elemOp H.alloc 4 rfl rfl 6 rfl rfl rfl rfl (by decide) (by unfold maxLen; omega) (by omega) (fun g2 d2 wy HZ => ?_); clear H C)
            simp only [List.nil_append, List.cons_append, List.append_assoc, List.set_cons_succ, List.set_cons_zero] at HZ
            have H := HS.less (L' := [_, _, _, _, _]) HZ (by repeat (first | exact .slnil | refine .cons_cons _ ?_ | refine .cons _ ?_))
            clear HZ
            skip
            try clear C
            try simp only [World.size_alloc, List.nil_append, List.cons_append, List.append_assoc] at H
            have C := H.cells
            try simp only [cellsOf, cellsM, apartOf, apartM, and_true] at C
            go_wp2_with fail
            go_roundw
            case rel =>
              refine ⟨j + 1, _, _, by go_num, by omega, by rw [hll]; omega, by rw [hll, hmm]; omega, HLX', HMX', HB', HD', ?_⟩
              rw [hll, hmm]
              simpa [oxC] using H
            case measure => simp [intOf]; omega
          · have HS' := Lib.hid (HS1.out h4 h1)
            clear HB HS1 HD
            go_wp2_with fail
            go_roundw
            case rel =>
              refine ⟨j + 1, _, m, by go_num, by omega, by rw [hll]; omega, by rw [hll]; omega, HLX', HMX, HS', HON, ?_⟩
              rw [hll]
              have H9 := HS.less (L' := [_, _, _, _, _]) H (by repeat (first | exact .slnil | refine .cons_cons _ ?_ | refine .cons _ ?_))
              simpa [oxC] using H9
            case measure => simp [intOf]; omega
      · obtain rfl : j = xs.length := by omega
        clear hj hlt
        obtain ⟨s3, d3, rfl⟩ := ownsRow_slice (H.at 3 rfl)
        obtain ⟨s4, d4, rfl⟩ := ownsRow_slice (H.at 4 rfl)
        have HM1 := Lib.hid (fun w => gives_ofP (mod_any k 3 w))
        have HM2 := Lib.hid (fun w => gives_ofP (mod_any (wrap64 (k.tdiv 3)) 4 w))
        have hm1 := modF_in (n := k) (m := 3) (by decide) (by decide)
        have hm2 := modF_in (n := wrap64 (k.tdiv 3)) (m := 4) (by decide) (by decide)
        generalize modF k 3 = g at HM1 hm1
        generalize modF (wrap64 (k.tdiv 3)) 4 = wd at HM2 hm2
        skip
        try clear C
        try simp only [World.size_alloc, List.nil_append, List.cons_append, List.append_assoc] at H
        have C := H.cells
        try simp only [cellsOf, cellsM, apartOf, apartM, and_true] at C
        go_wp2_with fail
        refine (HM1.out _).mono ?_
        rintro _ w4 ⟨rfl, hb⟩
        replace H := H.below hb
        clear hb
        try clear C
        try simp only [World.size_alloc, List.nil_append, List.cons_append, List.append_assoc] at H
        try clear wr
        have C := H.cells
        try simp only [cellsOf, cellsM, apartOf, apartM, and_true] at C
        dsimp only
        go_wp2_with fail
        refine (HM2.out _).mono ?_
        rintro _ w5 ⟨rfl, hb⟩
        replace H := H.below hb
        clear hb
        try clear C
        try simp only [World.size_alloc, List.nil_append, List.cons_append, List.append_assoc] at H
        try clear w4
        have C := H.cells
        try simp only [cellsOf, cellsM, apartOf, apartM, and_true] at C
        dsimp only
        clear HM1 HM2
        go_upto_region 14 with fail
        generalize hwb : w5.alloc _ = w6
        replace H := HS.eqW hwb H.alloc
        try simp only [World.size_alloc, List.nil_append, List.cons_append, List.append_assoc] at H
        clear hwb
        generalize w5.heap.size = b12 at H ⊢
        try clear C
        try clear w5
        have C := H.cells
        try simp only [cellsOf, cellsM, apartOf, apartM, and_true] at C
        have hlb : l.length ≤ 22 := by omega
        have HLB := Lib.hid hlb
        obtain ⟨ro, hro⟩ : ∃ ro : Ox, ro = ⟨1, 1, g, wd, 0, none, 0, 0⟩ := ⟨_, rfl⟩
        have hrs := RelF.source HRU.out ro (show oneP ro.p by rw [hro]; rfl) (by rw [hro]) (by rw [hro]; exact read_means (by decide) (by omega) (by omega))
        have HCC3 := ownsRow_cap (H.at 3 rfl)
        obtain ⟨_, _, e3, hcl⟩ := HCC3
        injection e3 with e3 e4 e5
        subst e3 e5
        have HCL := Lib.hid hcl
        clear hcl e4
        have HSL := Lib.hid (show ∀ sa c wx, l.length + 1 ≤ c → Lies wx wx.heap.size sa 6 (l.length + 1) (fun j => oxC (l ++ [ro])[j]!) → Calls Try.prog 12 #[.slice sa (l.length + 1) c, .int .i64 (l.length : Int)] wx (Gives (.tuple #[.int .i64 (sourceP (l ++ [ro]) l.length).1, .bool (sourceP (l ++ [ro]) l.length).2]) wx) from fun sa c wx hc hl => by
          have hlen : (l ++ [ro]).length = l.length + 1 := by simp
          have h := source_any (l := l ++ [ro]) (by omega) (l.length : Int) (sa := sa) (c := c) (by omega) wx (by rw [hlen]; exact hl)
          rw [hlen] at h
          exact h)
        have HCC4 := ownsRow_cap (H.at 4 rfl)
        obtain ⟨_, _, e3, hcl⟩ := HCC4
        injection e3 with e3 e4 e5
        subst e3 e5
        have HCM := Lib.hid hcl
        clear hcl e4
        have HSM := Lib.hid (show ∀ sa c wx, m.length + 1 ≤ c → Lies wx wx.heap.size sa 6 (m.length + 1) (fun j => oxC (m ++ [ro])[j]!) → Calls Try.prog 12 #[.slice sa (m.length + 1) c, .int .i64 (m.length : Int)] wx (Gives (.tuple #[.int .i64 (sourceP (m ++ [ro]) m.length).1, .bool (sourceP (m ++ [ro]) m.length).2]) wx) from fun sa c wx hc hl => by
          have hlen : (m ++ [ro]).length = m.length + 1 := by simp
          have h := source_any (l := m ++ [ro]) (by omega) (m.length : Int) (sa := sa) (c := c) (by omega) wx (by rw [hlen]; exact hl)
          rw [hlen] at h
          exact h)
        have HOCL := Lib.hid (show (l ++ [ro]).flatMap oxC = l.flatMap oxC ++ [.int .i64 1, .int .i64 1, .int .i64 g, .int .i64 wd, .int .i64 0, .slice none 0 0] by rw [hro]; simp [oxC])
        have HOCM := Lib.hid (show (m ++ [ro]).flatMap oxC = m.flatMap oxC ++ [.int .i64 1, .int .i64 1, .int .i64 g, .int .i64 wd, .int .i64 0, .slice none 0 0] by rw [hro]; simp [oxC])
        generalize sourceP (l ++ [ro]) l.length = r1 at HSL hrs
        generalize sourceP (m ++ [ro]) m.length = r2 at HSM hrs
        obtain ⟨ia, ok⟩ := r1
        obtain ⟨ib, is⟩ := r2
        dsimp only at hrs HSL HSM
        obtain ⟨hok, hrs⟩ := hrs
        subst hok
        have HP4 := Lib.hid hrs
        clear hrs hro
        have hn := H.nilRow 38 6
        clear H
        have H := hn
        clear hn
        simp only [List.nil_append, List.cons_append] at H
        refine wp_region_h (by kernel_rfl) [0, 1, 2, 3, 4, 5, 6, 7, 8, 9, 10, 11, 12] (by kernel_rfl) (by kernel_rfl) (by kernel_rfl) (fun _ => False) (H) ?_
        clear H; intro w7 H hz0
        try clear C
        try simp only [World.size_alloc, List.nil_append, List.cons_append, List.append_assoc] at H hz0 ⊢
        clear hz0
        try clear w6
        have C := H.cells
        try simp only [cellsOf, cellsM, apartOf, apartM, and_true] at C
        have Z := H.zs
        try simp only [ltsOf, ltsM, and_true] at Z
        simp only [List.filterMap_cons, List.filterMap_nil, List.getElem?_toArray, List.getElem?_cons_zero, List.getElem?_cons_succ]
        (refine wpH_free rfl rfl rfl (fun _ _ => ?_); go_step; go_step)
        refine wpH_append rfl (.const (.slice none 0 0)) (.tmp 55) 22 rfl elemOp 6 rfl rfl (by simp [Value.ownBlock]) (fun _ h => h.1) rfl (fun w hc => Lies.srcS oxC_len (by decide) HCL.out.1 (hc.hs.rowLies 3 oxC_len rfl rfl) HCL.out.2) (flat_len oxC_len l) (oxC_one l) (by unfold maxLen; omega) (by omega) (N := l.length) (Nat.zero_add _) (fun s5 d5 he5 => ?_)
        (refine wpH_load rfl rfl rfl (by simp [Stay, OneD, NoD, *]) (by simp [*]) (fun _ _ => ?_); go_step; go_step)
        (refine wpH_lit rfl rfl #[.int .i64 1, .int .i64 1, .int .i64 g, .int .i64 wd, .int .i64 0, .slice none 0 0]   38 1 (fun w => by kernel_rfl) (fun bL hbL nbL _ _ => ?_); go_simp; go_step)
        refine wpH_append rfl (.tmp 56) (.tmp 58) 22 rfl elemOp 6 rfl rfl he5 (fun _ h => h.1) rfl (fun w hc => src_lit (Fl.at _ _ _) hc) rfl (fun y hy => by simp only [List.mem_cons, List.mem_nil_iff, or_false] at hy; rcases hy with rfl | rfl | rfl | rfl | rfl | rfl <;> rfl) (by unfold maxLen; omega) (by omega) (N := l.length + 1) rfl (fun s6 d6 he6 => ?_)
        (refine wpH_free rfl rfl rfl (fun _ _ => ?_); go_step; go_step)
        (refine wpH_free rfl rfl rfl (fun _ _ => ?_); go_step; go_step)
        (refine wpH_call rfl rfl (fun wc hc _ _ => ?_); go_step; refine (HSL.out _ _ _ (row_cap40 (hc.hs.at 6 rfl)) (hc.hs.rowLies 6 oxC_len (xs := l ++ [ro]) (by rw [HOCL.out]; rfl) (by simp))).mono ?_; rintro _ wd ⟨rfl, hb⟩; dsimp only; go_step; refine ⟨_, (hc.belowH (fun _ h => h.1) hb).1, (hc.belowH (fun _ h => h.1) hb).2, ?_⟩; clear hb hc wc wd)
        (refine wpH_free rfl rfl rfl (fun _ _ => ?_); go_step; go_step)
        (refine wpH_free rfl rfl rfl (fun _ _ => ?_); go_step; go_step)
        (refine wpH_free rfl rfl rfl (fun _ _ => ?_); go_step; go_step)
        (refine wpH_free rfl rfl rfl (fun _ _ => ?_); go_step; go_step)
        (refine wpH_free rfl rfl rfl (fun _ _ => ?_); go_step; go_step)
        refine wpH_nil ?_
        intro w8 hC
        replace H := hC.hs
        clear hC
        try clear C
        try clear Z
        try simp only [List.nil_append, List.cons_append, List.append_assoc, List.set_cons_succ, List.set_cons_zero] at H
        try clear w7
        have C := H.cells
        try simp only [cellsOf, cellsM, apartOf, apartM, and_true] at C
        replace H := H.less (L' := [.dice w.heap.size bd, .row (.slice s1 xs.length c1) 38 6 xs.length (xs.flatMap oxC), dataI xs, .row (.slice s3 l.length d3) 38 6 l.length (l.flatMap oxC), .row (.slice s4 m.length d4) 38 6 m.length (m.flatMap oxC), .blk b12 #[.int .i64 1, .int .i64 1, .int .i64 g, .int .i64 wd, .int .i64 0, .slice none 0 0] 38]) (by repeat (first | exact .slnil | refine .cons_cons _ ?_ | refine .cons _ ?_))
        try clear C
        have hn := H.nilRow 38 6
        clear H
        have H := hn
        clear hn
        simp only [List.nil_append, List.cons_append] at H
        try clear C
        try simp only [World.size_alloc, List.nil_append, List.cons_append, List.append_assoc] at H
        have C := H.cells
        try simp only [cellsOf, cellsM, apartOf, apartM, and_true] at C
        go_upto_region 15 with fail
        refine wp_region_h (by kernel_rfl) [0, 1, 2, 3, 4, 5, 6, 7, 8, 9, 10, 11, 12] (by kernel_rfl) (by kernel_rfl) (by kernel_rfl) (fun _ => False) (H) ?_
        clear H; intro w9 H hz0
        try clear C
        try simp only [World.size_alloc, List.nil_append, List.cons_append, List.append_assoc] at H hz0 ⊢
        clear hz0
        try clear w8
        have C := H.cells
        try simp only [cellsOf, cellsM, apartOf, apartM, and_true] at C
        have Z := H.zs
        try simp only [ltsOf, ltsM, and_true] at Z
        simp only [List.filterMap_cons, List.filterMap_nil, List.getElem?_toArray, List.getElem?_cons_zero, List.getElem?_cons_succ]
        (refine wpH_free rfl rfl rfl (fun _ _ => ?_); go_step; go_step)
        refine wpH_append rfl (.const (.slice none 0 0)) (.tmp 66) 22 rfl elemOp 6 rfl rfl (by simp [Value.ownBlock]) (fun _ h => h.1) rfl (fun w hc => Lies.srcS oxC_len (by decide) HCM.out.1 (hc.hs.rowLies 4 oxC_len rfl rfl) HCM.out.2) (flat_len oxC_len m) (oxC_one m) (by unfold maxLen; omega) (by omega) (N := m.length) (Nat.zero_add _) (fun s5 d5 he5 => ?_)
        (refine wpH_load rfl rfl rfl (by simp [Stay, OneD, NoD, *]) (by simp [*]) (fun _ _ => ?_); go_step; go_step)
        (refine wpH_lit rfl rfl #[.int .i64 1, .int .i64 1, .int .i64 g, .int .i64 wd, .int .i64 0, .slice none 0 0]   38 1 (fun w => by kernel_rfl) (fun bL hbL nbL _ _ => ?_); go_simp; go_step)
        refine wpH_append rfl (.tmp 67) (.tmp 69) 22 rfl elemOp 6 rfl rfl he5 (fun _ h => h.1) rfl (fun w hc => src_lit (Fl.at _ _ _) hc) rfl (fun y hy => by simp only [List.mem_cons, List.mem_nil_iff, or_false] at hy; rcases hy with rfl | rfl | rfl | rfl | rfl | rfl <;> rfl) (by unfold maxLen; omega) (by omega) (N := m.length + 1) rfl (fun s6 d6 he6 => ?_)
        (refine wpH_free rfl rfl rfl (fun _ _ => ?_); go_step; go_step)
        (refine wpH_free rfl rfl rfl (fun _ _ => ?_); go_step; go_step)
        (refine wpH_call rfl rfl (fun wc hc _ _ => ?_); go_step; refine (HSM.out _ _ _ (row_cap40 (hc.hs.at 6 rfl)) (hc.hs.rowLies 6 oxC_len (xs := m ++ [ro]) (by rw [HOCM.out]; rfl) (by simp))).mono ?_; rintro _ wd ⟨rfl, hb⟩; dsimp only; go_step; refine ⟨_, (hc.belowH (fun _ h => h.1) hb).1, (hc.belowH (fun _ h => h.1) hb).2, ?_⟩; clear hb hc wc wd)
        (refine wpH_free rfl rfl rfl (fun _ _ => ?_); go_step; go_step)
        (refine wpH_free rfl rfl rfl (fun _ _ => ?_); go_step; go_step)
        (refine wpH_free rfl rfl rfl (fun _ _ => ?_); go_step; go_step)
        (refine wpH_free rfl rfl rfl (fun _ _ => ?_); go_step; go_step)
        (refine wpH_free rfl rfl rfl (fun _ _ => ?_); go_step; go_step)
        refine wpH_nil ?_
        intro w10 hC
        replace H := hC.hs
        clear hC
        try clear C
        try clear Z
        try simp only [List.nil_append, List.cons_append, List.append_assoc, List.set_cons_succ, List.set_cons_zero] at H
        try clear w9
        have C := H.cells
        try simp only [cellsOf, cellsM, apartOf, apartM, and_true] at C
        replace H := H.less (L' := [.dice w.heap.size bd, .row (.slice s1 xs.length c1) 38 6 xs.length (xs.flatMap oxC), dataI xs, .row (.slice s3 l.length d3) 38 6 l.length (l.flatMap oxC), .row (.slice s4 m.length d4) 38 6 m.length (m.flatMap oxC)]) (by repeat (first | exact .slnil | refine .cons_cons _ ?_ | refine .cons _ ?_))
        try clear C
        try clear C
        try simp only [World.size_alloc, List.nil_append, List.cons_append, List.append_assoc] at H
        have C := H.cells
        try simp only [cellsOf, cellsM, apartOf, apartM, and_true] at C
        go_upto_region 16 with fail
        skip
        cases ok with
        | false =>
          refine wp_region_xH (by kernel_rfl) (by kernel_rfl) (by kernel_rfl) (by kernel_rfl) (fun _ => False) (H) ?_
          clear H; intro w11 H hz0 hs0
          try clear C
          try simp only [World.size_alloc, List.nil_append, List.cons_append, List.append_assoc] at H hz0
          clear hz0
          try clear w10
          have C := H.cells
          try simp only [cellsOf, cellsM, apartOf, apartM, and_true] at C
          have Z := H.zs
          try simp only [ltsOf, ltsM, and_true] at Z
          have hz0 := Nat.le_refl w11.heap.size
          repeat (first | (refine wpX_skip rfl ?_; go_simp) | (refine wpX_free rfl rfl rfl (fun K hK => ?_); go_step; refine hK _ _ ?_; clear hK K) | (refine wpX_load rfl rfl rfl (by simp [Stay, OneD, NoD, *]) hs0 (by simp [*]) (fun K hK => ?_); go_step; refine hK _ _ ?_; clear hK K))
          (refine wpX_nil ?_; go_step)
          go_wp2_with fail
          refine (pages_any (l := l) (by have := HLB.out; omega) (sa := s3) d3 _ (H.rowLies 3 oxC_len rfl rfl)).mono ?_
          rintro _ w9 ⟨us, v9, rfl, hu, hul, K⟩
          replace H := H.join K (fun A hA => by simp only [List.mem_cons, List.mem_nil_iff, or_false] at hA; rcases hA with rfl; rfl)
          simp only [List.nil_append, List.cons_append] at H
          obtain ⟨s5, c5, rfl⟩ := ownsRow_slice (H.at 5 rfl)
          have HU := Lib.hid hu
          clear K hu
          replace H := H.less (L' := [.row (.slice s4 m.length d4) 38 6 m.length (m.flatMap oxC), .row (.slice s5 us.length c5) 40 2 us.length (us.flatMap encU)]) (by repeat (first | exact .slnil | refine .cons_cons _ ?_ | refine .cons _ ?_))
          try clear C
          skip
          try clear C
          try simp only [World.size_alloc, List.nil_append, List.cons_append, List.append_assoc] at H
          have C := H.cells
          try simp only [cellsOf, cellsM, apartOf, apartM, and_true] at C
          dsimp only
          go_wp2_with fail
          go_loopw [17, 19, 117] (fun nv _ jj wr => ∃ (j : Nat), jj = .int .i64 j ∧ j ≤ us.length ∧ nv = .int .i64 (((us.take j).filter fun u => decide (u.1 = 1)).length : Nat) ∧ HS NoD w [.row (.slice s4 m.length d4) 38 6 m.length (m.flatMap oxC), .row (.slice s5 us.length c5) 40 2 us.length (us.flatMap encU)] wr) (fun _ _ jj _ => us.length - (intOf jj).toNat)
          case atStart => exact ⟨0, rfl, Nat.zero_le _, by simp, H⟩
          case round =>
            clear H C
            obtain ⟨j, rfl, hj, rfl, H⟩ := hrel
            skip
            try clear C
            try simp only [World.size_alloc, List.nil_append, List.cons_append, List.append_assoc] at H
            have C := H.cells
            try simp only [cellsOf, cellsM, apartOf, apartM, and_true] at C
            skip
            by_cases hlt : j < us.length
            · obtain ⟨b, o, hso, hb2, hc⟩ := (H.rowLies 1 encU_len rfl rfl).at hlt
              subst hso
              have HAN := Lib.hid (takeC hlt)
              obtain ⟨uo, huo⟩ : ∃ u, u = us[j]! := ⟨_, rfl⟩
              rw [← huo] at hc HAN
              clear huo
              obtain ⟨u1, u2⟩ := uo
              have c0 : wr.cell? ⟨b, o + j * 2, none⟩ = some (.int .i64 u1) := hc 0 _ rfl
              have c1 : wr.cell? ⟨b, o + j * 2 + 1, none⟩ = some (.int .i64 u2) := hc 1 _ rfl
              clear hc
              have hcb : ((us.take j).filter fun u => decide (u.1 = 1)).length ≤ 1000000 := Nat.le_trans (List.length_filter_le _ _) (by rw [List.length_take]; omega)
              generalize ((us.take j).filter fun u => decide (u.1 = 1)).length = nc at HAN hcb ⊢
              have hnw : IntKind.i64.wrap ((nc : Int) + 1) = ((nc + 1 : Nat) : Int) := by rw [IntWalk.i64_in _ (by omega)]; omega
              have n1 : (b = wr.heap.size) = False := eq_false (by omega)
              have n2 : (wr.heap.size = b) = False := eq_false (by omega)
              go_upto_region 22 with fail
              clear c0 c1 n1 n2
              generalize hwb : wr.alloc _ = w12
              replace H := HS.eqW hwb H.alloc
              try simp only [World.size_alloc, List.nil_append, List.cons_append, List.append_assoc] at H
              clear hwb
              generalize wr.heap.size = bU at H ⊢
              try clear C
              try clear wr
              have C := H.cells
              try simp only [cellsOf, cellsM, apartOf, apartM, and_true] at C
              by_cases h1 : u1 = 1
              · subst h1
                go_wp2_with fail
                go_roundw
                case rel => exact ⟨j + 1, by go_num, by omega, by rw [HAN.out]; rfl, HS.less H (by repeat (first | exact .slnil | refine .cons_cons _ ?_ | refine .cons _ ?_))⟩
                case measure => simp [intOf]; omega
              · have h1b : (u1 == 1) = false := beq_eq_false_iff_ne.2 h1
                go_wp2_with fail
                go_roundw
                case rel => exact ⟨j + 1, by go_num, by omega, by rw [HAN.out]; simp [h1], HS.less H (by repeat (first | exact .slnil | refine .cons_cons _ ?_ | refine .cons _ ?_))⟩
                case measure => simp [intOf]; omega
            · obtain rfl : j = us.length := by omega
              rw [List.take_length]
              clear hlt hj
              have HU2 := Lib.hid (fun vs (h : Uq (runF 0 m noF) vs) => RelF.pages HRU.out HON.out HU.out h)
              have hud : ∀ vs, Uq (runF 0 m noF) vs → (us.filter fun u => decide (u.1 = 1)).length = vs.length := fun vs h => by rw [← HU2.out vs h]; rfl
              have HUD := Lib.hid hud
              clear hud
              generalize (us.filter fun u => decide (u.1 = 1)).length = nc at HUD ⊢
              skip
              go_wp2_with fail
              refine (pages_any (l := m) (by have := HLB.out; omega) (sa := s4) d4 _ (H.rowLies 0 oxC_len rfl rfl)).mono ?_
              rintro _ w10 ⟨vs, v10, rfl, hv, hvl, K⟩
              replace H := H.join K (fun A hA => by simp only [List.mem_cons, List.mem_nil_iff, or_false] at hA; rcases hA with rfl; rfl)
              simp only [List.nil_append, List.cons_append] at H
              obtain ⟨s6, c6, rfl⟩ := ownsRow_slice (H.at 2 rfl)
              obtain rfl := HUD.out vs hv
              clear K hv HUD
              skip
              try clear C
              try simp only [World.size_alloc, List.nil_append, List.cons_append, List.append_assoc] at H
              have C := H.cells
              try simp only [cellsOf, cellsM, apartOf, apartM, and_true] at C
              dsimp only
              go_wp2_with fail
              refine (HAW.out _).mono ?_
              rintro _ w13 ⟨rfl, hb⟩
              replace H := H.below hb
              clear hb
              try clear C
              try simp only [World.size_alloc, List.nil_append, List.cons_append, List.append_assoc] at H
              try clear w10
              have C := H.cells
              try simp only [cellsOf, cellsM, apartOf, apartM, and_true] at C
              dsimp only
              go_wp2_with fail
              go_ret
              exact ⟨rfl, H.done⟩
        | true =>
          skip
          obtain ⟨ja, jb, e1, e2, hja, hjb, hxy⟩ := HP4.out rfl
          subst e1 e2
          have HDK := Lib.hid (fun w (h : dataK xs w) => dataK_at h (HLX.out l[ja]! (by rw [getElem!_pos l ja hja]; exact List.getElem_mem hja)))
          clear HP4
          refine wp_region_xH (by kernel_rfl) (by kernel_rfl) (by kernel_rfl) (by kernel_rfl) (fun _ => False) (H) ?_
          clear H; intro w14 H hz0 hs0
          try clear C
          try simp only [World.size_alloc, List.nil_append, List.cons_append, List.append_assoc] at H hz0
          clear hz0
          try clear w10
          have C := H.cells
          try simp only [cellsOf, cellsM, apartOf, apartM, and_true] at C
          have Z := H.zs
          try simp only [ltsOf, ltsM, and_true] at Z
          have hz0 := Nat.le_refl w14.heap.size
          obtain ⟨b9, o9, e9, hb9, d0, d1, d2, d3', d4', d5⟩ := oxCells (H.rowLies 3 oxC_len rfl rfl) hja
          obtain ⟨b8, o8, e8, hb8, f0, f1, f2, f3, f4, f5⟩ := oxCells (H.rowLies 4 oxC_len rfl rfl) hjb
          subst e9 e8
          rw [← hxy] at f0 f1 f2 f3 f4 f5
          have HSA := Lib.hid (fun w h => same40_any l[ja]! w h)
          clear hxy
          generalize l[ja]! = x at d0 d1 d2 d3' d4' d5 f0 f1 f2 f3 f4 f5 HSA HDK
          obtain ⟨xk, xp, xg, xw, xo, xsa, xn, xc⟩ := x
          dsimp only at d0 d1 d2 d3' d4' d5 f0 f1 f2 f3 f4 f5
          have i1 : (ja : Int) < l.length := by omega
          have i2 : ¬ (l.length : Int) ≤ ja := by omega
          have i3 : (jb : Int) < m.length := by omega
          have i4 : ¬ (m.length : Int) ≤ jb := by omega
          have i5 : ¬ l.length ≤ ja := by omega
          have i6 : ¬ m.length ≤ jb := by omega
          repeat (first | (refine wpX_skip rfl ?_; go_simp) | (refine wpX_free rfl rfl rfl (fun K hK => ?_); go_step; refine hK _ _ ?_; clear hK K) | (refine wpX_load rfl rfl rfl (by simp [Stay, OneD, NoD, *]) hs0 (by simp [*]) (fun K hK => ?_); go_step; refine hK _ _ ?_; clear hK K))
          refine wpX_eff rfl rfl (fun _ _ => ?_)
          go_step
          refine (HSA.out _ (HDK.out _ (H.at 2 rfl).1)).mono ?_
          rintro _ w15 ⟨rfl, hb⟩
          replace hs0 := hs0.belowS hz0 hb
          replace hz0 := Nat.le_trans hz0 hb.size
          replace H := H.below hb
          clear hb
          try clear C
          have C := H.cells
          try simp only [cellsOf, cellsM, apartOf, apartM, and_true] at C
          try clear w14
          dsimp only
          go_step
          refine ⟨hs0, ?_⟩
          repeat (first | (refine wpX_skip rfl ?_; go_simp) | (refine wpX_free rfl rfl rfl (fun K hK => ?_); go_step; refine hK _ _ ?_; clear hK K) | (refine wpX_load rfl rfl rfl (by simp [Stay, OneD, NoD, *]) hs0 (by simp [*]) (fun K hK => ?_); go_step; refine hK _ _ ?_; clear hK K))
          (refine wpX_nil ?_; go_step)
          generalize (some (⟨b9, o9, none⟩ : Addr)) = s3 at H ⊢
          generalize (some (⟨b8, o8, none⟩ : Addr)) = s4 at H ⊢
          go_wp2_with fail
          refine (pages_any (l := l) (by have := HLB.out; omega) (sa := s3) d3 _ (H.rowLies 3 oxC_len rfl rfl)).mono ?_
          rintro _ w9 ⟨us, v9, rfl, hu, hul, K⟩
          replace H := H.join K (fun A hA => by simp only [List.mem_cons, List.mem_nil_iff, or_false] at hA; rcases hA with rfl; rfl)
          simp only [List.nil_append, List.cons_append] at H
          obtain ⟨s5, c5, rfl⟩ := ownsRow_slice (H.at 5 rfl)
          have HU := Lib.hid hu
          clear K hu
          replace H := H.less (L' := [.row (.slice s4 m.length d4) 38 6 m.length (m.flatMap oxC), .row (.slice s5 us.length c5) 40 2 us.length (us.flatMap encU)]) (by repeat (first | exact .slnil | refine .cons_cons _ ?_ | refine .cons _ ?_))
          try clear C
          skip
          try clear C
          try simp only [World.size_alloc, List.nil_append, List.cons_append, List.append_assoc] at H
          have C := H.cells
          try simp only [cellsOf, cellsM, apartOf, apartM, and_true] at C
          dsimp only
          go_wp2_with fail
          go_loopw [17, 19, 117] (fun nv _ jj wr => ∃ (j : Nat), jj = .int .i64 j ∧ j ≤ us.length ∧ nv = .int .i64 (((us.take j).filter fun u => decide (u.1 = 1)).length : Nat) ∧ HS NoD w [.row (.slice s4 m.length d4) 38 6 m.length (m.flatMap oxC), .row (.slice s5 us.length c5) 40 2 us.length (us.flatMap encU)] wr) (fun _ _ jj _ => us.length - (intOf jj).toNat)
          case atStart => exact ⟨0, rfl, Nat.zero_le _, by simp, H⟩
          case round =>
            clear H C
            obtain ⟨j, rfl, hj, rfl, H⟩ := hrel
            skip
            try clear C
            try simp only [World.size_alloc, List.nil_append, List.cons_append, List.append_assoc] at H
            have C := H.cells
            try simp only [cellsOf, cellsM, apartOf, apartM, and_true] at C
            skip
            by_cases hlt : j < us.length
            · obtain ⟨b, o, hso, hb2, hc⟩ := (H.rowLies 1 encU_len rfl rfl).at hlt
              subst hso
              have HAN := Lib.hid (takeC hlt)
              obtain ⟨uo, huo⟩ : ∃ u, u = us[j]! := ⟨_, rfl⟩
              rw [← huo] at hc HAN
              clear huo
              obtain ⟨u1, u2⟩ := uo
              have c0 : wr.cell? ⟨b, o + j * 2, none⟩ = some (.int .i64 u1) := hc 0 _ rfl
              have c1 : wr.cell? ⟨b, o + j * 2 + 1, none⟩ = some (.int .i64 u2) := hc 1 _ rfl
              clear hc
              have hcb : ((us.take j).filter fun u => decide (u.1 = 1)).length ≤ 1000000 := Nat.le_trans (List.length_filter_le _ _) (by rw [List.length_take]; omega)
              generalize ((us.take j).filter fun u => decide (u.1 = 1)).length = nc at HAN hcb ⊢
              have hnw : IntKind.i64.wrap ((nc : Int) + 1) = ((nc + 1 : Nat) : Int) := by rw [IntWalk.i64_in _ (by omega)]; omega
              have n1 : (b = wr.heap.size) = False := eq_false (by omega)
              have n2 : (wr.heap.size = b) = False := eq_false (by omega)
              go_upto_region 22 with fail
              clear c0 c1 n1 n2
              generalize hwb : wr.alloc _ = w16
              replace H := HS.eqW hwb H.alloc
              try simp only [World.size_alloc, List.nil_append, List.cons_append, List.append_assoc] at H
              clear hwb
              generalize wr.heap.size = bU at H ⊢
              try clear C
              try clear wr
              have C := H.cells
              try simp only [cellsOf, cellsM, apartOf, apartM, and_true] at C
              by_cases h1 : u1 = 1
              · subst h1
                go_wp2_with fail
                go_roundw
                case rel => exact ⟨j + 1, by go_num, by omega, by rw [HAN.out]; rfl, HS.less H (by repeat (first | exact .slnil | refine .cons_cons _ ?_ | refine .cons _ ?_))⟩
                case measure => simp [intOf]; omega
              · have h1b : (u1 == 1) = false := beq_eq_false_iff_ne.2 h1
                go_wp2_with fail
                go_roundw
                case rel => exact ⟨j + 1, by go_num, by omega, by rw [HAN.out]; simp [h1], HS.less H (by repeat (first | exact .slnil | refine .cons_cons _ ?_ | refine .cons _ ?_))⟩
                case measure => simp [intOf]; omega
            · obtain rfl : j = us.length := by omega
              rw [List.take_length]
              clear hlt hj
              have HU2 := Lib.hid (fun vs (h : Uq (runF 0 m noF) vs) => RelF.pages HRU.out HON.out HU.out h)
              have hud : ∀ vs, Uq (runF 0 m noF) vs → (us.filter fun u => decide (u.1 = 1)).length = vs.length := fun vs h => by rw [← HU2.out vs h]; rfl
              have HUD := Lib.hid hud
              clear hud
              generalize (us.filter fun u => decide (u.1 = 1)).length = nc at HUD ⊢
              skip
              go_wp2_with fail
              refine (pages_any (l := m) (by have := HLB.out; omega) (sa := s4) d4 _ (H.rowLies 0 oxC_len rfl rfl)).mono ?_
              rintro _ w10 ⟨vs, v10, rfl, hv, hvl, K⟩
              replace H := H.join K (fun A hA => by simp only [List.mem_cons, List.mem_nil_iff, or_false] at hA; rcases hA with rfl; rfl)
              simp only [List.nil_append, List.cons_append] at H
              obtain ⟨s6, c6, rfl⟩ := ownsRow_slice (H.at 2 rfl)
              obtain rfl := HUD.out vs hv
              clear K hv HUD
              skip
              try clear C
              try simp only [World.size_alloc, List.nil_append, List.cons_append, List.append_assoc] at H
              have C := H.cells
              try simp only [cellsOf, cellsM, apartOf, apartM, and_true] at C
              dsimp only
              go_wp2_with fail
              refine (HAW.out _).mono ?_
              rintro _ w17 ⟨rfl, hb⟩
              replace H := H.below hb
              clear hb
              try clear C
              try simp only [World.size_alloc, List.nil_append, List.cons_append, List.append_assoc] at H
              try clear w10
              have C := H.cells
              try simp only [cellsOf, cellsM, apartOf, apartM, and_true] at C
              dsimp only
              go_wp2_with fail
              go_ret
              exact ⟨rfl, H.done⟩
  · rw [decide_eq_false h400] at hli
    have HLI := Lib.hid hli
    clear hli
    go_enter Try.func6, Try.ntmps6
    have H := HS.start NoD w
    go_wp2_with fail
    refine (gives_ofP (HLI.out _)).mono ?_
    rintro _ w1 ⟨rfl, hb⟩
    replace H := H.below hb
    clear hb
    try clear C
    try simp only [World.size_alloc, List.nil_append, List.cons_append, List.append_assoc] at H
    have C := H.cells
    try simp only [cellsOf, cellsM, apartOf, apartM, and_true] at C
    dsimp only
    go_wp2_with fail
    refine (HAW.out _).mono ?_
    rintro _ w2 ⟨rfl, hb⟩
    replace H := H.below hb
    clear hb
    try clear C
    try simp only [World.size_alloc, List.nil_append, List.cons_append, List.append_assoc] at H
    try clear w1
    have C := H.cells
    try simp only [cellsOf, cellsM, apartOf, apartM, and_true] at C
    dsimp only
    go_wp2_with fail
    go_ret
    exact ⟨rfl, H.done⟩
end Go.Proofs.Ythpoanlmaafanaa
