/- The statement ContainStops: its walk. -/
import Derived.Test.YtmnddnlabdafcaaC5
import Derived.Test.YtmnddnlabdafcaaForks
namespace Go.Proofs.Ytmnddnlabdafcaa
set_option linter.unusedSimpArgs false
set_option linter.unusedVariables false
open Go.RowKit
set_option maxRecDepth 100000
attribute [local go_sem] lt_more ne_more ne_more'
attribute [local irreducible] wpX wpF Calls

theorem ownsRow_max {w : World} {B k n : Nat} {e : TypeId} {v : Value} {cs : List Value} (h : w.ownsRow B e k v n cs) : n ≤ maxLen := by
  rcases h.2 with ⟨-, h2⟩ | ⟨g, cap, cur, -, -, -, h3, h4, -⟩
  · rw [h2]; exact Nat.zero_le _
  · exact Nat.le_trans h3 h4
theorem stopsN_take (l : List Dd) (j : Nat) : stopsN (l.take j) ≤ stopsN l := ((List.take_sublist j l).filter _).length_le
theorem StopsAs.le {f s : Int} {must : Bool} {l : List Dd} (h : StopsAs f must s l) (j : Nat) : stopsN (l.take j) ≤ 1 := by
  have h1 := stopsN_take l j
  rcases h.n with ⟨-, h2, -⟩ | ⟨-, h2⟩ <;> omega
set_option maxHeartbeats 16000000 in
theorem stops_walk (sa : Option Addr) (len cap : Nat) (hl : len ≤ maxLen) (f : Int) (nn : Bool) (w : World) (hI : Ints w sa len) :
    Calls Try.prog 9 #[.slice sa len cap, .int .i64 f, .bool nn] w (Gives (.bool true) w) := by
  have HI := Lib.hid hI
  clear hI
  have hli := light_any sa len cap hl
  clear hl
  have HAW := Lib.hid awake33_any
  by_cases h400 : len ≤ 400
  · rw [decide_eq_true h400] at hli
    have HLI := Lib.hid hli
    clear hli
    go_enter Try.func9, Try.ntmps9
    have H := HS.start NoD w
    go_wp2_with fail
    refine (gives_of (HLI.out _)).mono ?_
    rintro _ w1 ⟨rfl, hb⟩
    replace H := H.below hb
    clear hb
    try clear C
    try simp only [World.size_alloc, List.nil_append, List.cons_append, List.append_assoc] at H
    have C := H.cells
    try simp only [cellsOf, cellsM, apartOf, apartM, and_true] at C
    dsimp only
    go_wp2_with fail
    refine (roll_at w.heap.size _ _ _ h400 _ H.size (H.ints HI.out)).mono ?_
    rintro _ w2 ⟨bd, rfl, hd, hb, hbb⟩
    replace H := H.getsDice hb hd hbb (Nat.le_refl _)
    clear hb hd hbb
    try clear C
    try simp only [World.size_alloc, List.nil_append, List.cons_append, List.append_assoc] at H
    try clear w1
    have C := H.cells
    try simp only [cellsOf, cellsM, apartOf, apartM, and_true] at C
    dsimp only
    go_wp2_with fail
    refine (mheld_any w.heap.size bd _ (H.at 0 rfl) H.size).mono ?_
    rintro _ w2 ⟨v1, F, u, qs, rfl, hhe, K⟩
    replace H := HS.joinDice H 0 rfl K (fun A hA => by simp only [List.mem_cons, List.mem_nil_iff, or_false] at hA; rcases hA with rfl | rfl <;> rfl)
    clear K
    simp only [List.nil_append, List.cons_append] at H
    have hF1 := hhe.fr.low
    have hF2 := hhe.fr.high
    obtain ⟨sf, cf, rfl⟩ := ownsRow_slice (H.at 1 rfl)
    obtain ⟨g, rfl, hgs, hcap⟩ := ownsRow_ptr (H.at 1 rfl) (by omega)
    clear hgs hcap
    have HHE := Lib.hid hhe
    clear hhe
    skip
    try clear C
    try simp only [World.size_alloc, List.nil_append, List.cons_append, List.append_assoc] at H
    have C := H.cells
    try simp only [cellsOf, cellsM, apartOf, apartM, and_true] at C
    dsimp only
    obtain ⟨md, hmd⟩ : ∃ md, md = modF f F.length := ⟨_, rfl⟩
    have hmc : ∀ w, Calls Try.prog 17 #[.int .i64 f, .int .i64 F.length] w (Gives (.int .i64 md) w) := fun w => by rw [hmd]; exact gives_of (mod_any _ _ _)
    have hmb := modF_in (n := f) (m := F.length) (by omega) (by omega)
    rw [← hmd] at hmb
    clear hmd
    obtain ⟨k, rfl⟩ : ∃ k : Nat, md = k := ⟨md.toNat, by omega⟩
    have hk : k < F.length := by omega
    have HMC := Lib.hid hmc
    clear hmc hmb
    go_wp2_with fail
    refine (HMC.out _).mono ?_
    rintro _ w3 ⟨rfl, hb⟩
    replace H := H.below hb
    clear hb
    try clear C
    try simp only [World.size_alloc, List.nil_append, List.cons_append, List.append_assoc] at H
    try clear w2
    have C := H.cells
    try simp only [cellsOf, cellsM, apartOf, apartM, and_true] at C
    dsimp only
    clear HMC
    go_wp2_with fail
    have HFI := Lib.hid (freeI_or F)
    have hfr := r28free_any (F := F) (by omega) cf w3 (H.rowLies 1 frC_len rfl rfl)
    generalize freeI F = fi at HFI hfr
    refine (hfr).mono ?_
    rintro _ w4 ⟨rfl, hb⟩
    replace H := H.below hb
    clear hb
    try clear C
    try simp only [World.size_alloc, List.nil_append, List.cons_append, List.append_assoc] at H
    try clear w3
    have C := H.cells
    try simp only [cellsOf, cellsM, apartOf, apartM, and_true] at C
    dsimp only
    clear hfr
    cases nn with
    | true =>
      have HT := Lib.hid (show (-1 : Int) = -1 ∨ (freeAtF F (-1) = true ∧ (-1 : Int) ≠ k) from Or.inl rfl)
      obtain ⟨l, hdec, hst⟩ := dec_stops HHE.out.fr (ps := qs.map (·.p)) (f := (k : Int)) (by omega) (by omega) HT.out
      have HDE := Lib.hid (fun w hl hp => cdecide_any HHE.out.fr HHE.out.pr.good (k : Int) (-1) (sa := some ⟨g, 0, none⟩) cf (v := u) w hl hp)
      rw [hdec] at HDE
      have hFk : F[((k : Nat) : Int).toNat]! = F[k]! := rfl
      rw [hFk] at hst
      clear hFk hdec
      obtain ⟨xo, hxo⟩ : ∃ x, x = F[k]! := ⟨_, rfl⟩
      rw [← hxo] at hst
      have HXO := Lib.hid hxo
      clear hxo
      have HST := Lib.hid hst
      clear hst
      go_wp2_with fail
      refine (HDE.out _ (H.rowLies 1 frC_len rfl rfl) (H.ownPs 2 rfl)).mono ?_
      rintro _ w5 ⟨sd, cd, rfl, hr, hb⟩
      replace H := (H).getsRow hb hr
      clear hb hr
      try clear C
      try simp only [World.size_alloc, List.nil_append, List.cons_append, List.append_assoc] at H
      try clear w4
      have C := H.cells
      try simp only [cellsOf, cellsM, apartOf, apartM, and_true] at C
      dsimp only
      clear HDE
      have hlm := ownsRow_max (H.at 3 rfl)
      unfold maxLen at hlm
      go_wp2_with fail
      go_loopw [12, 49] (fun sn jj wr => ∃ (j : Nat), sn = .int .i64 (stopsN (l.take j) : Nat) ∧ jj = .int .i64 j ∧ j ≤ l.length ∧ HS NoD w [.dice w.heap.size bd, .row (.slice (some ⟨g, 0, none⟩) F.length cf) 66 2 F.length (F.flatMap frC), Item.many (PsR u qs), .row (.slice sd l.length cd) 76 5 l.length (l.flatMap ddC)] wr) (fun _ jj _ => l.length - (intOf jj).toNat)
      case atStart => exact ⟨0, rfl, rfl, Nat.zero_le _, H⟩
      case round =>
        clear H C
        obtain ⟨j, rfl, rfl, hj, H⟩ := hrel
        skip
        try clear C
        try simp only [World.size_alloc, List.nil_append, List.cons_append, List.append_assoc] at H
        have C := H.cells
        try simp only [cellsOf, cellsM, apartOf, apartM, and_true] at C
        have hnl := HST.out.le j
        by_cases hlt : j < l.length
        · obtain ⟨b, o, rfl, hb, hc⟩ := (H.rowLies 3 ddC_len rfl rfl).at hlt
          have HSU := Lib.hid (stopsN_succ hlt)
          have hea := HST.out.each _ (mem_at hlt)
          obtain ⟨x, hx⟩ : ∃ x, x = l[j]! := ⟨_, rfl⟩
          rw [← hx] at hc hea HSU
          obtain ⟨x0, x1, x2, x3, x4⟩ := x
          have c0 : wr.cell? ⟨b, o + j * 5, none⟩ = some (.int .i64 x0) := hc 0 _ rfl
          have c1 : wr.cell? ⟨b, o + j * 5 + 1, none⟩ = some (.int .i64 x1) := hc 1 _ rfl
          have c2 : wr.cell? ⟨b, o + j * 5 + 2, none⟩ = some (.int .i64 x2) := hc 2 _ rfl
          have c3 : wr.cell? ⟨b, o + j * 5 + 3, none⟩ = some (.int .i64 x3) := hc 3 _ rfl
          have c4 : wr.cell? ⟨b, o + j * 5 + 4, none⟩ = some (.int .i64 x4) := hc 4 _ rfl
          clear hc hx
          dsimp only at hea HSU
          obtain ⟨e1, hea⟩ := hea
          subst e1
          generalize stopsN (l.take j) = n at HSU hnl ⊢
          go_upto_region 13 with fail
          clear c0 c1 c2 c3 c4
          generalize hwb : wr.alloc _ = w6
          replace H := HS.eqW hwb H.alloc
          try simp only [World.size_alloc, List.nil_append, List.cons_append, List.append_assoc] at H
          clear hwb
          generalize wr.heap.size = bX at H ⊢
          try clear C
          try clear wr
          have C := H.cells
          try simp only [cellsOf, cellsM, apartOf, apartM, and_true] at C
          by_cases hx2 : x0 = 2
          · subst hx2
            go_wp2_with fail
            go_roundw
            case rel => exact ⟨j + 1, by rw [HSU.out]; rfl, by go_num, by omega, H.less (by repeat (first | exact .slnil | refine .cons_cons _ ?_ | refine .cons _ ?_))⟩
            case measure => simp [intOf]; omega
          have hx2b : (x0 == 2) = false := beq_eq_false_iff_ne.2 hx2
          by_cases hx3 : x0 = 3
          · subst hx3
            go_wp2_with fail
            go_roundw
            case rel => exact ⟨j + 1, by rw [HSU.out]; rfl, by go_num, by omega, H.less (by repeat (first | exact .slnil | refine .cons_cons _ ?_ | refine .cons _ ?_))⟩
            case measure => simp [intOf]; omega
          have hx3b : (x0 == 3) = false := beq_eq_false_iff_ne.2 hx3
          obtain rfl : x2 = 0 := by omega
          by_cases hx6 : x0 = 6
          · subst hx6
            go_wp2_with fail
            go_roundw
            case rel => exact ⟨j + 1, by rw [HSU.out]; go_num, by go_num, by omega, H.less (by repeat (first | exact .slnil | refine .cons_cons _ ?_ | refine .cons _ ?_))⟩
            case measure => simp [intOf]; omega
          have hx6b : (x0 == 6) = false := beq_eq_false_iff_ne.2 hx6
          go_wp2_with fail
          go_roundw
          case rel => exact ⟨j + 1, by rw [HSU.out, if_neg hx6]; rfl, by go_num, by omega, H.less (by repeat (first | exact .slnil | refine .cons_cons _ ?_ | refine .cons _ ?_))⟩
          case measure => simp [intOf]; omega
        · have hje : j = l.length := by omega
          subst hje
          have HN := Lib.hid HST.out.n
          have HB5 := Lib.hid HST.out.bad
          have HFB := Lib.hid (show ∀ b o, some (⟨g, 0, none⟩ : Addr) = some ⟨b, o, none⟩ → True from fun _ _ _ => trivial)
          rw [List.take_length] at hnl ⊢
          generalize stopsN l = n at HN hnl ⊢
          obtain ⟨s, hs⟩ : ∃ s, s = xo.st := ⟨_, rfl⟩
          have c0 : wr.cell? ⟨g, k * 2, none⟩ = some (.int .i64 s) := by
            have h1 := H.rowCells 1 rfl (k * 2) (by omega)
            exact h1.1.trans (flat_get frC_len F k 0 (.int .i64 s) hk (by rw [← HXO.out, hs]; rfl))
          rw [← hs] at HN HB5
          clear hs
          by_cases h4 : s = 4
          · subst h4
            obtain ⟨hn, hl1⟩ : n = 1 ∧ l.length = 1 := by
              rcases HN.out with ⟨-, h1, h2⟩ | ⟨h1, -⟩
              · exact ⟨h1, h2⟩
              · exact absurd h1 (by unfold mustB; simp)
            rw [hl1] at H ⊢
            subst hn
            go_wp2_with fail
            refine (HAW.out _).mono ?_
            rintro _ w7 ⟨rfl, hb⟩
            replace H := H.below hb
            clear hb
            try clear C
            try simp only [World.size_alloc, List.nil_append, List.cons_append, List.append_assoc] at H
            try clear w6
            have C := H.cells
            try simp only [cellsOf, cellsM, apartOf, apartM, and_true] at C
            dsimp only
            go_wp2_with fail
            go_ret
            exact ⟨rfl, H.done⟩
          have h4b : (s == 4) = false := beq_eq_false_iff_ne.2 h4
          by_cases h3 : s = 3
          · subst h3
            obtain ⟨hn, hl1⟩ : n = 1 ∧ l.length = 1 := by
              rcases HN.out with ⟨-, h1, h2⟩ | ⟨h1, -⟩
              · exact ⟨h1, h2⟩
              · exact absurd h1 (by unfold mustB; simp; try omega)
            rw [hl1] at H ⊢
            subst hn
            go_wp2_with fail
            refine (HAW.out _).mono ?_
            rintro _ w8 ⟨rfl, hb⟩
            replace H := H.below hb
            clear hb
            try clear C
            try simp only [World.size_alloc, List.nil_append, List.cons_append, List.append_assoc] at H
            try clear w7
            have C := H.cells
            try simp only [cellsOf, cellsM, apartOf, apartM, and_true] at C
            dsimp only
            go_wp2_with fail
            go_ret
            exact ⟨rfl, H.done⟩
          have h3b : (s == 3) = false := beq_eq_false_iff_ne.2 h3
          obtain rfl : n = 0 := by
            rcases HN.out with ⟨h1, -⟩ | ⟨-, h1⟩
            · exact absurd h1 (by unfold mustB; simp [h4, h3])
            · exact h1
          by_cases h5 : s = 5
          · subst h5
            have hl0 : l.length = 0 := by rw [HB5.out rfl]; rfl
            rw [hl0] at H ⊢
            go_wp2_with fail
            refine (HAW.out _).mono ?_
            rintro _ w9 ⟨rfl, hb⟩
            replace H := H.below hb
            clear hb
            try clear C
            try simp only [World.size_alloc, List.nil_append, List.cons_append, List.append_assoc] at H
            try clear w8
            have C := H.cells
            try simp only [cellsOf, cellsM, apartOf, apartM, and_true] at C
            dsimp only
            go_wp2_with fail
            go_ret
            exact ⟨rfl, H.done⟩
          have h5b : (s == 5) = false := beq_eq_false_iff_ne.2 h5
          go_wp2_with fail
          refine (HAW.out _).mono ?_
          rintro _ w10 ⟨rfl, hb⟩
          replace H := H.below hb
          clear hb
          try clear C
          try simp only [World.size_alloc, List.nil_append, List.cons_append, List.append_assoc] at H
          try clear w9
          have C := H.cells
          try simp only [cellsOf, cellsM, apartOf, apartM, and_true] at C
          dsimp only
          go_wp2_with fail
          go_ret
          exact ⟨rfl, H.done⟩
    | false =>
      by_cases hfk : fi = k
      · subst hfk
        have HT := Lib.hid (show (-1 : Int) = -1 ∨ (freeAtF F (-1) = true ∧ (-1 : Int) ≠ k) from Or.inl rfl)
        obtain ⟨l, hdec, hst⟩ := dec_stops HHE.out.fr (ps := qs.map (·.p)) (f := (k : Int)) (by omega) (by omega) HT.out
        have HDE := Lib.hid (fun w hl hp => cdecide_any HHE.out.fr HHE.out.pr.good (k : Int) (-1) (sa := some ⟨g, 0, none⟩) cf (v := u) w hl hp)
        rw [hdec] at HDE
        have hFk : F[((k : Nat) : Int).toNat]! = F[k]! := rfl
        rw [hFk] at hst
        clear hFk hdec
        obtain ⟨xo, hxo⟩ : ∃ x, x = F[k]! := ⟨_, rfl⟩
        rw [← hxo] at hst
        have HXO := Lib.hid hxo
        clear hxo
        have HST := Lib.hid hst
        clear hst
        go_wp2_with fail
        refine (HDE.out _ (H.rowLies 1 frC_len rfl rfl) (H.ownPs 2 rfl)).mono ?_
        rintro _ w11 ⟨sd, cd, rfl, hr, hb⟩
        replace H := (H).getsRow hb hr
        clear hb hr
        try clear C
        try simp only [World.size_alloc, List.nil_append, List.cons_append, List.append_assoc] at H
        try clear w10
        have C := H.cells
        try simp only [cellsOf, cellsM, apartOf, apartM, and_true] at C
        dsimp only
        clear HDE
        have hlm := ownsRow_max (H.at 3 rfl)
        unfold maxLen at hlm
        go_wp2_with fail
        go_loopw [12, 49] (fun sn jj wr => ∃ (j : Nat), sn = .int .i64 (stopsN (l.take j) : Nat) ∧ jj = .int .i64 j ∧ j ≤ l.length ∧ HS NoD w [.dice w.heap.size bd, .row (.slice (some ⟨g, 0, none⟩) F.length cf) 66 2 F.length (F.flatMap frC), Item.many (PsR u qs), .row (.slice sd l.length cd) 76 5 l.length (l.flatMap ddC)] wr) (fun _ jj _ => l.length - (intOf jj).toNat)
        case atStart => exact ⟨0, rfl, rfl, Nat.zero_le _, H⟩
        case round =>
          clear H C
          obtain ⟨j, rfl, rfl, hj, H⟩ := hrel
          skip
          try clear C
          try simp only [World.size_alloc, List.nil_append, List.cons_append, List.append_assoc] at H
          have C := H.cells
          try simp only [cellsOf, cellsM, apartOf, apartM, and_true] at C
          have hnl := HST.out.le j
          by_cases hlt : j < l.length
          · obtain ⟨b, o, rfl, hb, hc⟩ := (H.rowLies 3 ddC_len rfl rfl).at hlt
            have HSU := Lib.hid (stopsN_succ hlt)
            have hea := HST.out.each _ (mem_at hlt)
            obtain ⟨x, hx⟩ : ∃ x, x = l[j]! := ⟨_, rfl⟩
            rw [← hx] at hc hea HSU
            obtain ⟨x0, x1, x2, x3, x4⟩ := x
            have c0 : wr.cell? ⟨b, o + j * 5, none⟩ = some (.int .i64 x0) := hc 0 _ rfl
            have c1 : wr.cell? ⟨b, o + j * 5 + 1, none⟩ = some (.int .i64 x1) := hc 1 _ rfl
            have c2 : wr.cell? ⟨b, o + j * 5 + 2, none⟩ = some (.int .i64 x2) := hc 2 _ rfl
            have c3 : wr.cell? ⟨b, o + j * 5 + 3, none⟩ = some (.int .i64 x3) := hc 3 _ rfl
            have c4 : wr.cell? ⟨b, o + j * 5 + 4, none⟩ = some (.int .i64 x4) := hc 4 _ rfl
            clear hc hx
            dsimp only at hea HSU
            obtain ⟨e1, hea⟩ := hea
            subst e1
            generalize stopsN (l.take j) = n at HSU hnl ⊢
            go_upto_region 13 with fail
            clear c0 c1 c2 c3 c4
            generalize hwb : wr.alloc _ = w12
            replace H := HS.eqW hwb H.alloc
            try simp only [World.size_alloc, List.nil_append, List.cons_append, List.append_assoc] at H
            clear hwb
            generalize wr.heap.size = bX at H ⊢
            try clear C
            try clear wr
            have C := H.cells
            try simp only [cellsOf, cellsM, apartOf, apartM, and_true] at C
            by_cases hx2 : x0 = 2
            · subst hx2
              go_wp2_with fail
              go_roundw
              case rel => exact ⟨j + 1, by rw [HSU.out]; rfl, by go_num, by omega, H.less (by repeat (first | exact .slnil | refine .cons_cons _ ?_ | refine .cons _ ?_))⟩
              case measure => simp [intOf]; omega
            have hx2b : (x0 == 2) = false := beq_eq_false_iff_ne.2 hx2
            by_cases hx3 : x0 = 3
            · subst hx3
              go_wp2_with fail
              go_roundw
              case rel => exact ⟨j + 1, by rw [HSU.out]; rfl, by go_num, by omega, H.less (by repeat (first | exact .slnil | refine .cons_cons _ ?_ | refine .cons _ ?_))⟩
              case measure => simp [intOf]; omega
            have hx3b : (x0 == 3) = false := beq_eq_false_iff_ne.2 hx3
            obtain rfl : x2 = 0 := by omega
            by_cases hx6 : x0 = 6
            · subst hx6
              go_wp2_with fail
              go_roundw
              case rel => exact ⟨j + 1, by rw [HSU.out]; go_num, by go_num, by omega, H.less (by repeat (first | exact .slnil | refine .cons_cons _ ?_ | refine .cons _ ?_))⟩
              case measure => simp [intOf]; omega
            have hx6b : (x0 == 6) = false := beq_eq_false_iff_ne.2 hx6
            go_wp2_with fail
            go_roundw
            case rel => exact ⟨j + 1, by rw [HSU.out, if_neg hx6]; rfl, by go_num, by omega, H.less (by repeat (first | exact .slnil | refine .cons_cons _ ?_ | refine .cons _ ?_))⟩
            case measure => simp [intOf]; omega
          · have hje : j = l.length := by omega
            subst hje
            have HN := Lib.hid HST.out.n
            have HB5 := Lib.hid HST.out.bad
            have HFB := Lib.hid (show ∀ b o, some (⟨g, 0, none⟩ : Addr) = some ⟨b, o, none⟩ → True from fun _ _ _ => trivial)
            rw [List.take_length] at hnl ⊢
            generalize stopsN l = n at HN hnl ⊢
            obtain ⟨s, hs⟩ : ∃ s, s = xo.st := ⟨_, rfl⟩
            have c0 : wr.cell? ⟨g, k * 2, none⟩ = some (.int .i64 s) := by
              have h1 := H.rowCells 1 rfl (k * 2) (by omega)
              exact h1.1.trans (flat_get frC_len F k 0 (.int .i64 s) hk (by rw [← HXO.out, hs]; rfl))
            rw [← hs] at HN HB5
            clear hs
            by_cases h4 : s = 4
            · subst h4
              obtain ⟨hn, hl1⟩ : n = 1 ∧ l.length = 1 := by
                rcases HN.out with ⟨-, h1, h2⟩ | ⟨h1, -⟩
                · exact ⟨h1, h2⟩
                · exact absurd h1 (by unfold mustB; simp)
              rw [hl1] at H ⊢
              subst hn
              go_wp2_with fail
              refine (HAW.out _).mono ?_
              rintro _ w13 ⟨rfl, hb⟩
              replace H := H.below hb
              clear hb
              try clear C
              try simp only [World.size_alloc, List.nil_append, List.cons_append, List.append_assoc] at H
              try clear w12
              have C := H.cells
              try simp only [cellsOf, cellsM, apartOf, apartM, and_true] at C
              dsimp only
              go_wp2_with fail
              go_ret
              exact ⟨rfl, H.done⟩
            have h4b : (s == 4) = false := beq_eq_false_iff_ne.2 h4
            by_cases h3 : s = 3
            · subst h3
              obtain ⟨hn, hl1⟩ : n = 1 ∧ l.length = 1 := by
                rcases HN.out with ⟨-, h1, h2⟩ | ⟨h1, -⟩
                · exact ⟨h1, h2⟩
                · exact absurd h1 (by unfold mustB; simp; try omega)
              rw [hl1] at H ⊢
              subst hn
              go_wp2_with fail
              refine (HAW.out _).mono ?_
              rintro _ w14 ⟨rfl, hb⟩
              replace H := H.below hb
              clear hb
              try clear C
              try simp only [World.size_alloc, List.nil_append, List.cons_append, List.append_assoc] at H
              try clear w13
              have C := H.cells
              try simp only [cellsOf, cellsM, apartOf, apartM, and_true] at C
              dsimp only
              go_wp2_with fail
              go_ret
              exact ⟨rfl, H.done⟩
            have h3b : (s == 3) = false := beq_eq_false_iff_ne.2 h3
            obtain rfl : n = 0 := by
              rcases HN.out with ⟨h1, -⟩ | ⟨-, h1⟩
              · exact absurd h1 (by unfold mustB; simp [h4, h3])
              · exact h1
            by_cases h5 : s = 5
            · subst h5
              have hl0 : l.length = 0 := by rw [HB5.out rfl]; rfl
              rw [hl0] at H ⊢
              go_wp2_with fail
              refine (HAW.out _).mono ?_
              rintro _ w15 ⟨rfl, hb⟩
              replace H := H.below hb
              clear hb
              try clear C
              try simp only [World.size_alloc, List.nil_append, List.cons_append, List.append_assoc] at H
              try clear w14
              have C := H.cells
              try simp only [cellsOf, cellsM, apartOf, apartM, and_true] at C
              dsimp only
              go_wp2_with fail
              go_ret
              exact ⟨rfl, H.done⟩
            have h5b : (s == 5) = false := beq_eq_false_iff_ne.2 h5
            go_wp2_with fail
            refine (HAW.out _).mono ?_
            rintro _ w16 ⟨rfl, hb⟩
            replace H := H.below hb
            clear hb
            try clear C
            try simp only [World.size_alloc, List.nil_append, List.cons_append, List.append_assoc] at H
            try clear w15
            have C := H.cells
            try simp only [cellsOf, cellsM, apartOf, apartM, and_true] at C
            dsimp only
            go_wp2_with fail
            go_ret
            exact ⟨rfl, H.done⟩
      · have hfkb : (fi == (k : Int)) = false := beq_eq_false_iff_ne.2 hfk
        have HT := Lib.hid ((show fi = -1 ∨ (freeAtF F fi = true ∧ fi ≠ k) from HFI.out.imp id fun h => ⟨h, hfk⟩))
        obtain ⟨l, hdec, hst⟩ := dec_stops HHE.out.fr (ps := qs.map (·.p)) (f := (k : Int)) (by omega) (by omega) HT.out
        have HDE := Lib.hid (fun w hl hp => cdecide_any HHE.out.fr HHE.out.pr.good (k : Int) fi (sa := some ⟨g, 0, none⟩) cf (v := u) w hl hp)
        rw [hdec] at HDE
        have hFk : F[((k : Nat) : Int).toNat]! = F[k]! := rfl
        rw [hFk] at hst
        clear hFk hdec
        obtain ⟨xo, hxo⟩ : ∃ x, x = F[k]! := ⟨_, rfl⟩
        rw [← hxo] at hst
        have HXO := Lib.hid hxo
        clear hxo
        have HST := Lib.hid hst
        clear hst
        go_wp2_with fail
        refine (HDE.out _ (H.rowLies 1 frC_len rfl rfl) (H.ownPs 2 rfl)).mono ?_
        rintro _ w17 ⟨sd, cd, rfl, hr, hb⟩
        replace H := (H).getsRow hb hr
        clear hb hr
        try clear C
        try simp only [World.size_alloc, List.nil_append, List.cons_append, List.append_assoc] at H
        try clear w16
        have C := H.cells
        try simp only [cellsOf, cellsM, apartOf, apartM, and_true] at C
        dsimp only
        clear HDE
        have hlm := ownsRow_max (H.at 3 rfl)
        unfold maxLen at hlm
        go_wp2_with fail
        go_loopw [12, 49] (fun sn jj wr => ∃ (j : Nat), sn = .int .i64 (stopsN (l.take j) : Nat) ∧ jj = .int .i64 j ∧ j ≤ l.length ∧ HS NoD w [.dice w.heap.size bd, .row (.slice (some ⟨g, 0, none⟩) F.length cf) 66 2 F.length (F.flatMap frC), Item.many (PsR u qs), .row (.slice sd l.length cd) 76 5 l.length (l.flatMap ddC)] wr) (fun _ jj _ => l.length - (intOf jj).toNat)
        case atStart => exact ⟨0, rfl, rfl, Nat.zero_le _, H⟩
        case round =>
          clear H C
          obtain ⟨j, rfl, rfl, hj, H⟩ := hrel
          skip
          try clear C
          try simp only [World.size_alloc, List.nil_append, List.cons_append, List.append_assoc] at H
          have C := H.cells
          try simp only [cellsOf, cellsM, apartOf, apartM, and_true] at C
          have hnl := HST.out.le j
          by_cases hlt : j < l.length
          · obtain ⟨b, o, rfl, hb, hc⟩ := (H.rowLies 3 ddC_len rfl rfl).at hlt
            have HSU := Lib.hid (stopsN_succ hlt)
            have hea := HST.out.each _ (mem_at hlt)
            obtain ⟨x, hx⟩ : ∃ x, x = l[j]! := ⟨_, rfl⟩
            rw [← hx] at hc hea HSU
            obtain ⟨x0, x1, x2, x3, x4⟩ := x
            have c0 : wr.cell? ⟨b, o + j * 5, none⟩ = some (.int .i64 x0) := hc 0 _ rfl
            have c1 : wr.cell? ⟨b, o + j * 5 + 1, none⟩ = some (.int .i64 x1) := hc 1 _ rfl
            have c2 : wr.cell? ⟨b, o + j * 5 + 2, none⟩ = some (.int .i64 x2) := hc 2 _ rfl
            have c3 : wr.cell? ⟨b, o + j * 5 + 3, none⟩ = some (.int .i64 x3) := hc 3 _ rfl
            have c4 : wr.cell? ⟨b, o + j * 5 + 4, none⟩ = some (.int .i64 x4) := hc 4 _ rfl
            clear hc hx
            dsimp only at hea HSU
            obtain ⟨e1, hea⟩ := hea
            subst e1
            generalize stopsN (l.take j) = n at HSU hnl ⊢
            go_upto_region 13 with fail
            clear c0 c1 c2 c3 c4
            generalize hwb : wr.alloc _ = w18
            replace H := HS.eqW hwb H.alloc
            try simp only [World.size_alloc, List.nil_append, List.cons_append, List.append_assoc] at H
            clear hwb
            generalize wr.heap.size = bX at H ⊢
            try clear C
            try clear wr
            have C := H.cells
            try simp only [cellsOf, cellsM, apartOf, apartM, and_true] at C
            by_cases hx2 : x0 = 2
            · subst hx2
              go_wp2_with fail
              go_roundw
              case rel => exact ⟨j + 1, by rw [HSU.out]; rfl, by go_num, by omega, H.less (by repeat (first | exact .slnil | refine .cons_cons _ ?_ | refine .cons _ ?_))⟩
              case measure => simp [intOf]; omega
            have hx2b : (x0 == 2) = false := beq_eq_false_iff_ne.2 hx2
            by_cases hx3 : x0 = 3
            · subst hx3
              go_wp2_with fail
              go_roundw
              case rel => exact ⟨j + 1, by rw [HSU.out]; rfl, by go_num, by omega, H.less (by repeat (first | exact .slnil | refine .cons_cons _ ?_ | refine .cons _ ?_))⟩
              case measure => simp [intOf]; omega
            have hx3b : (x0 == 3) = false := beq_eq_false_iff_ne.2 hx3
            obtain rfl : x2 = 0 := by omega
            by_cases hx6 : x0 = 6
            · subst hx6
              go_wp2_with fail
              go_roundw
              case rel => exact ⟨j + 1, by rw [HSU.out]; go_num, by go_num, by omega, H.less (by repeat (first | exact .slnil | refine .cons_cons _ ?_ | refine .cons _ ?_))⟩
              case measure => simp [intOf]; omega
            have hx6b : (x0 == 6) = false := beq_eq_false_iff_ne.2 hx6
            go_wp2_with fail
            go_roundw
            case rel => exact ⟨j + 1, by rw [HSU.out, if_neg hx6]; rfl, by go_num, by omega, H.less (by repeat (first | exact .slnil | refine .cons_cons _ ?_ | refine .cons _ ?_))⟩
            case measure => simp [intOf]; omega
          · have hje : j = l.length := by omega
            subst hje
            have HN := Lib.hid HST.out.n
            have HB5 := Lib.hid HST.out.bad
            have HFB := Lib.hid (show ∀ b o, some (⟨g, 0, none⟩ : Addr) = some ⟨b, o, none⟩ → True from fun _ _ _ => trivial)
            rw [List.take_length] at hnl ⊢
            generalize stopsN l = n at HN hnl ⊢
            obtain ⟨s, hs⟩ : ∃ s, s = xo.st := ⟨_, rfl⟩
            have c0 : wr.cell? ⟨g, k * 2, none⟩ = some (.int .i64 s) := by
              have h1 := H.rowCells 1 rfl (k * 2) (by omega)
              exact h1.1.trans (flat_get frC_len F k 0 (.int .i64 s) hk (by rw [← HXO.out, hs]; rfl))
            rw [← hs] at HN HB5
            clear hs
            by_cases h4 : s = 4
            · subst h4
              obtain ⟨hn, hl1⟩ : n = 1 ∧ l.length = 1 := by
                rcases HN.out with ⟨-, h1, h2⟩ | ⟨h1, -⟩
                · exact ⟨h1, h2⟩
                · exact absurd h1 (by unfold mustB; simp)
              rw [hl1] at H ⊢
              subst hn
              go_wp2_with fail
              refine (HAW.out _).mono ?_
              rintro _ w19 ⟨rfl, hb⟩
              replace H := H.below hb
              clear hb
              try clear C
              try simp only [World.size_alloc, List.nil_append, List.cons_append, List.append_assoc] at H
              try clear w18
              have C := H.cells
              try simp only [cellsOf, cellsM, apartOf, apartM, and_true] at C
              dsimp only
              go_wp2_with fail
              go_ret
              exact ⟨rfl, H.done⟩
            have h4b : (s == 4) = false := beq_eq_false_iff_ne.2 h4
            by_cases h3 : s = 3
            · subst h3
              by_cases hneg : fi < 0
              · obtain ⟨hn, hl1⟩ : n = 1 ∧ l.length = 1 := by
                  rcases HN.out with ⟨-, h1, h2⟩ | ⟨h1, -⟩
                  · exact ⟨h1, h2⟩
                  · exact absurd h1 (by unfold mustB; simp; try omega)
                rw [hl1] at H ⊢
                subst hn
                go_wp2_with fail
                refine (HAW.out _).mono ?_
                rintro _ w20 ⟨rfl, hb⟩
                replace H := H.below hb
                clear hb
                try clear C
                try simp only [World.size_alloc, List.nil_append, List.cons_append, List.append_assoc] at H
                try clear w19
                have C := H.cells
                try simp only [cellsOf, cellsM, apartOf, apartM, and_true] at C
                dsimp only
                go_wp2_with fail
                go_ret
                exact ⟨rfl, H.done⟩
              · obtain rfl : n = 0 := by
                  rcases HN.out with ⟨h1, -⟩ | ⟨-, h1⟩
                  · exact absurd h1 (by unfold mustB; simp; try omega)
                  · exact h1
                go_wp2_with fail
                refine (HAW.out _).mono ?_
                rintro _ w21 ⟨rfl, hb⟩
                replace H := H.below hb
                clear hb
                try clear C
                try simp only [World.size_alloc, List.nil_append, List.cons_append, List.append_assoc] at H
                try clear w20
                have C := H.cells
                try simp only [cellsOf, cellsM, apartOf, apartM, and_true] at C
                dsimp only
                go_wp2_with fail
                go_ret
                exact ⟨rfl, H.done⟩
            have h3b : (s == 3) = false := beq_eq_false_iff_ne.2 h3
            obtain rfl : n = 0 := by
              rcases HN.out with ⟨h1, -⟩ | ⟨-, h1⟩
              · exact absurd h1 (by unfold mustB; simp [h4, h3])
              · exact h1
            by_cases h5 : s = 5
            · subst h5
              have hl0 : l.length = 0 := by rw [HB5.out rfl]; rfl
              rw [hl0] at H ⊢
              go_wp2_with fail
              refine (HAW.out _).mono ?_
              rintro _ w22 ⟨rfl, hb⟩
              replace H := H.below hb
              clear hb
              try clear C
              try simp only [World.size_alloc, List.nil_append, List.cons_append, List.append_assoc] at H
              try clear w21
              have C := H.cells
              try simp only [cellsOf, cellsM, apartOf, apartM, and_true] at C
              dsimp only
              go_wp2_with fail
              go_ret
              exact ⟨rfl, H.done⟩
            have h5b : (s == 5) = false := beq_eq_false_iff_ne.2 h5
            go_wp2_with fail
            refine (HAW.out _).mono ?_
            rintro _ w23 ⟨rfl, hb⟩
            replace H := H.below hb
            clear hb
            try clear C
            try simp only [World.size_alloc, List.nil_append, List.cons_append, List.append_assoc] at H
            try clear w22
            have C := H.cells
            try simp only [cellsOf, cellsM, apartOf, apartM, and_true] at C
            dsimp only
            go_wp2_with fail
            go_ret
            exact ⟨rfl, H.done⟩
  · rw [decide_eq_false h400] at hli
    have HLI := Lib.hid hli
    clear hli
    go_enter Try.func9, Try.ntmps9
    have H := HS.start NoD w
    go_wp2_with fail
    refine (gives_of (HLI.out _)).mono ?_
    rintro _ w1 ⟨rfl, hb⟩
    replace H := H.below hb
    clear hb
    try clear C
    try simp only [World.size_alloc, List.nil_append, List.cons_append, List.append_assoc] at H
    have C := H.cells
    try simp only [cellsOf, cellsM, apartOf, apartM, and_true] at C
    dsimp only
    go_wp2_with fail
    refine (HAW.out _).mono ?_
    rintro _ w2 ⟨rfl, hb⟩
    replace H := H.below hb
    clear hb
    try clear C
    try simp only [World.size_alloc, List.nil_append, List.cons_append, List.append_assoc] at H
    try clear w1
    have C := H.cells
    try simp only [cellsOf, cellsM, apartOf, apartM, and_true] at C
    dsimp only
    go_wp2_with fail
    go_ret
    exact ⟨rfl, H.done⟩
end Go.Proofs.Ytmnddnlabdafcaa
