/- The statement PlanBest: its walk. -/
import Derived.Test.YtdhnpjgnnfgklaaPlY
namespace Go.Proofs.Ytdhnpjgnnfgklaa
set_option linter.unusedSimpArgs false
set_option linter.unusedVariables false
open Go.RowKit
set_option maxRecDepth 100000
attribute [local irreducible] wpX wpF Calls
attribute [local go_sem] run_mkMapG

theorem bestV_facts (s : P6) (l : List Nd) (a b : Int) : (bestV s l a b).1.rows.length ≤ 12 ∧ (bestV s l a b).1.ranks.length ≤ 12 := by
  unfold bestV
  by_cases hv : validN s l
  · rw [if_pos hv]
    by_cases hf : (0 ≤ a ∧ a ≤ 12) ∧ 0 ≤ b ∧ b ≤ 12
    · rw [if_pos hf]
      have h1 := (best_facts hv.loss a b).2
      have h2 := hv.2.1
      exact ⟨Nat.le_trans h1.1 h2, Nat.le_trans h1.2 h2⟩
    · rw [if_neg hf]; exact ⟨Nat.zero_le _, Nat.zero_le _⟩
  · rw [if_neg hv]; exact ⟨Nat.zero_le _, Nat.zero_le _⟩
set_option maxHeartbeats 64000000 in
theorem pbest_walk (sr : Option Addr) (cr : Nat) (raw : List Nd) (hcr : raw.length ≤ cr) (sa : Option Addr) (len cap : Nat) (hl : len ≤ maxLen) (n1 n2 n3 : Int) (w : World) (hR : Lies w w.heap.size sr 7 raw.length (fun j => ndC raw[j]!)) (hI : Ints w sa len) :
    Calls Try.prog 5 #[.slice sr raw.length cr, .slice sa len cap, .int .i64 n1, .int .i64 n2, .int .i64 n3] w (Gives (.bool true) w) := by
  have HI := Lib.hid hI
  have HR := Lib.hid hR
  clear hI hR
  have hli := light_any sa len cap hl
  clear hl
  have HAW := Lib.hid awake39_any
  by_cases h20 : raw.length ≤ 20
  · have h20i : ¬ (20 : Int) < raw.length := by omega
    have h20d : decide ((20 : Int) < raw.length) = false := decide_eq_false h20i
    by_cases h400 : len ≤ 400
    · rw [decide_eq_true h400] at hli
      have HLI := Lib.hid hli
      clear hli
      go_enter Try.func5, Try.ntmps5
      have H := HS.start NoD w
      go_wp2_with fail
      refine (gives_of39 (HLI.out _)).mono ?_
      rintro _ w1 ⟨rfl, hb⟩
      replace H := H.below hb
      clear hb
      try clear C
      try simp only [World.size_alloc, List.nil_append, List.cons_append, List.append_assoc] at H
      have C := H.cells
      try simp only [cellsOf, cellsM, apartOf, apartM, and_true] at C
      dsimp only
      go_wp2_with fail
      refine (roll_at w.heap.size _ _ _ h400 _ H.size (H.ints HI.out)).mono ?_
      rintro _ w2 ⟨bd, rfl, hd, hb, hbb⟩
      replace H := H.getsDice hb hd hbb (Nat.le_refl _)
      clear hb hd hbb
      try clear C
      try simp only [World.size_alloc, List.nil_append, List.cons_append, List.append_assoc] at H
      try clear w1
      have C := H.cells
      try simp only [cellsOf, cellsM, apartOf, apartM, and_true] at C
      dsimp only
      go_wp2_with fail
      refine (mshape_any w.heap.size bd _ (H.at 0 rfl) H.size).mono ?_
      rintro _ w3 ⟨s0, s1, s2, s4, rfl, hms, hd, hg⟩
      replace H := (H).diceAt 0 rfl hg hd
      clear hg hd
      try clear C
      try simp only [World.size_alloc, List.nil_append, List.cons_append, List.append_assoc] at H
      try clear w2
      have C := H.cells
      try simp only [cellsOf, cellsM, apartOf, apartM, and_true] at C
      dsimp only
      have HSV := Lib.hid hms.sv
      clear hms
      go_upto_region 5 with fail
      generalize hwb : w3.alloc _ = w4
      replace H := HS.eqW hwb H.alloc
      try simp only [World.size_alloc, List.nil_append, List.cons_append, List.append_assoc] at H
      clear hwb
      generalize w3.heap.size = bS at H ⊢
      try clear C
      try clear w3
      have C := H.cells
      try simp only [cellsOf, cellsM, apartOf, apartM, and_true] at C
      go_wp2_with fail
      refine (mneeds_any HSV.out w.heap.size bd _ (H.at 0 rfl) H.size).mono ?_
      rintro _ w42 ⟨l0, s7, c7, rfl, hok, hl8, K⟩
      replace H := H.joinDice 0 rfl K (one_low rfl)
      clear K
      try simp only [List.nil_append, List.cons_append] at H
      skip
      try clear C
      try simp only [World.size_alloc, List.nil_append, List.cons_append, List.append_assoc] at H
      have C := H.cells
      try simp only [cellsOf, cellsM, apartOf, apartM, and_true] at C
      dsimp only
      have hc7 : l0.length ≤ c7 := row_capN (H.at 2 rfl)
      clear hok h20i h20d
      obtain ⟨m8, hm8⟩ : ∃ x, x = modF n3 8 := ⟨_, rfl⟩
      have HM8 := Lib.hid (fun w => gives_of39 (mod_any n3 8 w))
      rw [← hm8] at HM8
      have hmb : 0 ≤ m8 ∧ m8 < 8 := by have := modF_in (n := n3) (m := 8) (by omega) (by omega); omega
      clear hm8
      obtain ⟨y3, hy3⟩ : ∃ x, x = modF (wrap64 (n3.tdiv 8)) 3 := ⟨_, rfl⟩
      have HM3 := Lib.hid (fun w => gives_of39 (mod_any (wrap64 (n3.tdiv 8)) 3 w))
      rw [← hy3] at HM3
      have hb3 : 0 ≤ y3 ∧ y3 < 3 := by have := modF_in (n := wrap64 (n3.tdiv 8)) (m := 3) (by omega) (by omega); omega
      clear hy3
      obtain ⟨y4, hy4⟩ : ∃ x, x = modF (wrap64 (n3.tdiv 8)) 2 := ⟨_, rfl⟩
      have HM4 := Lib.hid (fun w => gives_of39 (mod_any (wrap64 (n3.tdiv 8)) 2 w))
      rw [← hy4] at HM4
      have hb4 : 0 ≤ y4 ∧ y4 < 2 := by have := modF_in (n := wrap64 (n3.tdiv 8)) (m := 2) (by omega) (by omega); omega
      clear hy4
      go_wp2_with fail
      refine (HM8.out _).mono ?_
      rintro _ w5 ⟨rfl, hb⟩
      replace H := H.below hb
      clear hb
      try clear C
      try simp only [World.size_alloc, List.nil_append, List.cons_append, List.append_assoc] at H
      try clear w42
      have C := H.cells
      try simp only [cellsOf, cellsM, apartOf, apartM, and_true] at C
      dsimp only
      go_step
      go_step
      go_step
      go_step
      go_cut [13] from 38 to 74 (fun v wx => ∃ (l : List Nd) (sb : Option Addr) (cb : Nat) (v9 : Value) (n9 : Nat) (xs9 : List Value), v = .slice sb l.length cb ∧ l.length ≤ 20 ∧ l.length ≤ cb ∧ Hid (∀ L' wy, HS NoD w (.blk bS #[.int .i64 s0, .int .i64 s1, .int .i64 s2, .int .i64 1, .int .i64 s4, .int .i64 2] 28 :: .row v9 41 7 n9 xs9 :: L') wy → Lies wy wy.heap.size sb 7 l.length (fun j => ndC l[j]!)) ∧ HS NoD w [.blk bS #[.int .i64 s0, .int .i64 s1, .int .i64 s2, .int .i64 1, .int .i64 s4, .int .i64 2] 28, .row v9 41 7 n9 xs9] wx)
      case first =>
        skip
        by_cases h0 : m8 = 0
        · subst h0
          have hnr := H.nilRow 41 7
          clear H
          have H := hnr
          clear hnr
          try simp only [List.nil_append, List.cons_append] at H
          try clear C
          try simp only [World.size_alloc, List.nil_append, List.cons_append, List.append_assoc] at H
          have C := H.cells
          try simp only [cellsOf, cellsM, apartOf, apartM, and_true] at C
          go_wp2_with fail
          go_meet
          case rel => exact ⟨raw, sr, cr, .slice none 0 0, 0, [], rfl, h20, hcr, (show Hid _ from fun L' wy h => h.liesUp HR.out), H.less (by repeat (first | exact .slnil | refine .cons_cons _ ?_ | refine .cons _ ?_))⟩
        · have h0b : (m8 == 0) = false := beq_eq_false_iff_ne.2 h0
          by_cases h1 : m8 = 1
          · subst h1
            skip
            go_wp2_with fail
            refine (place_any HSV.out w.heap.size bd _ (H.at 0 rfl)).mono ?_
            rintro _ w6 ⟨p0, p1, p2, p3, p4, p5, rfl, hp, hd, hg⟩
            replace H := (H).diceAt 0 rfl hg hd
            clear hg hd
            try clear C
            try simp only [World.size_alloc, List.nil_append, List.cons_append, List.append_assoc] at H
            try clear w5
            have C := H.cells
            try simp only [cellsOf, cellsM, apartOf, apartM, and_true] at C
            dsimp only
            clear hp
            go_wp2_with fail
            refine (HM3.out _).mono ?_
            rintro _ w7 ⟨rfl, hb⟩
            replace H := H.below hb
            clear hb
            try clear C
            try simp only [World.size_alloc, List.nil_append, List.cons_append, List.append_assoc] at H
            try clear w6
            have C := H.cells
            try simp only [cellsOf, cellsM, apartOf, apartM, and_true] at C
            dsimp only
            go_wp2_with (at_builtin; refine wpList_append_H rfl (.tmp 43) (.tmp 52) 30 rfl elemNd H.alloc 2 rfl rfl 3 rfl rfl rfl rfl (by decide) (by unfold maxLen; omega) (by omega) (fun g cap wz HZ9 => ?_); clear H C)
            go_meet
            case rel =>
              have HZ8 := HS.less (L' := [.blk bS #[.int .i64 s0, .int .i64 s1, .int .i64 s2, .int .i64 1, .int .i64 s4, .int .i64 2] 28, .row (.slice (some ⟨g, 0, none⟩) (l0.length + 1) cap) 41 7 (l0.length + 1) (l0.flatMap ndC ++ ndC (⟨⟨p0, p1, p2, p3, p4, p5⟩, y3 - 1⟩ : Nd))]) HZ9 (by repeat (first | exact .slnil | refine .cons_cons _ ?_ | refine .cons _ ?_))
              refine ⟨l0 ++ [(⟨⟨p0, p1, p2, p3, p4, p5⟩, y3 - 1⟩ : Nd)], some ⟨g, 0, none⟩, cap, .slice (some ⟨g, 0, none⟩) (l0.length + 1) cap, l0.length + 1, (l0 ++ [(⟨⟨p0, p1, p2, p3, p4, p5⟩, y3 - 1⟩ : Nd)]).flatMap ndC, by rw [List.length_append]; rfl, by rw [List.length_append, List.length_singleton]; omega, by rw [List.length_append, List.length_singleton]; exact row_capN (HZ8.at 1 rfl), (show Hid _ from fun L' wy h => ?_), ?_⟩
              · have h9 := h.rowLies 1 ndC_len rfl (by rw [List.length_append, List.length_singleton])
                rw [List.length_append, List.length_singleton]; exact h9
              · rw [List.flatMap_append]; simpa using HZ8
          · have h1b : (m8 == 1) = false := beq_eq_false_iff_ne.2 h1
            by_cases h2 : m8 = 2
            · subst h2
              skip
              go_wp2_with fail
              refine (HM4.out _).mono ?_
              rintro _ w8 ⟨rfl, hb⟩
              replace H := H.below hb
              clear hb
              try clear C
              try simp only [World.size_alloc, List.nil_append, List.cons_append, List.append_assoc] at H
              try clear w5
              have C := H.cells
              try simp only [cellsOf, cellsM, apartOf, apartM, and_true] at C
              dsimp only
              go_wp2_with (at_builtin; refine wpList_append_H rfl (.tmp 56) (.tmp 62) 30 rfl elemNd H.alloc 2 rfl rfl 3 rfl rfl rfl rfl (by decide) (by unfold maxLen; omega) (by omega) (fun g cap wz HZ9 => ?_); clear H C)
              go_meet
              case rel =>
                have HZ8 := HS.less (L' := [.blk bS #[.int .i64 s0, .int .i64 s1, .int .i64 s2, .int .i64 1, .int .i64 s4, .int .i64 2] 28, .row (.slice (some ⟨g, 0, none⟩) (l0.length + 1) cap) 41 7 (l0.length + 1) (l0.flatMap ndC ++ ndC (⟨⟨0, 0, 0, 0, 0, 0⟩, 1099511627776 + y4⟩ : Nd))]) HZ9 (by repeat (first | exact .slnil | refine .cons_cons _ ?_ | refine .cons _ ?_))
                refine ⟨l0 ++ [(⟨⟨0, 0, 0, 0, 0, 0⟩, 1099511627776 + y4⟩ : Nd)], some ⟨g, 0, none⟩, cap, .slice (some ⟨g, 0, none⟩) (l0.length + 1) cap, l0.length + 1, (l0 ++ [(⟨⟨0, 0, 0, 0, 0, 0⟩, 1099511627776 + y4⟩ : Nd)]).flatMap ndC, by rw [List.length_append]; rfl, by rw [List.length_append, List.length_singleton]; omega, by rw [List.length_append, List.length_singleton]; exact row_capN (HZ8.at 1 rfl), (show Hid _ from fun L' wy h => ?_), ?_⟩
                · have h9 := h.rowLies 1 ndC_len rfl (by rw [List.length_append, List.length_singleton])
                  rw [List.length_append, List.length_singleton]; exact h9
                · rw [List.flatMap_append]; simpa using HZ8
            · have h2b : (m8 == 2) = false := beq_eq_false_iff_ne.2 h2
              by_cases h3 : m8 = 3
              · subst h3
                skip
                by_cases hl0 : 0 < l0.length
                · have hl0i : (0 : Int) < l0.length := by omega
                  have hl0d : decide ((0 : Int) < l0.length) = true := decide_eq_true hl0i
                  obtain ⟨b, o, rfl, hb, hc⟩ := (H.rowLies 2 ndC_len rfl rfl).at hl0
                  obtain ⟨q, hq⟩ : ∃ q, q = l0[0]! := ⟨_, rfl⟩
                  rw [← hq] at hc
                  have HQ := Lib.hid hq
                  clear hq
                  obtain ⟨⟨p0, p1, p2, p3, p4, p5⟩, pl⟩ := q
                  have c0 : w5.cell? ⟨b, o + 0 * 7, none⟩ = some (.int .i64 p0) := hc 0 _ rfl
                  have c1 : w5.cell? ⟨b, o + 0 * 7 + 1, none⟩ = some (.int .i64 p1) := hc 1 _ rfl
                  have c2 : w5.cell? ⟨b, o + 0 * 7 + 2, none⟩ = some (.int .i64 p2) := hc 2 _ rfl
                  have c3 : w5.cell? ⟨b, o + 0 * 7 + 3, none⟩ = some (.int .i64 p3) := hc 3 _ rfl
                  have c4 : w5.cell? ⟨b, o + 0 * 7 + 4, none⟩ = some (.int .i64 p4) := hc 4 _ rfl
                  have c5 : w5.cell? ⟨b, o + 0 * 7 + 5, none⟩ = some (.int .i64 p5) := hc 5 _ rfl
                  have c6 : w5.cell? ⟨b, o + 0 * 7 + 6, none⟩ = some (.int .i64 pl) := hc 6 _ rfl
                  clear hc hb
                  simp only [Nat.zero_mul, Nat.add_zero] at c0 c1 c2 c3 c4 c5 c6
                  go_upto_region 15 with fail
                  go_wp2_with (at_builtin; refine wpList_append_H rfl (.tmp 69) (.tmp 73) 30 rfl elemNd H.alloc 2 rfl rfl 3 rfl rfl rfl rfl (by decide) (by unfold maxLen; omega) (by omega) (fun g cap wz HZ9 => ?_); clear H C)
                  go_meet
                  case rel =>
                    have HZ8 := HS.less (L' := [.blk bS #[.int .i64 s0, .int .i64 s1, .int .i64 s2, .int .i64 1, .int .i64 s4, .int .i64 2] 28, .row (.slice (some ⟨g, 0, none⟩) (l0.length + 1) cap) 41 7 (l0.length + 1) (l0.flatMap ndC ++ ndC (⟨⟨p0, p1, p2, p3, p4, p5⟩, pl⟩ : Nd))]) HZ9 (by repeat (first | exact .slnil | refine .cons_cons _ ?_ | refine .cons _ ?_))
                    refine ⟨l0 ++ [(⟨⟨p0, p1, p2, p3, p4, p5⟩, pl⟩ : Nd)], some ⟨g, 0, none⟩, cap, .slice (some ⟨g, 0, none⟩) (l0.length + 1) cap, l0.length + 1, (l0 ++ [(⟨⟨p0, p1, p2, p3, p4, p5⟩, pl⟩ : Nd)]).flatMap ndC, by rw [List.length_append]; rfl, by rw [List.length_append, List.length_singleton]; omega, by rw [List.length_append, List.length_singleton]; exact row_capN (HZ8.at 1 rfl), (show Hid _ from fun L' wy h => ?_), ?_⟩
                    · have h9 := h.rowLies 1 ndC_len rfl (by rw [List.length_append, List.length_singleton])
                      rw [List.length_append, List.length_singleton]; exact h9
                    · rw [List.flatMap_append]; simpa using HZ8
                · have hl0i : ¬ (0 : Int) < l0.length := by omega
                  have hl0d : decide ((0 : Int) < l0.length) = false := decide_eq_false hl0i
                  skip
                  go_wp2_with fail
                  go_meet
                  case rel => exact ⟨l0, s7, c7, .slice s7 l0.length c7, l0.length, l0.flatMap ndC, rfl, by omega, hc7, (show Hid _ from fun L' wy h => h.rowLies 1 ndC_len rfl rfl), H.less (by repeat (first | exact .slnil | refine .cons_cons _ ?_ | refine .cons _ ?_))⟩
              · have h3b : (m8 == 3) = false := beq_eq_false_iff_ne.2 h3
                skip
                go_wp2_with fail
                go_meet
                case rel => exact ⟨l0, s7, c7, .slice s7 l0.length c7, l0.length, l0.flatMap ndC, rfl, by omega, hc7, (show Hid _ from fun L' wy h => h.rowLies 1 ndC_len rfl rfl), H.less (by repeat (first | exact .slnil | refine .cons_cons _ ?_ | refine .cons _ ?_))⟩
      case rest =>
        clear H C
        obtain ⟨l, sb, cb, v9, n9, xs9, rfl, hl20, hcb, HLX, H⟩ := hcut
        clear hmb HM8 HM3 HM4 hb3 hb4 hl8 hc7
        skip
        obtain ⟨x1, hx1⟩ : ∃ x, x = modF n1 4 := ⟨_, rfl⟩
        obtain ⟨x2, hx2⟩ : ∃ x, x = modF n2 3 := ⟨_, rfl⟩
        obtain ⟨y1, hy1⟩ : ∃ x, x = modF n1 15 := ⟨_, rfl⟩
        obtain ⟨y2, hy2⟩ : ∃ x, x = modF n2 15 := ⟨_, rfl⟩
        have hb1 : 0 ≤ y1 ∧ y1 < 15 := by have := modF_in (n := n1) (m := 15) (by omega) (by omega); omega
        have hb2 : 0 ≤ y2 ∧ y2 < 15 := by have := modF_in (n := n2) (m := 15) (by omega) (by omega); omega
        have HA1 := Lib.hid (fun w => gives_of39 (mod_any n1 4 w))
        have HA2 := Lib.hid (fun w => gives_of39 (mod_any n2 3 w))
        have HA3 := Lib.hid (fun w => gives_of39 (mod_any n1 15 w))
        have HA4 := Lib.hid (fun w => gives_of39 (mod_any n2 15 w))
        rw [← hx1] at HA1
        rw [← hx2] at HA2
        rw [← hy1] at HA3
        rw [← hy2] at HA4
        clear hx1 hx2 hy1 hy2
        try clear C
        try simp only [World.size_alloc, List.nil_append, List.cons_append, List.append_assoc] at H
        have C := H.cells
        try simp only [cellsOf, cellsM, apartOf, apartM, and_true] at C
        go_wp2_with fail
        refine (HA1.out _).mono ?_
        rintro _ w9 ⟨rfl, hb⟩
        replace H := H.below hb
        clear hb
        try clear C
        try simp only [World.size_alloc, List.nil_append, List.cons_append, List.append_assoc] at H
        try clear wc
        have C := H.cells
        try simp only [cellsOf, cellsM, apartOf, apartM, and_true] at C
        dsimp only
        go_wp2_with fail
        refine (HA2.out _).mono ?_
        rintro _ w10 ⟨rfl, hb⟩
        replace H := H.below hb
        clear hb
        try clear C
        try simp only [World.size_alloc, List.nil_append, List.cons_append, List.append_assoc] at H
        try clear w9
        have C := H.cells
        try simp only [cellsOf, cellsM, apartOf, apartM, and_true] at C
        dsimp only
        go_wp2_with fail
        refine (HA3.out _).mono ?_
        rintro _ w11 ⟨rfl, hb⟩
        replace H := H.below hb
        clear hb
        try clear C
        try simp only [World.size_alloc, List.nil_append, List.cons_append, List.append_assoc] at H
        try clear w10
        have C := H.cells
        try simp only [cellsOf, cellsM, apartOf, apartM, and_true] at C
        dsimp only
        go_wp2_with fail
        refine (HA4.out _).mono ?_
        rintro _ w12 ⟨rfl, hb⟩
        replace H := H.below hb
        clear hb
        try clear C
        try simp only [World.size_alloc, List.nil_append, List.cons_append, List.append_assoc] at H
        try clear w11
        have C := H.cells
        try simp only [cellsOf, cellsM, apartOf, apartM, and_true] at C
        dsimp only
        go_upto_region 17 with fail
        generalize hwb : w12.alloc _ = w13
        replace H := HS.eqW hwb H.alloc
        try simp only [World.size_alloc, List.nil_append, List.cons_append, List.append_assoc] at H
        clear hwb
        generalize w12.heap.size = bK at H ⊢
        try clear C
        try clear w12
        have C := H.cells
        try simp only [cellsOf, cellsM, apartOf, apartM, and_true] at C
        clear hb1 hb2 HA1 HA2 HA3 HA4
        go_loopw [92] (fun jj wr => ∃ (j : Nat), jj = .int .i64 j ∧ j ≤ 3 ∧ HS NoD w [.blk bS #[.int .i64 s0, .int .i64 s1, .int .i64 s2, .int .i64 1, .int .i64 s4, .int .i64 2] 28, .row v9 41 7 n9 xs9, .blk bK #[.int .i64 n1, .int .i64 n2, .int .i64 x1, .int .i64 x2, .int .i64 (y1 - 1), .int .i64 (y2 - 1)] 47] wr) (fun jj _ => 3 - (intOf jj).toNat)
        case atStart => exact ⟨0, rfl, by omega, H⟩
        case round =>
          clear H C
          obtain ⟨j, rfl, hj, H⟩ := hrel
          skip
          try clear C
          try simp only [World.size_alloc, List.nil_append, List.cons_append, List.append_assoc] at H
          have C := H.cells
          try simp only [cellsOf, cellsM, apartOf, apartM, and_true] at C
          by_cases hlt : j < 3
          · have hji : (j : Int) < 3 := by omega
            obtain ⟨u, v, hu, hv⟩ : ∃ u v : Int, (#[.int .i64 n1, .int .i64 n2, .int .i64 x1, .int .i64 x2, .int .i64 (y1 - 1), .int .i64 (y2 - 1)] : Array Value)[j * 2]? = some (.int .i64 u) ∧ (#[.int .i64 n1, .int .i64 n2, .int .i64 x1, .int .i64 x2, .int .i64 (y1 - 1), .int .i64 (y2 - 1)] : Array Value)[j * 2 + 1]? = some (.int .i64 v) := by
              have : j = 0 ∨ j = 1 ∨ j = 2 := by omega
              rcases this with rfl | rfl | rfl <;> exact ⟨_, _, rfl, rfl⟩
            have c0 : wr.cell? ⟨bK, j * 2, none⟩ = some (.int .i64 u) := (Blk.cell (H.at 2 rfl) _).trans hu
            have c1 : wr.cell? ⟨bK, j * 2 + 1, none⟩ = some (.int .i64 v) := (Blk.cell (H.at 2 rfl) _).trans hv
            clear hu hv C
            go_upto_region 19 with fail
            clear c0 c1
            generalize hwb : wr.alloc _ = w14
            replace H := HS.eqW hwb H.alloc
            try simp only [World.size_alloc, List.nil_append, List.cons_append, List.append_assoc] at H
            clear hwb
            generalize wr.heap.size = b15 at H ⊢
            try clear C
            try clear wr
            have C := H.cells
            try simp only [cellsOf, cellsM, apartOf, apartM, and_true] at C
            obtain ⟨R, er, hV⟩ : ∃ R er, bestV ⟨s0, s1, s2, 1, s4, 2⟩ l u v = (R, er) := ⟨_, _, rfl⟩
            have HRF := Lib.hid (bestV_facts ⟨s0, s1, s2, 1, s4, 2⟩ l u v)
            rw [hV] at HRF
            have HB1 := Lib.hid (fun wx (h : Lies wx wx.heap.size sb 7 l.length (fun j => ndC l[j]!)) => (show Calls Try.prog 13 #[v6 s0 s1 s2 1 s4 2, .slice sb l.length cb, .int .i64 u, .int .i64 v] wx (GivesPl R er wx) from by
              have h9 := pBest_any s0 s1 s2 1 s4 2 (sa := sb) cb (l := l) (by omega) hcb u v wx h
              rw [hV] at h9
              exact h9))
            have HB2 := Lib.hid (fun wx (h : Lies wx wx.heap.size sb 7 l.length (fun j => ndC l[j]!)) => (show Calls Try.prog 17 #[v6 s0 s1 s2 1 s4 2, .slice sb l.length cb, .int .i64 u, .int .i64 v] wx (GivesPl R er wx) from by
              have h9 := rBest_any s0 s1 s2 1 s4 2 (sa := sb) cb (l := l) (by omega) hcb u v wx h
              rw [hV] at h9
              exact h9))
            clear hV
            have hee : (er == er) = true := by simp
            have hen : (er != er) = false := by simp
            go_wp2_with fail
            refine (HB1.out _ (HLX.out _ _ H)).mono ?_
            rintro _ w43 ⟨sk, ck, sq, cq, rfl, K⟩
            replace H := H.join K (two_low rfl rfl)
            clear K
            try simp only [List.nil_append, List.cons_append] at H
            skip
            try clear C
            try simp only [World.size_alloc, List.nil_append, List.cons_append, List.append_assoc] at H
            have C := H.cells
            try simp only [cellsOf, cellsM, apartOf, apartM, and_true] at C
            dsimp only
            go_upto_region 20 with fail
            generalize hwb : w43.alloc _ = w15
            replace H := HS.eqW hwb H.alloc
            try simp only [World.size_alloc, List.nil_append, List.cons_append, List.append_assoc] at H
            clear hwb
            generalize w43.heap.size = bP at H ⊢
            try clear C
            try clear w43
            have C := H.cells
            try simp only [cellsOf, cellsM, apartOf, apartM, and_true] at C
            go_wp2_with fail
            refine (HB2.out _ (HLX.out _ _ H)).mono ?_
            rintro _ w44 ⟨sk2, ck2, sq2, cq2, rfl, K⟩
            replace H := H.join K (two_low rfl rfl)
            clear K
            try simp only [List.nil_append, List.cons_append] at H
            skip
            try clear C
            try simp only [World.size_alloc, List.nil_append, List.cons_append, List.append_assoc] at H
            have C := H.cells
            try simp only [cellsOf, cellsM, apartOf, apartM, and_true] at C
            dsimp only
            go_upto_region 21 with fail
            generalize hwb : w44.alloc _ = w16
            replace H := HS.eqW hwb H.alloc
            try simp only [World.size_alloc, List.nil_append, List.cons_append, List.append_assoc] at H
            clear hwb
            generalize w44.heap.size = bQ at H ⊢
            try clear C
            try clear w44
            have C := H.cells
            try simp only [cellsOf, cellsM, apartOf, apartM, and_true] at C
            have HSM := Lib.hid (fun wx l1 l2 l3 l4 => (show Calls Try.prog 15 #[.agg #[.slice sq R.rows.length cq, .slice sk R.ranks.length ck, .int .i64 R.saved], .agg #[.slice sq2 R.rows.length cq2, .slice sk2 R.ranks.length ck2, .int .i64 R.saved]] wx (Gives (.bool true) wx) from by
              have h := rsame_any (ra := R.rows) (rb := R.rows) (ka := R.ranks) (kb := R.ranks) R.saved R.saved (sra := sq) (ska := sk) (srb := sq2) (skb := sk2) cq ck cq2 ck2 (by have := HRF.out.1; omega) (by have := HRF.out.2; omega) (by have := HRF.out.1; omega) (by have := HRF.out.2; omega) wx l1 l2 l3 l4
              rw [decide_eq_true ⟨rfl, rfl, rfl⟩] at h
              exact h))
            go_wp2_with fail
            refine (HSM.out _ (H.rowLies 5 iC_len rfl rfl) (H.rowLies 4 pC_len rfl rfl) (H.rowLies 8 iC_len rfl rfl) (H.rowLies 7 pC_len rfl rfl)).mono ?_
            rintro _ w45 ⟨rfl, hb⟩
            replace H := H.below hb
            clear hb
            skip
            try clear C
            try simp only [World.size_alloc, List.nil_append, List.cons_append, List.append_assoc] at H
            have C := H.cells
            try simp only [cellsOf, cellsM, apartOf, apartM, and_true] at C
            go_wp2_with fail
            go_roundw
            case rel => exact ⟨j + 1, by go_num, by omega, H.less (by repeat (first | exact .slnil | refine .cons_cons _ ?_ | refine .cons _ ?_))⟩
            case measure => simp [intOf]; omega
          · obtain rfl : j = 3 := by omega
            skip
            obtain ⟨vb, hvb⟩ : ∃ vb, vb = decide (validN ⟨s0, s1, s2, 1, s4, 2⟩ l) := ⟨_, rfl⟩
            have HV1 := Lib.hid (fun wx (h : Lies wx wx.heap.size sb 7 l.length (fun j => ndC l[j]!)) => (show Calls Try.prog 18 #[v6 s0 s1 s2 1 s4 2, .slice sb l.length cb] wx (Gives (.bool vb) wx) from by
              rw [hvb]; exact pvalid_any s0 s1 s2 1 s4 2 (sa := sb) cb (l := l) (by omega) hcb wx h))
            have HV2 := Lib.hid (fun wx (h : Lies wx wx.heap.size sb 7 l.length (fun j => ndC l[j]!)) => (show Calls Try.prog 19 #[v6 s0 s1 s2 1 s4 2, .slice sb l.length cb] wx (Gives (.bool vb) wx) from by
              rw [hvb]; exact rvalidN_any s0 s1 s2 1 s4 2 (sa := sb) cb (l := l) (by omega) hcb wx h))
            clear hvb
            go_upto_region 24 with fail
            have hbb : (vb == vb) = true := by simp
            refine wp_region_xH (by kernel_rfl) (by kernel_rfl) (by kernel_rfl) (by kernel_rfl) (fun _ => False) (H) ?_
            clear H; intro w17 H hz0 hs0
            try clear C
            try simp only [World.size_alloc, List.nil_append, List.cons_append, List.append_assoc] at H hz0
            clear hz0
            try clear wr
            have C := H.cells
            try simp only [cellsOf, cellsM, apartOf, apartM, and_true] at C
            have Z := H.zs
            try simp only [ltsOf, ltsM, and_true] at Z
            have hz0 := Nat.le_refl w17.heap.size
            repeat (first | (refine wpX_skip rfl ?_; go_simp) | (refine wpX_free rfl rfl rfl (fun K hK => ?_); go_step; refine hK _ _ ?_; clear hK K) | (refine wpX_load rfl rfl rfl (by simp [Stay, OneD, NoD, *]) hs0 (by simp [*]) (fun K hK => ?_); go_step; refine hK _ _ ?_; clear hK K))
            refine wpX_eff rfl rfl (fun _ _ => ?_)
            go_step
            refine (HV1.out _ (HLX.out _ _ H)).mono ?_
            rintro _ w18 ⟨rfl, hb⟩
            replace hs0 := hs0.belowS hz0 hb
            replace hz0 := Nat.le_trans hz0 hb.size
            replace H := H.below hb
            clear hb
            try clear C
            have C := H.cells
            try simp only [cellsOf, cellsM, apartOf, apartM, and_true] at C
            try clear w17
            dsimp only
            go_step
            refine ⟨hs0, ?_⟩
            repeat (first | (refine wpX_skip rfl ?_; go_simp) | (refine wpX_free rfl rfl rfl (fun K hK => ?_); go_step; refine hK _ _ ?_; clear hK K) | (refine wpX_load rfl rfl rfl (by simp [Stay, OneD, NoD, *]) hs0 (by simp [*]) (fun K hK => ?_); go_step; refine hK _ _ ?_; clear hK K))
            refine wpX_eff rfl rfl (fun _ _ => ?_)
            go_step
            refine (HV2.out _ (HLX.out _ _ H)).mono ?_
            rintro _ w19 ⟨rfl, hb⟩
            replace hs0 := hs0.belowS hz0 hb
            replace hz0 := Nat.le_trans hz0 hb.size
            replace H := H.below hb
            clear hb
            try clear C
            have C := H.cells
            try simp only [cellsOf, cellsM, apartOf, apartM, and_true] at C
            try clear w18
            dsimp only
            go_step
            refine ⟨hs0, ?_⟩
            repeat (first | (refine wpX_skip rfl ?_; go_simp) | (refine wpX_free rfl rfl rfl (fun K hK => ?_); go_step; refine hK _ _ ?_; clear hK K) | (refine wpX_load rfl rfl rfl (by simp [Stay, OneD, NoD, *]) hs0 (by simp [*]) (fun K hK => ?_); go_step; refine hK _ _ ?_; clear hK K))
            refine wpX_eff rfl rfl (fun _ _ => ?_)
            go_step
            refine (HAW.out _).mono ?_
            rintro _ w20 ⟨rfl, hb⟩
            replace hs0 := hs0.belowS hz0 hb
            replace hz0 := Nat.le_trans hz0 hb.size
            replace H := H.below hb
            clear hb
            try clear C
            have C := H.cells
            try simp only [cellsOf, cellsM, apartOf, apartM, and_true] at C
            try clear w19
            dsimp only
            go_step
            refine ⟨hs0, ?_⟩
            repeat (first | (refine wpX_skip rfl ?_; go_simp) | (refine wpX_free rfl rfl rfl (fun K hK => ?_); go_step; refine hK _ _ ?_; clear hK K) | (refine wpX_load rfl rfl rfl (by simp [Stay, OneD, NoD, *]) hs0 (by simp [*]) (fun K hK => ?_); go_step; refine hK _ _ ?_; clear hK K))
            (refine wpX_nil ?_; go_step)
            go_wp2_with fail
            go_ret
            exact ⟨rfl, H.done⟩
    · rw [decide_eq_false h400] at hli
      have HLI := Lib.hid hli
      clear hli
      go_enter Try.func5, Try.ntmps5
      have H := HS.start NoD w
      go_wp2_with fail
      refine (gives_of39 (HLI.out _)).mono ?_
      rintro _ w1 ⟨rfl, hb⟩
      replace H := H.below hb
      clear hb
      try clear C
      try simp only [World.size_alloc, List.nil_append, List.cons_append, List.append_assoc] at H
      have C := H.cells
      try simp only [cellsOf, cellsM, apartOf, apartM, and_true] at C
      dsimp only
      go_wp2_with fail
      refine (HAW.out _).mono ?_
      rintro _ w2 ⟨rfl, hb⟩
      replace H := H.below hb
      clear hb
      try clear C
      try simp only [World.size_alloc, List.nil_append, List.cons_append, List.append_assoc] at H
      try clear w1
      have C := H.cells
      try simp only [cellsOf, cellsM, apartOf, apartM, and_true] at C
      dsimp only
      go_wp2_with fail
      go_ret
      exact ⟨rfl, H.done⟩
  · have h20i : (20 : Int) < raw.length := by omega
    have h20d : decide ((20 : Int) < raw.length) = true := decide_eq_true h20i
    go_enter Try.func5, Try.ntmps5
    have H := HS.start NoD w
    go_wp2_with fail
    refine (HAW.out _).mono ?_
    rintro _ w1 ⟨rfl, hb⟩
    replace H := H.below hb
    clear hb
    try clear C
    try simp only [World.size_alloc, List.nil_append, List.cons_append, List.append_assoc] at H
    have C := H.cells
    try simp only [cellsOf, cellsM, apartOf, apartM, and_true] at C
    dsimp only
    go_wp2_with fail
    go_ret
    exact ⟨rfl, H.done⟩
end Go.Proofs.Ytdhnpjgnnfgklaa
