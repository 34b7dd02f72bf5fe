/- The statement RateNotes: its walk. -/
import Derived.Test.YtdcieajdgmopkaaRN3
import Derived.Test.YtdcieajdgmopkaaTwice
import Derived.Test.YtdcieajdgmopkaaRate5
import Derived.Deep.Light
namespace Go.Proofs.Ytdcieajdgmopkaa
set_option linter.unusedSimpArgs false
set_option linter.unusedVariables false
open Go.RowKit
set_option maxRecDepth 100000
attribute [local go_sem] lt_more ne_more ne_more'
attribute [local irreducible] wpX wpF wpG wpH Calls

theorem rnote_gen {P L part T n : Int} {sa : Option Addr} (c : Nat) {xs : List G3} (hx : xs.length ≤ 1000) (w : World) (hl : Lies w w.heap.size sa 3 xs.length (fun j => gC xs[j]!)) :
    Calls Try.prog 10 #[vG P L (.slice sa xs.length c), .int .i64 part, .int .i64 T, .int .i64 n] w (NoteP P L part T n xs w) := by
  by_cases hv : rvB P L xs = false
  · have he : noteErr P L part T n xs = 1 := by unfold noteErr; rw [if_pos hv]
    unfold NoteP
    rw [he]
    exact (rnote_inv c hx hv w hl).mono fun _ _ h => .inl ⟨by decide, h⟩
  · have hv' : rvB P L xs = true := by simpa using hv
    by_cases hr : ¬ (0 ≤ part ∧ (0 ≤ T ∧ T ≤ 1099511627776) ∧ (1 ≤ n ∧ n ≤ 1048576))
    · have he : noteErr P L part T n xs = 2 := by unfold noteErr; rw [if_neg hv, if_pos hr]
      unfold NoteP
      rw [he]
      exact (rnote_range c hx hv' hr w hl).mono fun _ _ h => .inl ⟨by decide, h⟩
    · exact rnote_rest c hv' (Decidable.not_not.1 hr) w hl

/-- How long the slice in a struct's third cell is. -/
def lenAt (b : Nat) (w : World) : Nat := match w.cell? ⟨b, 2, none⟩ with
  | some (.slice _ n _) => n
  | _ => 0
theorem lenAt_of {w : World} {b n c : Nat} {t : TypeId} {p q : Value} {s : Option Addr} (h : Blk w b #[p, q, .slice s n c] t) : lenAt b w = n := by
  unfold lenAt; rw [h.cell]; rfl
theorem noteA_len {part T n : Int} {ys zs : List G3} {lv : Int} (h : NoteA part T n ys zs lv) : zs.length ≤ ys.length + 1 := by
  cases h with
  | found i h1 h2 h3 => rw [List.length_set]; omega
  | fresh i h1 h2 h3 h4 => rw [List.length_append, List.length_cons, List.length_take, List.length_drop]; omega
theorem note_sorted {P L part T n : Int} {xs : List G3} (he : noteErr P L part T n xs = 0) : (leakL P T xs).Pairwise fun x y => x.p < y.p := by
  unfold noteErr at he
  have hv : rvB P L xs = true := by
    cases h : rvB P L xs
    · rw [if_pos h] at he; cases he
    · rfl
  unfold rvB at hv
  simp only [Bool.and_eq_true, decide_eq_true_eq] at hv
  exact sorted_leak (sorted_of hv.1).2
set_option maxHeartbeats 16000000 in
theorem notes_walk (P0 L0 : Int) {s0 : Option Addr} (c0 : Nat) {xs0 : List G3} (sa : Option Addr) (len cap : Nat) (hl : len ≤ maxLen) (part time n what : Int) (w : World) (hraw : Lies w w.heap.size s0 3 xs0.length (fun j => gC xs0[j]!)) (hI : Ints w sa len) :
    Calls Try.prog 3 #[vG P0 L0 (.slice s0 xs0.length c0), .slice sa len cap, .int .i64 part, .int .i64 time, .int .i64 n, .int .i64 what] w (Gives (.bool true) w) := by
  have HI := Lib.hid hI
  have HL := Lib.hid hraw
  clear hI hraw
  have hli := light_any sa len cap hl
  clear hl
  by_cases h100 : xs0.length ≤ 100
  · have h100i : ¬ (100 : Int) < xs0.length := by omega
    by_cases h400 : len ≤ 400
    · rw [decide_eq_true h400] at hli
      have HLI := Lib.hid hli
      clear hli
      have MA := Lib.hid (fun w => gives_of (mod_any part 10 w))
      have MB := Lib.hid (fun w => gives_of (mod_any time 80 w))
      have MC := Lib.hid (fun w => gives_of (mod_any n 4 w))
      have MD := Lib.hid (fun w => gives_of (mod_any time 2 w))
      have MD2 := Lib.hid (fun w => gives_of (mod_any n 2 w))
      have MW := Lib.hid (fun w => gives_of (mod_any what 8 w))
      generalize modF part 10 = ma at *
      generalize modF time 80 = mb at *
      generalize modF n 4 = mc at *
      generalize modF time 2 = me at *
      generalize modF n 2 = mf at *
      have hmd := modF_in (n := what) (m := 8) (by decide) (by decide)
      generalize modF what 8 = md at *
      go_enter Try.func3, Try.ntmps3
      have H := HS.start NoD w
      go_wp2_with fail
      refine (gives_of (HLI.out _)).mono ?_
      rintro _ w1 ⟨rfl, hb⟩
      replace H := H.alloc.below hb
      clear hb
      try clear C
      try simp only [World.size_alloc, List.nil_append, List.cons_append, List.append_assoc] at H
      generalize w.heap.size = bP at H ⊢
      have C := H.cells
      try simp only [cellsOf, apartOf, and_true] at C
      dsimp only
      go_wp2_with fail
      refine (roll_at w.heap.size _ _ _ h400 _ H.size (H.ints HI.out)).mono ?_
      rintro _ w2 ⟨bd, rfl, hd, hb, hbb⟩
      replace H := H.getsDice hb hd hbb (Nat.le_refl _)
      clear hb hd hbb
      try clear C
      try simp only [World.size_alloc, List.nil_append, List.cons_append, List.append_assoc] at H
      try clear w1
      have C := H.cells
      try simp only [cellsOf, apartOf, and_true] at C
      dsimp only
      go_wp2_with fail
      refine (gauges_any w.heap.size bd _ (H.at 1 rfl) H.size).mono ?_
      rintro _ wg ⟨P, L, xs, s1, c1, rfl, hr, hG, hd, hg⟩
      replace H := H.diceRow 1 rfl hg hd hr
      clear hr hd hg
      try simp only [List.nil_append, List.cons_append, List.append_assoc] at H
      skip
      try clear C
      try simp only [World.size_alloc, List.nil_append, List.cons_append, List.append_assoc] at H
      have C := H.cells
      try simp only [cellsOf, apartOf, and_true] at C
      have hxl := hG.len
      clear hG
      go_wp2_with fail
      refine (MW.out _).mono ?_
      rintro _ w3 ⟨rfl, hb⟩
      replace H := H.alloc.below hb
      clear hb
      try clear C
      try simp only [World.size_alloc, List.nil_append, List.cons_append, List.append_assoc] at H
      generalize wg.heap.size = bG at H ⊢
      try clear wg
      have C := H.cells
      try simp only [cellsOf, apartOf, and_true] at C
      dsimp only
      skip
      by_cases h0 : md = 0
      · subst h0
        go_wp2_with fail
        generalize hwb : ((w3.setCell _ _).setCell _ _).setCell _ _ = w4
        replace H := HS.eqW hwb (H.putAll (i := 3) rfl (vs := [.int .i64 P0, .int .i64 L0, .slice s0 xs0.length c0]) rfl rfl)
        simp only [List.nil_append, List.cons_append, List.append_assoc, List.set_cons_succ, List.set_cons_zero] at H
        clear hwb
        try clear C
        try clear w3
        have C := H.cells
        try simp only [cellsOf, apartOf, and_true] at C
        try clear C
        try simp only [World.size_alloc, List.nil_append, List.cons_append, List.append_assoc] at H
        have C := H.cells
        try simp only [cellsOf, apartOf, and_true] at C
        go_wp2_with fail
        refine (MA.out _).mono ?_
        rintro _ w5 ⟨rfl, hb⟩
        replace H := H.below hb
        clear hb
        try clear C
        try simp only [World.size_alloc, List.nil_append, List.cons_append, List.append_assoc] at H
        try clear w4
        have C := H.cells
        try simp only [cellsOf, apartOf, and_true] at C
        dsimp only
        go_wp2_with fail
        refine (MB.out _).mono ?_
        rintro _ w6 ⟨rfl, hb⟩
        replace H := H.below hb
        clear hb
        try clear C
        try simp only [World.size_alloc, List.nil_append, List.cons_append, List.append_assoc] at H
        try clear w5
        have C := H.cells
        try simp only [cellsOf, apartOf, and_true] at C
        dsimp only
        go_wp2_with fail
        refine (MC.out _).mono ?_
        rintro _ w7 ⟨rfl, hb⟩
        replace H := H.below hb
        clear hb
        try clear C
        try simp only [World.size_alloc, List.nil_append, List.cons_append, List.append_assoc] at H
        try clear w6
        have C := H.cells
        try simp only [cellsOf, apartOf, and_true] at C
        dsimp only
        go_wp2_with fail
        refine (MA.out _).mono ?_
        rintro _ w8 ⟨rfl, hb⟩
        replace H := H.below hb
        clear hb
        try clear C
        try simp only [World.size_alloc, List.nil_append, List.cons_append, List.append_assoc] at H
        try clear w7
        have C := H.cells
        try simp only [cellsOf, apartOf, and_true] at C
        dsimp only
        go_wp2_with fail
        refine (MD.out _).mono ?_
        rintro _ w9 ⟨rfl, hb⟩
        replace H := H.below hb
        clear hb
        try clear C
        try simp only [World.size_alloc, List.nil_append, List.cons_append, List.append_assoc] at H
        try clear w8
        have C := H.cells
        try simp only [cellsOf, apartOf, and_true] at C
        dsimp only
        go_wp2_with fail
        refine (MD2.out _).mono ?_
        rintro _ w10 ⟨rfl, hb⟩
        replace H := H.below hb
        clear hb
        try clear C
        try simp only [World.size_alloc, List.nil_append, List.cons_append, List.append_assoc] at H
        try clear w9
        have C := H.cells
        try simp only [cellsOf, apartOf, and_true] at C
        dsimp only
        go_wp2_with fail
        generalize hwb : w10.alloc _ = w11
        replace H := HS.eqW hwb H.alloc
        try simp only [World.size_alloc, List.nil_append, List.cons_append, List.append_assoc] at H
        clear hwb
        generalize w10.heap.size = bA at H ⊢
        try clear C
        try clear w10
        have C := H.cells
        try simp only [cellsOf, apartOf, and_true] at C
        have hA : ∃ cs : Array Value, (∀ j, j < 3 → ∃ x0 x1 x2 : Int, cs[j * 3]? = some (.int .i64 x0) ∧ cs[j * 3 + 1]? = some (.int .i64 x1) ∧ cs[j * 3 + 2]? = some (.int .i64 x2)) ∧ HS NoD w [.blk bP #[.int .i64 P0, .int .i64 L0, .slice s0 xs0.length c0] 24, .dice w.heap.size bd, .row (.slice s1 xs.length c1) 33 3 xs.length (xs.flatMap gC), .blk bG #[.int .i64 P0, .int .i64 L0, .slice s0 xs0.length c0] 24, .blk bA cs 34] w11 := ⟨_, fun j hj => by
          rcases (show j = 0 ∨ j = 1 ∨ j = 2 by omega) with rfl | rfl | rfl
          · exact ⟨_, _, _, rfl, rfl, rfl⟩
          · exact ⟨_, _, _, rfl, rfl, rfl⟩
          · exact ⟨_, _, _, rfl, rfl, rfl⟩, H⟩
        clear H C
        obtain ⟨cs, hcs, H⟩ := hA
        have HCS := Lib.hid hcs
        clear hcs
        have hxb : xs0.length ≤ 1000 := by omega
        go_loopw [119] (fun u wr => ∃ (j : Nat), u = .int .i64 j ∧ j ≤ 3 ∧ HS NoD w [.blk bP #[.int .i64 P0, .int .i64 L0, .slice s0 xs0.length c0] 24, .dice w.heap.size bd, .row (.slice s1 xs.length c1) 33 3 xs.length (xs.flatMap gC), .blk bG #[.int .i64 P0, .int .i64 L0, .slice s0 xs0.length c0] 24, .blk bA cs 34] wr) (fun u _ => 3 - (intOf u).toNat)
        case atStart => exact ⟨0, rfl, Nat.zero_le _, H⟩
        case round =>
          clear H
          obtain ⟨j, rfl, hj, H⟩ := hrel
          skip
          try clear C
          try simp only [World.size_alloc, List.nil_append, List.cons_append, List.append_assoc] at H
          have C := H.cells
          try simp only [cellsOf, apartOf, and_true] at C
          by_cases hlt : j < 3
          · obtain ⟨x0, x1, x2, e0, e1, e2⟩ := HCS.out j hlt
            go_upto_region 20 with fail
            generalize hwb : wr.alloc _ = w12
            replace H := HS.eqW hwb H.alloc
            try simp only [World.size_alloc, List.nil_append, List.cons_append, List.append_assoc] at H
            clear hwb
            generalize wr.heap.size = bx at H ⊢
            try clear C
            try clear wr
            have C := H.cells
            try simp only [cellsOf, apartOf, and_true] at C
            clear e0 e1 e2
            go_wp2_with fail
            refine (note_gen (part := x0) (T := x1) (n := x2) c0 hxb _ (H.liesUp HL.out)).mono ?_
            rintro e wn hn
            have hn2 := fun w hl => rnote_gen (P := P0) (L := L0) (part := x0) (T := x1) (n := x2) (sa := s0) c0 (xs := xs0) hxb w hl
            have HN2 := Lib.hid hn2
            clear hn2
            have hsort : noteErr P0 L0 x0 x1 x2 xs0 = 0 → (leakL P0 x1 xs0).Pairwise fun x y => x.p < y.p := fun he => note_sorted he
            have hlen : (leakL P0 x1 xs0).length ≤ 1000 := Nat.le_trans (leakL_len _ _ _) hxb
            unfold NoteP NotePA at hn HN2
            generalize noteErr P0 L0 x0 x1 x2 xs0 = er at hn HN2 hsort
            generalize leakL P0 x1 xs0 = ys at hn HN2 hsort hlen
            rcases hn with ⟨hne, hv, hb⟩ | ⟨rfl, zs, lv, hA, sz, cz, hv, hr, hb⟩
            · unfold zG at hv
              subst hv
              replace H := H.below hb
              clear hb C hsort
              skip
              try clear C
              try simp only [World.size_alloc, List.nil_append, List.cons_append, List.append_assoc] at H
              have C := H.cells
              try simp only [cellsOf, apartOf, and_true] at C
              go_wp2_with fail
              generalize hwb : wn.alloc _ = w13
              replace H := HS.eqW hwb H.alloc
              try simp only [World.size_alloc, List.nil_append, List.cons_append, List.append_assoc] at H
              clear hwb
              generalize wn.heap.size = bU at H ⊢
              try clear C
              try clear wn
              have C := H.cells
              try simp only [cellsOf, apartOf, and_true] at C
              refine (HN2.out _ (H.liesUp HL.out)).mono ?_
              rintro e wm (⟨hne2, hv, hb⟩ | ⟨he2, -⟩)
              · unfold zG at hv
                subst hv
                replace H := H.below hb
                clear hb C
                skip
                try clear C
                try simp only [World.size_alloc, List.nil_append, List.cons_append, List.append_assoc] at H
                have C := H.cells
                try simp only [cellsOf, apartOf, and_true] at C
                go_wp2_with fail
                refine (same26 0 0 (sa := none) (sb := none) 0 0 (xs := []) (by simp) _ (fun j hj => absurd hj (Nat.not_lt_zero _)) (fun j hj => absurd hj (Nat.not_lt_zero _))).mono ?_
                rintro _ w14 ⟨rfl, hb⟩
                replace H := H.alloc.below hb
                clear hb
                try clear C
                try simp only [World.size_alloc, List.nil_append, List.cons_append, List.append_assoc] at H
                generalize wm.heap.size = bV at H ⊢
                try clear wm
                have C := H.cells
                try simp only [cellsOf, apartOf, and_true] at C
                dsimp only
                go_wp2_with fail
                go_roundw
                case rel => exact ⟨j + 1, by go_num, by omega, H.less (by repeat (first | exact .slnil | refine .cons_cons _ ?_ | refine .cons _ ?_))⟩
                case measure => simp [intOf]; omega
              · exact absurd he2 hne
            · have HSO := Lib.hid (hsort rfl)
              clear hsort
              subst hv
              replace H := H.getsRow hb hr
              clear hb hr C
              have hzl := noteA_len hA
              skip
              try clear C
              try simp only [World.size_alloc, List.nil_append, List.cons_append, List.append_assoc] at H
              have C := H.cells
              try simp only [cellsOf, apartOf, and_true] at C
              go_wp2_with fail
              generalize hwb : wn.alloc _ = w15
              replace H := HS.eqW hwb H.alloc
              try simp only [World.size_alloc, List.nil_append, List.cons_append, List.append_assoc] at H
              clear hwb
              generalize wn.heap.size = bU at H ⊢
              try clear C
              try clear wn
              have C := H.cells
              try simp only [cellsOf, apartOf, and_true] at C
              refine (HN2.out _ (H.liesUp HL.out)).mono ?_
              rintro e wm (⟨hne2, hv, hb⟩ | ⟨-, zs', lv', hA', sz', cz', hv, hr, hb⟩)
              · exact absurd rfl hne2
              · obtain ⟨rfl, rfl⟩ := hA.uniq HSO.out hA'
                subst hv
                replace H := H.getsRow hb hr
                clear hb hr C hA hA'
                skip
                try clear C
                try simp only [World.size_alloc, List.nil_append, List.cons_append, List.append_assoc] at H
                have C := H.cells
                try simp only [cellsOf, apartOf, and_true] at C
                go_wp2_with fail
                refine (same26 P0 L0 (sa := sz) (sb := sz') cz cz' (xs := zs) (by omega) _ (H.alloc.rowLies 6 gC_len rfl rfl) (H.alloc.rowLies 8 gC_len rfl rfl)).mono ?_
                rintro _ w16 ⟨rfl, hb⟩
                replace H := H.alloc.below hb
                clear hb
                try clear C
                try simp only [World.size_alloc, List.nil_append, List.cons_append, List.append_assoc] at H
                generalize wm.heap.size = bV at H ⊢
                try clear wm
                have C := H.cells
                try simp only [cellsOf, apartOf, and_true] at C
                dsimp only
                go_wp2_with fail
                go_roundw
                case rel => exact ⟨j + 1, by go_num, by omega, H.less (by repeat (first | exact .slnil | refine .cons_cons _ ?_ | refine .cons _ ?_))⟩
                case measure => simp [intOf]; omega
          · skip
            have HV1 := Lib.hid (fun w hl => rvalid_any P0 L0 (sa := s0) c0 (xs := xs0) (by omega) w hl)
            have HV2 := Lib.hid (fun w hl => rv26_any P0 L0 (sa := s0) c0 (xs := xs0) hxb w hl)
            generalize rvB P0 L0 xs0 = rv at HV1 HV2
            go_wp2_with fail
            refine wp_region_xH (by kernel_rfl) (by kernel_rfl) (by kernel_rfl) (by kernel_rfl) (fun _ => False) (H) ?_
            clear H; intro w17 H hz0 hs0
            try clear C
            try simp only [World.size_alloc, List.nil_append, List.cons_append, List.append_assoc] at H hz0
            clear hz0
            try clear wr
            have C := H.cells
            try simp only [cellsOf, apartOf, and_true] at C
            have Z := H.zs
            try simp only [ltsOf, and_true] at Z
            have hz0 := Nat.le_refl w17.heap.size
            repeat (first | (refine wpX_skip rfl ?_; go_simp) | (refine wpX_free rfl rfl rfl (fun K hK => ?_); go_step; refine hK _ _ ?_; clear hK K) | (refine wpX_load rfl rfl rfl (by simp [Stay, OneD, NoD, *]) hs0 (by simp [*]) (fun K hK => ?_); go_step; refine hK _ _ ?_; clear hK K))
            refine wpX_eff rfl rfl (fun _ _ => ?_)
            go_step
            refine (HV1.out _ (H.liesUp HL.out)).mono ?_
            rintro _ w18 ⟨rfl, hb⟩
            replace hs0 := hs0.belowS hz0 hb
            replace hz0 := Nat.le_trans hz0 hb.size
            replace H := H.below hb
            clear hb
            try clear C
            have C := H.cells
            try simp only [cellsOf, apartOf, and_true] at C
            try clear w17
            dsimp only
            go_step
            refine ⟨hs0, ?_⟩
            repeat (first | (refine wpX_skip rfl ?_; go_simp) | (refine wpX_free rfl rfl rfl (fun K hK => ?_); go_step; refine hK _ _ ?_; clear hK K) | (refine wpX_load rfl rfl rfl (by simp [Stay, OneD, NoD, *]) hs0 (by simp [*]) (fun K hK => ?_); go_step; refine hK _ _ ?_; clear hK K))
            refine wpX_eff rfl rfl (fun _ _ => ?_)
            go_step
            refine (HV2.out _ (H.liesUp HL.out)).mono ?_
            rintro _ w19 ⟨rfl, hb⟩
            replace hs0 := hs0.belowS hz0 hb
            replace hz0 := Nat.le_trans hz0 hb.size
            replace H := H.below hb
            clear hb
            try clear C
            have C := H.cells
            try simp only [cellsOf, apartOf, and_true] at C
            try clear w18
            dsimp only
            go_step
            refine ⟨hs0, ?_⟩
            repeat (first | (refine wpX_skip rfl ?_; go_simp) | (refine wpX_free rfl rfl rfl (fun K hK => ?_); go_step; refine hK _ _ ?_; clear hK K) | (refine wpX_load rfl rfl rfl (by simp [Stay, OneD, NoD, *]) hs0 (by simp [*]) (fun K hK => ?_); go_step; refine hK _ _ ?_; clear hK K))
            refine wpX_eff rfl rfl (fun _ _ => ?_)
            go_step
            refine (awake26 _).mono ?_
            rintro _ w20 ⟨rfl, hb⟩
            replace hs0 := hs0.belowS hz0 hb
            replace hz0 := Nat.le_trans hz0 hb.size
            replace H := H.below hb
            clear hb
            try clear C
            have C := H.cells
            try simp only [cellsOf, apartOf, and_true] at C
            try clear w19
            dsimp only
            go_step
            refine ⟨hs0, ?_⟩
            repeat (first | (refine wpX_skip rfl ?_; go_simp) | (refine wpX_free rfl rfl rfl (fun K hK => ?_); go_step; refine hK _ _ ?_; clear hK K) | (refine wpX_load rfl rfl rfl (by simp [Stay, OneD, NoD, *]) hs0 (by simp [*]) (fun K hK => ?_); go_step; refine hK _ _ ?_; clear hK K))
            (refine wpX_nil ?_; go_step)
            go_wp2_with fail
            go_ret
            exact ⟨rfl, H.done⟩
      · skip
        go_upto_block 0 with fail
        go_cut [] from 38 to 94 (fun wx => ∃ (P L : Int) (xs : List G3) (s1 : Option Addr) (c1 : Nat), xs.length ≤ 70 ∧ HS NoD w [.blk bP #[.int .i64 P0, .int .i64 L0, .slice s0 xs0.length c0] 24, .dice w.heap.size bd, .row (.slice s1 xs.length c1) 33 3 xs.length (xs.flatMap gC), .blk bG #[.int .i64 P, .int .i64 L, .slice s1 xs.length c1] 24] wx)
        case first =>
          have hm7 : md = 1 ∨ md = 2 ∨ md = 3 ∨ md = 4 ∨ (md = 5 ∨ md = 6 ∨ md = 7) := by go_light; omega
          skip
          rcases hm7 with rfl | rfl | rfl | rfl | hm7
          · go_wp2_with fail
            refine (gives_of (mod_any _ _ _)).mono ?_
            rintro _ w21 ⟨rfl, hb⟩
            replace H := H.below hb
            clear hb
            try clear C
            try simp only [World.size_alloc, List.nil_append, List.cons_append, List.append_assoc] at H
            try clear w3
            have C := H.cells
            try simp only [cellsOf, apartOf, and_true] at C
            dsimp only
            go_wp2_with fail
            go_meet
            case rel => exact ⟨_, L, xs, s1, c1, by go_light; omega, H.setTo 3 rfl (by rfl)⟩
          · skip
            go_wp2_with fail
            refine (gives_of (mod_any _ _ _)).mono ?_
            rintro _ w22 ⟨rfl, hb⟩
            replace H := H.below hb
            clear hb
            try clear C
            try simp only [World.size_alloc, List.nil_append, List.cons_append, List.append_assoc] at H
            try clear w3
            have C := H.cells
            try simp only [cellsOf, apartOf, and_true] at C
            dsimp only
            go_wp2_with fail
            go_meet
            case rel => exact ⟨P, _, xs, s1, c1, by go_light; omega, H.setTo 3 rfl (by rfl)⟩
          · have HM12 := Lib.hid (fun w => gives_of (mod_any (wrap64 (what.tdiv 8)) 12 w))
            have HM96 := Lib.hid (fun w => gives_of (mod_any (wrap64 (what.tdiv 96)) 3 w))
            generalize modF (wrap64 (what.tdiv 8)) 12 = u12 at HM12
            generalize modF (wrap64 (what.tdiv 96)) 3 = u96 at HM96
            skip
            go_upto_region 12 with fail
            have hX : ¬ (Value.slice s1 xs.length c1).ownBlock = some bG := fun e => H.apart (i := 2) (j := 3) rfl rfl (by decide) e rfl
            refine wp_region_hz (by kernel_rfl) [0, 1, 2, 3, 4, 5, 6, 7, 8, 9, 10, 11] (by kernel_rfl) (by kernel_rfl) (by kernel_rfl) rfl (fun k => (Value.slice s1 xs.length c1).ownBlock = some k) (H) ?_
            clear H; intro w23 H hz0
            try clear C
            try simp only [World.size_alloc, List.nil_append, List.cons_append, List.append_assoc] at H hz0 ⊢
            clear hz0
            try clear w3
            have C := H.cells
            try simp only [cellsOf, apartOf, and_true] at C
            have Z := H.zs
            try simp only [ltsOf, and_true] at Z
            simp only [List.filterMap_cons, List.filterMap_nil, List.getElem?_toArray, List.getElem?_cons_zero, List.getElem?_cons_succ]
            (refine wpH_free rfl rfl rfl (fun _ _ => ?_); go_step; go_step)
            (refine wpH_load rfl rfl rfl (by simp [Stay, OneD, NoD, *]) (by simp [*]) (fun _ _ => ?_); go_step; go_step)
            (refine wpH_free rfl rfl rfl (fun _ _ => ?_); go_step; go_step)
            (refine wpH_yield rfl rfl (.int .i64 (wrap64 (what.tdiv 8)) ) (fun w _ => by  (go_simp <;> simp only [IntKind.wrap_i64, wrap64])) ?_; go_simp)
            (refine wpH_call rfl rfl (fun wc hc _ _ => ?_); go_step; refine (HM12.out _).mono ?_; rintro _ wd ⟨rfl, hb⟩; dsimp only; go_step; refine ⟨_, (hc.belowH (fun _ h => h.1) hb).1, (hc.belowH (fun _ h => h.1) hb).2, ?_⟩; clear hb hc wc wd)
            (refine wpH_free rfl rfl rfl (fun _ _ => ?_); go_step; go_step)
            (refine wpH_yield rfl rfl (.int .i64 (wrap64 (what.tdiv 96)) ) (fun w _ => by  (go_simp <;> simp only [IntKind.wrap_i64, wrap64])) ?_; go_simp)
            (refine wpH_call rfl rfl (fun wc hc _ _ => ?_); go_step; refine (HM96.out _).mono ?_; rintro _ wd ⟨rfl, hb⟩; dsimp only; go_step; refine ⟨_, (hc.belowH (fun _ h => h.1) hb).1, (hc.belowH (fun _ h => h.1) hb).2, ?_⟩; clear hb hc wc wd)
            (refine wpH_free rfl rfl rfl (fun _ _ => ?_); go_step; go_step)
            (refine wpH_lit rfl rfl #[.int .i64 u12, .int .i64 u96, .int .i64 5]   33 1 (fun w => by kernel_rfl) (fun bL hbL nbL _ _ => ?_); go_simp; go_step)
            refine wpH_append rfl (.tmp 60) (.tmp 68) 22 rfl elemG 2 rfl rfl (fun b hb hS => hS.2 hb) (fun _ h => h.1) rfl (fun w hc => src_lit (Fl.at _ _ _) hc) rfl (fun y hy => gC_one [⟨u12, u96, 5⟩] y (by simpa [gC] using hy)) (by go_light; unfold maxLen; omega) (by go_light; omega) (N := xs.length + 1) rfl (fun s2 c2 hs2 => ?_)
            (refine wpH_free rfl rfl rfl (fun _ _ => ?_); go_step; go_step)
            refine wpH_nil ?_
            intro w24 hC
            replace H := hC.hs
            clear hC
            try clear C
            try clear Z
            try simp only [List.nil_append, List.cons_append, List.append_assoc, List.set_cons_succ, List.set_cons_zero] at H
            try clear w23
            have C := H.cells
            try simp only [cellsOf, apartOf, and_true] at C
            go_wp2_with fail
            go_meet
            case rel => exact ⟨P, L, xs ++ [⟨u12, u96, 5⟩], s2, c2, by go_light; simp; omega, by
              rw [List.length_append, List.flatMap_append]
              exact H.setTo (o := 2) (v := .slice s2 (xs.length + 1) c2) 3 rfl (by rfl)⟩
          · have HM3 := Lib.hid (fun w => gives_of (mod_any (wrap64 (what.tdiv 8)) 3 w))
            have HMW2 := Lib.hid (fun w => gives_of (mod_any what 2 w))
            generalize modF what 2 = u2 at HMW2
            have hm3 := modF_in (n := wrap64 (what.tdiv 8)) (m := 3) (by decide) (by decide)
            generalize modF (wrap64 (what.tdiv 8)) 3 = m3 at HM3 hm3
            skip
            go_wp2_with fail
            go_loopw [] (fun wr => ∃ (xs : List G3) (s1 : Option Addr) (c1 : Nat), xs.length ≤ 66 ∧ HS NoD w [.blk bP #[.int .i64 P0, .int .i64 L0, .slice s0 xs0.length c0] 24, .dice w.heap.size bd, .row (.slice s1 xs.length c1) 33 3 xs.length (xs.flatMap gC), .blk bG #[.int .i64 P, .int .i64 L, .slice s1 xs.length c1] 24] wr) (fun wr => 70 - lenAt bG wr)
            case atStart => exact ⟨xs, s1, c1, by go_light; omega, H⟩
            case round =>
              clear H C
              clear hxl
              obtain ⟨xs, s1, c1, hxl, H⟩ := hrel
              skip
              try clear C
              try simp only [World.size_alloc, List.nil_append, List.cons_append, List.append_assoc] at H
              have C := H.cells
              try simp only [cellsOf, apartOf, and_true] at C
              have hla : lenAt bG wr = xs.length := lenAt_of (H.at 3 rfl)
              have HLA := Lib.hid hla
              clear hla
              go_upto_region 15 with fail
              refine wp_region_xH (by kernel_rfl) (by kernel_rfl) (by kernel_rfl) (by kernel_rfl) (fun _ => False) (H) ?_
              clear H; intro w25 H hz0 hs0
              try clear C
              try simp only [World.size_alloc, List.nil_append, List.cons_append, List.append_assoc] at H hz0
              clear hz0
              try clear wr
              have C := H.cells
              try simp only [cellsOf, apartOf, and_true] at C
              have Z := H.zs
              try simp only [ltsOf, and_true] at Z
              have hz0 := Nat.le_refl w25.heap.size
              repeat (first | (refine wpX_skip rfl ?_; go_simp) | (refine wpX_free rfl rfl rfl (fun K hK => ?_); go_step; refine hK _ _ ?_; clear hK K) | (refine wpX_load rfl rfl rfl (by simp [Stay, OneD, NoD, *]) hs0 (by simp [*]) (fun K hK => ?_); go_step; refine hK _ _ ?_; clear hK K))
              refine wpX_eff rfl rfl (fun _ _ => ?_)
              go_step
              refine (HM3.out _).mono ?_
              rintro _ w26 ⟨rfl, hb⟩
              replace hs0 := hs0.belowS hz0 hb
              replace hz0 := Nat.le_trans hz0 hb.size
              replace H := H.below hb
              clear hb
              try clear C
              have C := H.cells
              try simp only [cellsOf, apartOf, and_true] at C
              try clear w25
              dsimp only
              go_step
              refine ⟨hs0, ?_⟩
              repeat (first | (refine wpX_skip rfl ?_; go_simp) | (refine wpX_free rfl rfl rfl (fun K hK => ?_); go_step; refine hK _ _ ?_; clear hK K) | (refine wpX_load rfl rfl rfl (by simp [Stay, OneD, NoD, *]) hs0 (by simp [*]) (fun K hK => ?_); go_step; refine hK _ _ ?_; clear hK K))
              (refine wpX_nil ?_; go_step)
              by_cases hc : (xs.length : Int) < 63 + m3
              · skip
                obtain ⟨pv, hpv0⟩ : ∃ pv, pv = IntKind.i64.wrap (20 + (xs.length : Int)) := ⟨_, rfl⟩
                obtain ⟨lv, hlv0⟩ : ∃ lv, lv = IntKind.i64.wrap (1048576 - u2) := ⟨_, rfl⟩
                have hpv := Lib.hid hpv0
                have hlv := Lib.hid hlv0
                clear hpv0 hlv0
                go_upto_region 16 with fail
                have hX : ¬ (Value.slice s1 xs.length c1).ownBlock = some bG := fun e => H.apart (i := 2) (j := 3) rfl rfl (by decide) e rfl
                refine wp_region_hz (by kernel_rfl) [0, 1, 2, 3, 4, 5, 6, 7, 8, 9, 10, 11, 12, 13] (by kernel_rfl) (by kernel_rfl) (by kernel_rfl) rfl (fun k => (Value.slice s1 xs.length c1).ownBlock = some k) (H) ?_
                clear H; intro w27 H hz0
                try clear C
                try simp only [World.size_alloc, List.nil_append, List.cons_append, List.append_assoc] at H hz0 ⊢
                clear hz0
                try clear w26
                have C := H.cells
                try simp only [cellsOf, apartOf, and_true] at C
                have Z := H.zs
                try simp only [ltsOf, and_true] at Z
                simp only [List.filterMap_cons, List.filterMap_nil, List.getElem?_toArray, List.getElem?_cons_zero, List.getElem?_cons_succ]
                (refine wpH_free rfl rfl rfl (fun _ _ => ?_); go_step; go_step)
                (refine wpH_load rfl rfl rfl (by go_light; simp [Stay, OneD, NoD, *]) (by go_light; simp [*]) (fun _ _ => ?_); go_step; go_step)
                (refine wpH_free rfl rfl rfl (fun _ _ => ?_); go_step; go_step)
                (refine wpH_free rfl rfl rfl (fun _ _ => ?_); go_step; go_step)
                (refine wpH_load rfl rfl rfl (by go_light; simp [Stay, OneD, NoD, *]) (by go_light; simp [*]) (fun _ _ => ?_); go_step; go_step)
                (refine wpH_free rfl rfl rfl (fun _ _ => ?_); go_step; go_step)
                (refine wpH_yield rfl rfl (.int .i64 pv ) (fun w _ => by  (go_simp; exact hpv.out.symm)) ?_; go_simp)
                (refine wpH_free rfl rfl rfl (fun _ _ => ?_); go_step; go_step)
                (refine wpH_call rfl rfl (fun wc hc _ _ => ?_); go_step; refine (HMW2.out _).mono ?_; rintro _ wd ⟨rfl, hb⟩; dsimp only; go_step; refine ⟨_, (hc.belowH (fun _ h => h.1) hb).1, (hc.belowH (fun _ h => h.1) hb).2, ?_⟩; clear hb hc wc wd)
                (refine wpH_yield rfl rfl (.int .i64 lv ) (fun w _ => by  (go_simp; exact hlv.out.symm)) ?_; go_simp)
                (refine wpH_free rfl rfl rfl (fun _ _ => ?_); go_step; go_step)
                (refine wpH_lit rfl rfl #[.int .i64 pv, .int .i64 lv, .int .i64 3]   33 1 (fun w => by kernel_rfl) (fun bL hbL nbL _ _ => ?_); go_simp; go_step)
                refine wpH_append rfl (.tmp 82) (.tmp 92) 22 rfl elemG 2 rfl rfl (fun b hb hS => hS.2 hb) (fun _ h => h.1) rfl (fun w hc => src_lit (Fl.at _ _ _) hc) rfl (fun y hy => gC_one [⟨pv, lv, 3⟩] y (by simpa [gC] using hy)) (by go_light; unfold maxLen; omega) (by go_light; omega) (N := xs.length + 1) rfl (fun s2 c2 hs2 => ?_)
                (refine wpH_free rfl rfl rfl (fun _ _ => ?_); go_step; go_step)
                refine wpH_nil ?_
                intro w28 hC
                replace H := hC.hs
                clear hC
                try clear C
                try clear Z
                try simp only [List.nil_append, List.cons_append, List.append_assoc, List.set_cons_succ, List.set_cons_zero] at H
                try clear w27
                have C := H.cells
                try simp only [cellsOf, apartOf, and_true] at C
                go_wp2_with fail
                have H2 := H.setTo (o := 2) (v := .slice s2 (xs.length + 1) c2) 3 rfl rfl
                clear H C
                have hlb := lenAt_of (b := bG) (n := xs.length + 1) (H2.at 3 rfl)
                go_roundw
                case rel => exact ⟨xs ++ [⟨pv, lv, 3⟩], s2, c2, by go_light; simp; omega, by
                  rw [List.length_append, List.flatMap_append]
                  exact H2⟩
                case measure => go_light; rw [hlb, HLA.out]; omega
              · skip
                go_wp2_with fail
                go_meet
                case rel => exact ⟨P, L, xs, s1, c1, by go_light; omega, H⟩
          · skip
            rcases hm7 with rfl | rfl | rfl
            all_goals go_wp2_with fail
            all_goals go_meet
            all_goals exact ⟨P, L, xs, s1, c1, by go_light; omega, H⟩
        case rest =>
          clear H C
          clear hxl
          obtain ⟨P, L, xs, s1, c1, hxl, H⟩ := hcut
          skip
          try clear C
          try simp only [World.size_alloc, List.nil_append, List.cons_append, List.append_assoc] at H
          have C := H.cells
          try simp only [cellsOf, apartOf, and_true] at C
          go_wp2_with fail
          refine (MA.out _).mono ?_
          rintro _ w29 ⟨rfl, hb⟩
          replace H := H.below hb
          clear hb
          try clear C
          try simp only [World.size_alloc, List.nil_append, List.cons_append, List.append_assoc] at H
          try clear wc
          have C := H.cells
          try simp only [cellsOf, apartOf, and_true] at C
          dsimp only
          go_wp2_with fail
          refine (MB.out _).mono ?_
          rintro _ w30 ⟨rfl, hb⟩
          replace H := H.below hb
          clear hb
          try clear C
          try simp only [World.size_alloc, List.nil_append, List.cons_append, List.append_assoc] at H
          try clear w29
          have C := H.cells
          try simp only [cellsOf, apartOf, and_true] at C
          dsimp only
          go_wp2_with fail
          refine (MC.out _).mono ?_
          rintro _ w31 ⟨rfl, hb⟩
          replace H := H.below hb
          clear hb
          try clear C
          try simp only [World.size_alloc, List.nil_append, List.cons_append, List.append_assoc] at H
          try clear w30
          have C := H.cells
          try simp only [cellsOf, apartOf, and_true] at C
          dsimp only
          go_wp2_with fail
          refine (MA.out _).mono ?_
          rintro _ w32 ⟨rfl, hb⟩
          replace H := H.below hb
          clear hb
          try clear C
          try simp only [World.size_alloc, List.nil_append, List.cons_append, List.append_assoc] at H
          try clear w31
          have C := H.cells
          try simp only [cellsOf, apartOf, and_true] at C
          dsimp only
          go_wp2_with fail
          refine (MD.out _).mono ?_
          rintro _ w33 ⟨rfl, hb⟩
          replace H := H.below hb
          clear hb
          try clear C
          try simp only [World.size_alloc, List.nil_append, List.cons_append, List.append_assoc] at H
          try clear w32
          have C := H.cells
          try simp only [cellsOf, apartOf, and_true] at C
          dsimp only
          go_wp2_with fail
          refine (MD2.out _).mono ?_
          rintro _ w34 ⟨rfl, hb⟩
          replace H := H.below hb
          clear hb
          try clear C
          try simp only [World.size_alloc, List.nil_append, List.cons_append, List.append_assoc] at H
          try clear w33
          have C := H.cells
          try simp only [cellsOf, apartOf, and_true] at C
          dsimp only
          go_wp2_with fail
          generalize hwb : w34.alloc _ = w35
          replace H := HS.eqW hwb H.alloc
          try simp only [World.size_alloc, List.nil_append, List.cons_append, List.append_assoc] at H
          clear hwb
          generalize w34.heap.size = bA at H ⊢
          try clear C
          try clear w34
          have C := H.cells
          try simp only [cellsOf, apartOf, and_true] at C
          have hA : ∃ cs : Array Value, (∀ j, j < 3 → ∃ x0 x1 x2 : Int, cs[j * 3]? = some (.int .i64 x0) ∧ cs[j * 3 + 1]? = some (.int .i64 x1) ∧ cs[j * 3 + 2]? = some (.int .i64 x2)) ∧ HS NoD w [.blk bP #[.int .i64 P0, .int .i64 L0, .slice s0 xs0.length c0] 24, .dice w.heap.size bd, .row (.slice s1 xs.length c1) 33 3 xs.length (xs.flatMap gC), .blk bG #[.int .i64 P, .int .i64 L, .slice s1 xs.length c1] 24, .blk bA cs 34] w35 := ⟨_, fun j hj => by
            rcases (show j = 0 ∨ j = 1 ∨ j = 2 by omega) with rfl | rfl | rfl
            · exact ⟨_, _, _, rfl, rfl, rfl⟩
            · exact ⟨_, _, _, rfl, rfl, rfl⟩
            · exact ⟨_, _, _, rfl, rfl, rfl⟩, H⟩
          clear H C
          obtain ⟨cs, hcs, H⟩ := hA
          have HCS := Lib.hid hcs
          clear hcs
          have hxb : xs.length ≤ 1000 := by omega
          go_loopw [119] (fun u wr => ∃ (j : Nat), u = .int .i64 j ∧ j ≤ 3 ∧ HS NoD w [.blk bP #[.int .i64 P0, .int .i64 L0, .slice s0 xs0.length c0] 24, .dice w.heap.size bd, .row (.slice s1 xs.length c1) 33 3 xs.length (xs.flatMap gC), .blk bG #[.int .i64 P, .int .i64 L, .slice s1 xs.length c1] 24, .blk bA cs 34] wr) (fun u _ => 3 - (intOf u).toNat)
          case atStart => exact ⟨0, rfl, Nat.zero_le _, H⟩
          case round =>
            clear H
            obtain ⟨j, rfl, hj, H⟩ := hrel
            skip
            try clear C
            try simp only [World.size_alloc, List.nil_append, List.cons_append, List.append_assoc] at H
            have C := H.cells
            try simp only [cellsOf, apartOf, and_true] at C
            by_cases hlt : j < 3
            · obtain ⟨x0, x1, x2, e0, e1, e2⟩ := HCS.out j hlt
              go_upto_region 20 with fail
              generalize hwb : wr.alloc _ = w36
              replace H := HS.eqW hwb H.alloc
              try simp only [World.size_alloc, List.nil_append, List.cons_append, List.append_assoc] at H
              clear hwb
              generalize wr.heap.size = bx at H ⊢
              try clear C
              try clear wr
              have C := H.cells
              try simp only [cellsOf, apartOf, and_true] at C
              clear e0 e1 e2
              go_wp2_with fail
              refine (note_gen (part := x0) (T := x1) (n := x2) c1 hxb _ (H.rowLies 2 gC_len rfl rfl)).mono ?_
              rintro e wn hn
              have hn2 := fun w hl => rnote_gen (P := P) (L := L) (part := x0) (T := x1) (n := x2) (sa := s1) c1 (xs := xs) hxb w hl
              have HN2 := Lib.hid hn2
              clear hn2
              have hsort : noteErr P L x0 x1 x2 xs = 0 → (leakL P x1 xs).Pairwise fun x y => x.p < y.p := fun he => note_sorted he
              have hlen : (leakL P x1 xs).length ≤ 1000 := Nat.le_trans (leakL_len _ _ _) hxb
              unfold NoteP NotePA at hn HN2
              generalize noteErr P L x0 x1 x2 xs = er at hn HN2 hsort
              generalize leakL P x1 xs = ys at hn HN2 hsort hlen
              rcases hn with ⟨hne, hv, hb⟩ | ⟨rfl, zs, lv, hA, sz, cz, hv, hr, hb⟩
              · unfold zG at hv
                subst hv
                replace H := H.below hb
                clear hb C hsort
                skip
                try clear C
                try simp only [World.size_alloc, List.nil_append, List.cons_append, List.append_assoc] at H
                have C := H.cells
                try simp only [cellsOf, apartOf, and_true] at C
                go_wp2_with fail
                generalize hwb : wn.alloc _ = w37
                replace H := HS.eqW hwb H.alloc
                try simp only [World.size_alloc, List.nil_append, List.cons_append, List.append_assoc] at H
                clear hwb
                generalize wn.heap.size = bU at H ⊢
                try clear C
                try clear wn
                have C := H.cells
                try simp only [cellsOf, apartOf, and_true] at C
                refine (HN2.out _ (H.rowLies 2 gC_len rfl rfl)).mono ?_
                rintro e wm (⟨hne2, hv, hb⟩ | ⟨he2, -⟩)
                · unfold zG at hv
                  subst hv
                  replace H := H.below hb
                  clear hb C
                  skip
                  try clear C
                  try simp only [World.size_alloc, List.nil_append, List.cons_append, List.append_assoc] at H
                  have C := H.cells
                  try simp only [cellsOf, apartOf, and_true] at C
                  go_wp2_with fail
                  refine (same26 0 0 (sa := none) (sb := none) 0 0 (xs := []) (by simp) _ (fun j hj => absurd hj (Nat.not_lt_zero _)) (fun j hj => absurd hj (Nat.not_lt_zero _))).mono ?_
                  rintro _ w38 ⟨rfl, hb⟩
                  replace H := H.alloc.below hb
                  clear hb
                  try clear C
                  try simp only [World.size_alloc, List.nil_append, List.cons_append, List.append_assoc] at H
                  generalize wm.heap.size = bV at H ⊢
                  try clear wm
                  have C := H.cells
                  try simp only [cellsOf, apartOf, and_true] at C
                  dsimp only
                  go_wp2_with fail
                  go_roundw
                  case rel => exact ⟨j + 1, by go_num, by omega, H.less (by repeat (first | exact .slnil | refine .cons_cons _ ?_ | refine .cons _ ?_))⟩
                  case measure => simp [intOf]; omega
                · exact absurd he2 hne
              · have HSO := Lib.hid (hsort rfl)
                clear hsort
                subst hv
                replace H := H.getsRow hb hr
                clear hb hr C
                have hzl := noteA_len hA
                skip
                try clear C
                try simp only [World.size_alloc, List.nil_append, List.cons_append, List.append_assoc] at H
                have C := H.cells
                try simp only [cellsOf, apartOf, and_true] at C
                go_wp2_with fail
                generalize hwb : wn.alloc _ = w39
                replace H := HS.eqW hwb H.alloc
                try simp only [World.size_alloc, List.nil_append, List.cons_append, List.append_assoc] at H
                clear hwb
                generalize wn.heap.size = bU at H ⊢
                try clear C
                try clear wn
                have C := H.cells
                try simp only [cellsOf, apartOf, and_true] at C
                refine (HN2.out _ (H.rowLies 2 gC_len rfl rfl)).mono ?_
                rintro e wm (⟨hne2, hv, hb⟩ | ⟨-, zs', lv', hA', sz', cz', hv, hr, hb⟩)
                · exact absurd rfl hne2
                · obtain ⟨rfl, rfl⟩ := hA.uniq HSO.out hA'
                  subst hv
                  replace H := H.getsRow hb hr
                  clear hb hr C hA hA'
                  skip
                  try clear C
                  try simp only [World.size_alloc, List.nil_append, List.cons_append, List.append_assoc] at H
                  have C := H.cells
                  try simp only [cellsOf, apartOf, and_true] at C
                  go_wp2_with fail
                  refine (same26 P L (sa := sz) (sb := sz') cz cz' (xs := zs) (by omega) _ (H.alloc.rowLies 6 gC_len rfl rfl) (H.alloc.rowLies 8 gC_len rfl rfl)).mono ?_
                  rintro _ w40 ⟨rfl, hb⟩
                  replace H := H.alloc.below hb
                  clear hb
                  try clear C
                  try simp only [World.size_alloc, List.nil_append, List.cons_append, List.append_assoc] at H
                  generalize wm.heap.size = bV at H ⊢
                  try clear wm
                  have C := H.cells
                  try simp only [cellsOf, apartOf, and_true] at C
                  dsimp only
                  go_wp2_with fail
                  go_roundw
                  case rel => exact ⟨j + 1, by go_num, by omega, H.less (by repeat (first | exact .slnil | refine .cons_cons _ ?_ | refine .cons _ ?_))⟩
                  case measure => simp [intOf]; omega
            · skip
              have HV1 := Lib.hid (fun w hl => rvalid_any P L (sa := s1) c1 (xs := xs) (by omega) w hl)
              have HV2 := Lib.hid (fun w hl => rv26_any P L (sa := s1) c1 (xs := xs) hxb w hl)
              generalize rvB P L xs = rv at HV1 HV2
              go_wp2_with fail
              refine wp_region_xH (by kernel_rfl) (by kernel_rfl) (by kernel_rfl) (by kernel_rfl) (fun _ => False) (H) ?_
              clear H; intro w41 H hz0 hs0
              try clear C
              try simp only [World.size_alloc, List.nil_append, List.cons_append, List.append_assoc] at H hz0
              clear hz0
              try clear wr
              have C := H.cells
              try simp only [cellsOf, apartOf, and_true] at C
              have Z := H.zs
              try simp only [ltsOf, and_true] at Z
              have hz0 := Nat.le_refl w41.heap.size
              repeat (first | (refine wpX_skip rfl ?_; go_simp) | (refine wpX_free rfl rfl rfl (fun K hK => ?_); go_step; refine hK _ _ ?_; clear hK K) | (refine wpX_load rfl rfl rfl (by simp [Stay, OneD, NoD, *]) hs0 (by simp [*]) (fun K hK => ?_); go_step; refine hK _ _ ?_; clear hK K))
              refine wpX_eff rfl rfl (fun _ _ => ?_)
              go_step
              refine (HV1.out _ (H.rowLies 2 gC_len rfl rfl)).mono ?_
              rintro _ w42 ⟨rfl, hb⟩
              replace hs0 := hs0.belowS hz0 hb
              replace hz0 := Nat.le_trans hz0 hb.size
              replace H := H.below hb
              clear hb
              try clear C
              have C := H.cells
              try simp only [cellsOf, apartOf, and_true] at C
              try clear w41
              dsimp only
              go_step
              refine ⟨hs0, ?_⟩
              repeat (first | (refine wpX_skip rfl ?_; go_simp) | (refine wpX_free rfl rfl rfl (fun K hK => ?_); go_step; refine hK _ _ ?_; clear hK K) | (refine wpX_load rfl rfl rfl (by simp [Stay, OneD, NoD, *]) hs0 (by simp [*]) (fun K hK => ?_); go_step; refine hK _ _ ?_; clear hK K))
              refine wpX_eff rfl rfl (fun _ _ => ?_)
              go_step
              refine (HV2.out _ (H.rowLies 2 gC_len rfl rfl)).mono ?_
              rintro _ w43 ⟨rfl, hb⟩
              replace hs0 := hs0.belowS hz0 hb
              replace hz0 := Nat.le_trans hz0 hb.size
              replace H := H.below hb
              clear hb
              try clear C
              have C := H.cells
              try simp only [cellsOf, apartOf, and_true] at C
              try clear w42
              dsimp only
              go_step
              refine ⟨hs0, ?_⟩
              repeat (first | (refine wpX_skip rfl ?_; go_simp) | (refine wpX_free rfl rfl rfl (fun K hK => ?_); go_step; refine hK _ _ ?_; clear hK K) | (refine wpX_load rfl rfl rfl (by simp [Stay, OneD, NoD, *]) hs0 (by simp [*]) (fun K hK => ?_); go_step; refine hK _ _ ?_; clear hK K))
              refine wpX_eff rfl rfl (fun _ _ => ?_)
              go_step
              refine (awake26 _).mono ?_
              rintro _ w44 ⟨rfl, hb⟩
              replace hs0 := hs0.belowS hz0 hb
              replace hz0 := Nat.le_trans hz0 hb.size
              replace H := H.below hb
              clear hb
              try clear C
              have C := H.cells
              try simp only [cellsOf, apartOf, and_true] at C
              try clear w43
              dsimp only
              go_step
              refine ⟨hs0, ?_⟩
              repeat (first | (refine wpX_skip rfl ?_; go_simp) | (refine wpX_free rfl rfl rfl (fun K hK => ?_); go_step; refine hK _ _ ?_; clear hK K) | (refine wpX_load rfl rfl rfl (by simp [Stay, OneD, NoD, *]) hs0 (by simp [*]) (fun K hK => ?_); go_step; refine hK _ _ ?_; clear hK K))
              (refine wpX_nil ?_; go_step)
              go_wp2_with fail
              go_ret
              exact ⟨rfl, H.done⟩
    · rw [decide_eq_false h400] at hli
      have HLI := Lib.hid hli
      clear hli
      go_enter Try.func3, Try.ntmps3
      have H := HS.start NoD w
      go_wp2_with fail
      refine (gives_of (HLI.out _)).mono ?_
      rintro _ w1 ⟨rfl, hb⟩
      replace H := H.alloc.below hb
      clear hb
      try clear C
      try simp only [World.size_alloc, List.nil_append, List.cons_append, List.append_assoc] at H
      generalize w.heap.size = bP at H ⊢
      have C := H.cells
      try simp only [cellsOf, apartOf, and_true] at C
      dsimp only
      go_wp2_with fail
      refine (awake26 _).mono ?_
      rintro _ w2 ⟨rfl, hb⟩
      replace H := H.below hb
      clear hb
      try clear C
      try simp only [World.size_alloc, List.nil_append, List.cons_append, List.append_assoc] at H
      try clear w1
      have C := H.cells
      try simp only [cellsOf, apartOf, and_true] at C
      dsimp only
      go_wp2_with fail
      go_ret
      exact ⟨rfl, H.done⟩
  · have h100i : (100 : Int) < xs0.length := by omega
    clear hli
    go_enter Try.func3, Try.ntmps3
    have H := HS.start NoD w
    go_wp2_with fail
    refine (awake26 _).mono ?_
    rintro _ w1 ⟨rfl, hb⟩
    replace H := H.alloc.below hb
    clear hb
    try clear C
    try simp only [World.size_alloc, List.nil_append, List.cons_append, List.append_assoc] at H
    generalize w.heap.size = bP at H ⊢
    have C := H.cells
    try simp only [cellsOf, apartOf, and_true] at C
    dsimp only
    go_wp2_with fail
    go_ret
    exact ⟨rfl, H.done⟩
end Go.Proofs.Ytdcieajdgmopkaa
