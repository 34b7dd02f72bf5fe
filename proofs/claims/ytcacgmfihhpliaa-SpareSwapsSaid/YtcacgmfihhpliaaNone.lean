/- The statement SpareNone: its walk. -/
import Derived.Test.YtcacgmfihhpliaaSpare11
import Derived.Test.YtcacgmfihhpliaaDice
namespace Go.Proofs.Ytcacgmfihhpliaa
set_option linter.unusedSimpArgs false
set_option linter.unusedVariables false
open Go.RowKit
set_option maxRecDepth 100000
attribute [local go_sem] lt_more ne_more ne_more'
attribute [local irreducible] wpX wpF Calls

theorem gives_of {n : Nat} {args : Array Value} {v : Value} {w : World} (h : Calls Try.prog n args w fun e w' => e = .returned v ∧ w = w') : Calls Try.prog n args w (Gives v w) :=
  h.mono fun e w' ⟨h1, h2⟩ => ⟨h1, h2 ▸ Below.refl _ _⟩
set_option maxHeartbeats 4000000 in
theorem none_walk (sa : Option Addr) (len cap : Nat) (hl : len ≤ maxLen) (index : Int) (w : World) (hI : Ints w sa len) :
    Calls Try.prog 7 #[.slice sa len cap, .int .i64 index] w (Gives (.bool true) w) := by
  have HI := Lib.hid hI
  clear hI
  have hli := light_any sa len cap hl
  clear hl
  by_cases h400 : len ≤ 400
  · rw [decide_eq_true h400] at hli
    have HLI := Lib.hid hli
    clear hli
    go_enter Try.func7, Try.ntmps7
    have H := HS.start NoD w
    go_wp2_with fail
    refine (gives_of (HLI.out _)).mono ?_
    rintro _ w1 ⟨rfl, hb⟩
    replace H := H.below hb
    clear hb
    try clear C
    try simp only [World.size_alloc, List.nil_append, List.cons_append, List.append_assoc] at H
    have C := H.cells
    try simp only [cellsOf, apartOf, and_true] at C
    dsimp only
    go_wp2_with fail
    refine (roll_at w.heap.size _ _ _ h400 _ H.size (H.ints HI.out)).mono ?_
    rintro _ w2 ⟨bd, rfl, hd, hb, hbb⟩
    replace H := H.getsDice hb hd hbb (Nat.le_refl _)
    clear hb hd hbb
    try clear C
    try simp only [World.size_alloc, List.nil_append, List.cons_append, List.append_assoc] at H
    try clear w1
    have C := H.cells
    try simp only [cellsOf, apartOf, and_true] at C
    dsimp only
    go_wp2_with fail
    refine (mshape_any w.heap.size bd _ (H.at 0 rfl) H.size).mono ?_
    rintro _ w3 ⟨s0, s1, s2, s4, rfl, hms, hd, hg⟩
    replace H := (H).diceAt 0 rfl hg hd
    clear hg hd
    try clear C
    try simp only [World.size_alloc, List.nil_append, List.cons_append, List.append_assoc] at H
    try clear w2
    have C := H.cells
    try simp only [cellsOf, apartOf, and_true] at C
    dsimp only
    have sv := hms.sv
    have hz := rwz_in sv
    have v0 : ∀ c, SpV s0 s1 s2 1 s4 2 0 [] c := SpV.nil sv (by omega)
    have HNEW := Lib.hid (fun w => snew_yes (n := 0) sv (by omega) w)
    go_wp2_with fail
    refine (HNEW.out _).mono ?_
    rintro _ w4 ⟨rfl, hb⟩
    replace H := H.alloc.below hb
    clear hb
    try clear C
    try simp only [World.size_alloc, List.nil_append, List.cons_append, List.append_assoc] at H
    generalize w3.heap.size = bS at H ⊢
    try clear w3
    have C := H.cells
    try simp only [cellsOf, apartOf, and_true] at C
    dsimp only
    go_wp2_with fail
    refine (place_any sv w.heap.size bd _ (H.alloc.at 0 rfl)).mono ?_
    rintro _ w5 ⟨p0, p1, p2, p3, p4, p5, rfl, hpv, hd, hg⟩
    replace H := (H.alloc).diceAt 0 rfl hg hd
    clear hg hd
    try clear C
    try simp only [World.size_alloc, List.nil_append, List.cons_append, List.append_assoc] at H
    generalize w4.heap.size = bX at H ⊢
    try clear w4
    have C := H.cells
    try simp only [cellsOf, apartOf, and_true] at C
    dsimp only
    have hp4 := hpv.h4
    have HSW := Lib.hid (fun w => swap_none (v0 0) hpv (by unfold rwz; omega) rfl rfl (sa := none) w Lies.nil0)
    have HLF := Lib.hid (fun w => by have := sleft_of (n := 0) (xs := []) sv (by omega) hpv (sa := none) 0 (by decide) (by decide) rfl w Lies.nil0; exact this : ∀ w, Calls Try.prog 28 #[vSp s0 s1 s2 1 s4 2 0 (.slice none 0 0), v6 p0 p1 p2 p3 p4 p5] w (Gives (.int .i64 0) w))
    clear hp4
    go_wp2_with fail
    refine (HSW.out _).mono ?_
    rintro _ w6 ⟨rfl, hb⟩
    replace H := H.alloc.below hb
    clear hb
    try clear C
    try simp only [World.size_alloc, List.nil_append, List.cons_append, List.append_assoc] at H
    generalize w5.heap.size = bP at H ⊢
    try clear w5
    have C := H.cells
    try simp only [cellsOf, apartOf, and_true] at C
    dsimp only
    go_wp2_with fail
    have hsz : ∀ w, Calls Try.prog 30 #[v6 s0 s1 s2 1 s4 2] w (Gives (.int .i64 (2 ^ (s0 + s1 + s2 + 1 + s4 + 2).toNat)) w) := fun w => rsize_yes sv w
    have hNN := pw_12 (a := s0 + s1 + s2 + 1 + s4 + 2) sv.sum
    have hN1 := pw_pos (s0 + s1 + s2 + 1 + s4 + 2)
    obtain ⟨N, hN⟩ : ∃ N : Int, N = 2 ^ (s0 + s1 + s2 + 1 + s4 + 2).toNat := ⟨_, rfl⟩
    rw [← hN] at hsz hNN hN1
    have hm1 := modF_in (n := index) (m := N) (by omega) (by omega)
    have hm5 := modF_in (n := index) (m := 5) (by decide) (by decide)
    have M1 := Lib.hid (fun w => gives_of (mod_any index N w))
    have M5 := Lib.hid (fun w => gives_of (mod_any index 5 w))
    generalize modF index N = i at *
    generalize modF index 5 = j at *
    have hat := at_pv sv hm1.1 (by rw [← hN]; exact hm1.2)
    have HT := Lib.hid (fun w => by have := turn_of (i := i) (v0 0) hm1.1 (by rw [← hN]; exact hm1.2) rfl hat.1 (sa := none) w Lies.nil0; rw [show turnR [] (atF s0 s1 s2 1 s4 2 i) = (atF s0 s1 s2 1 s4 2 i).e from rfl, hat.2] at this; exact this : ∀ w, Calls Try.prog 32 #[vSp s0 s1 s2 1 s4 2 0 (.slice none 0 0), .int .i64 i] w (Gives (.tuple #[.int .i64 i, .int .i64 0]) w))
    have HO := Lib.hid (fun w => turn_out (i := N + j) (v0 0) (by rw [← hN]; omega) (sa := none) w Lies.nil0)
    have HR := Lib.hid (fun w => by have := sreserved_of (i := i) (v0 0) hm1.1 (by rw [← hN]; exact hm1.2) (sa := none) w Lies.nil0; rw [decide_eq_false (by have := hat.1.h4; unfold rwz; omega)] at this; exact this : ∀ w, Calls Try.prog 34 #[vSp s0 s1 s2 1 s4 2 0 (.slice none 0 0), .int .i64 i] w (Gives (.bool false) w))
    have HSZ := Lib.hid hsz
    have HAW := Lib.hid awake36
    clear hsz hN hat v0 hms sv hpv hz
    refine (HSZ.out _).mono ?_
    rintro _ w7 ⟨rfl, hb⟩
    replace H := H.alloc.below hb
    clear hb
    try clear C
    try simp only [World.size_alloc, List.nil_append, List.cons_append, List.append_assoc] at H
    generalize w6.heap.size = bY at H ⊢
    try clear w6
    have C := H.cells
    try simp only [cellsOf, apartOf, and_true] at C
    dsimp only
    go_wp2_with fail
    refine (M1.out _).mono ?_
    rintro _ w8 ⟨rfl, hb⟩
    replace H := H.below hb
    clear hb
    try clear C
    try simp only [World.size_alloc, List.nil_append, List.cons_append, List.append_assoc] at H
    try clear w7
    have C := H.cells
    try simp only [cellsOf, apartOf, and_true] at C
    dsimp only
    go_wp2_with fail
    refine (HT.out _).mono ?_
    rintro _ w9 ⟨rfl, hb⟩
    replace H := H.below hb
    clear hb
    try clear C
    try simp only [World.size_alloc, List.nil_append, List.cons_append, List.append_assoc] at H
    try clear w8
    have C := H.cells
    try simp only [cellsOf, apartOf, and_true] at C
    dsimp only
    go_upto_region 10 with fail
    refine wp_region_xH (by kernel_rfl) (by kernel_rfl) (by kernel_rfl) (by kernel_rfl) (fun _ => False) (H) ?_
    clear H; intro w10 H hz0 hs0
    try clear C
    try simp only [World.size_alloc, List.nil_append, List.cons_append, List.append_assoc] at H hz0
    clear hz0
    try clear w9
    have C := H.cells
    try simp only [cellsOf, apartOf, and_true] at C
    have Z := H.zs
    try simp only [ltsOf, and_true] at Z
    have hz0 := Nat.le_refl w10.heap.size
    repeat (first | (refine wpX_skip rfl ?_; go_simp) | (refine wpX_free rfl rfl rfl (fun K hK => ?_); go_step; refine hK _ _ ?_; clear hK K) | (refine wpX_load rfl rfl rfl (by simp [Stay, OneD, NoD, *]) hs0 (by simp [*]) (fun K hK => ?_); go_step; refine hK _ _ ?_; clear hK K))
    refine wpX_eff rfl rfl (fun _ _ => ?_)
    go_step
    refine (HSZ.out _).mono ?_
    rintro _ w11 ⟨rfl, hb⟩
    replace hs0 := hs0.belowS hz0 hb
    replace hz0 := Nat.le_trans hz0 hb.size
    replace H := H.below hb
    clear hb
    try clear C
    have C := H.cells
    try simp only [cellsOf, apartOf, and_true] at C
    try clear w10
    dsimp only
    go_step
    refine ⟨hs0, ?_⟩
    repeat (first | (refine wpX_skip rfl ?_; go_simp) | (refine wpX_free rfl rfl rfl (fun K hK => ?_); go_step; refine hK _ _ ?_; clear hK K) | (refine wpX_load rfl rfl rfl (by simp [Stay, OneD, NoD, *]) hs0 (by simp [*]) (fun K hK => ?_); go_step; refine hK _ _ ?_; clear hK K))
    refine wpX_eff rfl rfl (fun _ _ => ?_)
    go_step
    refine (M5.out _).mono ?_
    rintro _ w12 ⟨rfl, hb⟩
    replace hs0 := hs0.belowS hz0 hb
    replace hz0 := Nat.le_trans hz0 hb.size
    replace H := H.below hb
    clear hb
    try clear C
    have C := H.cells
    try simp only [cellsOf, apartOf, and_true] at C
    try clear w11
    dsimp only
    go_step
    refine ⟨hs0, ?_⟩
    repeat (first | (refine wpX_skip rfl ?_; go_simp) | (refine wpX_free rfl rfl rfl (fun K hK => ?_); go_step; refine hK _ _ ?_; clear hK K) | (refine wpX_load rfl rfl rfl (by simp [Stay, OneD, NoD, *]) hs0 (by simp [*]) (fun K hK => ?_); go_step; refine hK _ _ ?_; clear hK K))
    refine wpX_eff rfl rfl (fun _ _ => ?_)
    go_step
    refine (HO.out _).mono ?_
    rintro _ w13 ⟨rfl, hb⟩
    replace hs0 := hs0.belowS hz0 hb
    replace hz0 := Nat.le_trans hz0 hb.size
    replace H := H.below hb
    clear hb
    try clear C
    have C := H.cells
    try simp only [cellsOf, apartOf, and_true] at C
    try clear w12
    dsimp only
    go_step
    refine ⟨hs0, ?_⟩
    repeat (first | (refine wpX_skip rfl ?_; go_simp) | (refine wpX_free rfl rfl rfl (fun K hK => ?_); go_step; refine hK _ _ ?_; clear hK K) | (refine wpX_load rfl rfl rfl (by simp [Stay, OneD, NoD, *]) hs0 (by simp [*]) (fun K hK => ?_); go_step; refine hK _ _ ?_; clear hK K))
    (refine wpX_nil ?_; go_step)
    go_wp2_with fail
    refine (HR.out _).mono ?_
    rintro _ w14 ⟨rfl, hb⟩
    replace H := H.below hb
    clear hb
    try clear C
    try simp only [World.size_alloc, List.nil_append, List.cons_append, List.append_assoc] at H
    try clear w13
    have C := H.cells
    try simp only [cellsOf, apartOf, and_true] at C
    dsimp only
    go_wp2_with fail
    refine (HLF.out _).mono ?_
    rintro _ w15 ⟨rfl, hb⟩
    replace H := H.below hb
    clear hb
    try clear C
    try simp only [World.size_alloc, List.nil_append, List.cons_append, List.append_assoc] at H
    try clear w14
    have C := H.cells
    try simp only [cellsOf, apartOf, and_true] at C
    dsimp only
    go_wp2_with fail
    refine (HAW.out _).mono ?_
    rintro _ w16 ⟨rfl, hb⟩
    replace H := H.below hb
    clear hb
    try clear C
    try simp only [World.size_alloc, List.nil_append, List.cons_append, List.append_assoc] at H
    try clear w15
    have C := H.cells
    try simp only [cellsOf, apartOf, and_true] at C
    dsimp only
    go_wp2_with fail
    go_ret
    exact ⟨rfl, H.done⟩
  · rw [decide_eq_false h400] at hli
    have HLI := Lib.hid hli
    have HAW := Lib.hid awake36
    clear hli
    go_enter Try.func7, Try.ntmps7
    have H := HS.start NoD w
    go_wp2_with fail
    refine (gives_of (HLI.out _)).mono ?_
    rintro _ w1 ⟨rfl, hb⟩
    replace H := H.below hb
    clear hb
    try clear C
    try simp only [World.size_alloc, List.nil_append, List.cons_append, List.append_assoc] at H
    have C := H.cells
    try simp only [cellsOf, apartOf, and_true] at C
    dsimp only
    go_wp2_with fail
    refine (HAW.out _).mono ?_
    rintro _ w2 ⟨rfl, hb⟩
    replace H := H.below hb
    clear hb
    try clear C
    try simp only [World.size_alloc, List.nil_append, List.cons_append, List.append_assoc] at H
    try clear w1
    have C := H.cells
    try simp only [cellsOf, apartOf, and_true] at C
    dsimp only
    go_wp2_with fail
    go_ret
    exact ⟨rfl, H.done⟩
end Go.Proofs.Ytcacgmfihhpliaa
