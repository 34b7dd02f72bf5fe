/- The statement ProgramSources: its walk. -/
import Derived.Test.YthpoanlmaafanaaPgSo
import Derived.Test.YthpoanlmaafanaaPgPa
import Derived.Test.YthpoanlmaafanaaPgE
namespace Go.Proofs.Ythpoanlmaafanaa
set_option linter.unusedSimpArgs false
set_option linter.unusedVariables false
open Go.RowKit
set_option maxRecDepth 100000
attribute [local irreducible] wpX wpF Calls

set_option maxHeartbeats 16000000 in
theorem psources_walk (sr : Option Addr) (raw : List Ox) (cr : Nat) (hcr : raw.length ≤ cr ∧ (sr = none → cr = 0)) (hm : raw.length ≤ maxLen) (sa : Option Addr) (len cap : Nat) (hl : len ≤ maxLen) (i : Int) (w : World) (hr : Lies w w.heap.size sr 6 raw.length (fun j => oxC raw[j]!)) (hI : Ints w sa len) :
    Calls Try.prog 3 #[.slice sr raw.length cr, .slice sa len cap, .int .i64 i] w (Gives (.bool true) w) := by
  have HI := Lib.hid hI
  have HR := Lib.hid hr
  have HCR := Lib.hid hcr
  clear hI hr hcr
  have hli := light_any sa len cap hl
  clear hl
  have HAW := Lib.hid awake40_any
  by_cases h30 : raw.length ≤ 30
  case neg =>
    have h30i : (30 : Int) < raw.length := by omega
    have h30n : ¬ (raw.length : Int) ≤ 30 := by omega
    go_enter Try.func3, Try.ntmps3
    have H := HS.start NoD w
    go_wp2_with fail
    refine (HAW.out _).mono ?_
    rintro _ w1 ⟨rfl, hb⟩
    replace H := H.below hb
    clear hb
    try clear C
    try simp only [World.size_alloc, List.nil_append, List.cons_append, List.append_assoc] at H
    have C := H.cells
    try simp only [cellsOf, cellsM, apartOf, apartM, and_true] at C
    dsimp only
    go_wp2_with fail
    go_ret
    exact ⟨rfl, H.done⟩
  have h30i : ¬ (30 : Int) < raw.length := by omega
  have h30n : (raw.length : Int) ≤ 30 := by omega
  by_cases h400 : len ≤ 400
  · rw [decide_eq_true h400] at hli
    have HLI := Lib.hid hli
    clear hli
    go_enter Try.func3, Try.ntmps3
    have H := HS.start NoD w
    go_wp2_with fail
    refine (gives_ofP (HLI.out _)).mono ?_
    rintro _ w1 ⟨rfl, hb⟩
    replace H := H.below hb
    clear hb
    try clear C
    try simp only [World.size_alloc, List.nil_append, List.cons_append, List.append_assoc] at H
    have C := H.cells
    try simp only [cellsOf, cellsM, apartOf, apartM, and_true] at C
    dsimp only
    go_wp2_with fail
    refine (roll_at w.heap.size _ _ _ h400 _ H.size (H.ints HI.out)).mono ?_
    rintro _ w2 ⟨bd, rfl, hd, hb, hbb⟩
    replace H := H.getsDice hb hd hbb (Nat.le_refl _)
    clear hb hd hbb
    try clear C
    try simp only [World.size_alloc, List.nil_append, List.cons_append, List.append_assoc] at H
    try clear w1
    have C := H.cells
    try simp only [cellsOf, cellsM, apartOf, apartM, and_true] at C
    dsimp only
    go_wp2_with fail
    refine (mops_any 2 (by omega) 25 (by omega) w.heap.size bd _ (H.at 0 rfl) H.size).mono ?_
    rintro _ w2 ⟨v, ops, rfl, hl2, hlm, hln, K⟩
    replace H := HS.joinDice H 0 rfl K (fun A hA => by simp only [List.mem_cons, List.mem_nil_iff, or_false] at hA; rcases hA with rfl | rfl <;> rfl)
    clear K hln hl2
    simp only [List.nil_append, List.cons_append] at H
    obtain ⟨s1, c1, rfl⟩ := ownsRow_slice (H.at 1 rfl)
    skip
    try clear C
    try simp only [World.size_alloc, List.nil_append, List.cons_append, List.append_assoc] at H
    have C := H.cells
    try simp only [cellsOf, cellsM, apartOf, apartM, and_true] at C
    dsimp only
    have hsum : ops.length + raw.length ≤ 57 := by omega
    go_upto_region 4 with (at_builtin; refine wpList_appS (hgd := rfl) (s := .tmp 28) (x := .tmp 29) (t := 22) (ho := rfl) (hE := elemOp) (H := H) (k := 1) (hk := rfl) (hs := rfl) (sa := sr) (m := raw.length) (c := cr) (news := raw.flatMap oxC) (hx := rfl) (hsrc := Lies.srcS oxC_len (by decide) HCR.out.1 (H.liesUp HR.out) HCR.out.2) (hl := flat_len oxC_len raw) (h1 := oxC_one raw) (h63 := by unfold maxLen; omega) (hbytes := by omega) (N := ops.length + raw.length) (hN := rfl) (h := fun s5 d5 wa HZ hg1 => ?_); clear H C hg1)
    simp only [List.nil_append, List.cons_append, List.append_assoc, List.set_cons_succ, List.set_cons_zero] at HZ
    obtain ⟨l, hle⟩ : ∃ l, l = ops ++ raw := ⟨_, rfl⟩
    have hll : l.length = ops.length + raw.length := by rw [hle, List.length_append]
    have hlf : l.flatMap oxC = ops.flatMap oxC ++ raw.flatMap oxC := by rw [hle, List.flatMap_append]
    rw [← hll, ← hlf] at HZ
    rw [← hll]
    have H := HS.less (L' := [.row (.slice s5 l.length d5) 38 6 l.length (l.flatMap oxC)]) HZ (by repeat (first | exact .slnil | refine .cons_cons _ ?_ | refine .cons _ ?_))
    have hlx : l.length ≤ 1000000 := by omega
    have hld : l.length ≤ d5 := row_cap40 (H.at 0 rfl)
    clear HZ hle hll hlf hsum hlm
    have S1 := Lib.hid (fun i w h => source_any (l := l) hlx i (sa := s5) (c := d5) hld w h)
    have S2 := Lib.hid (fun i w h => rsource_any (l := l) hlx i (sa := s5) (c := d5) hld w h)
    have P1 := Lib.hid (fun w h => pages_any (l := l) hlx (sa := s5) d5 w h)
    have P2 := Lib.hid (fun w h => rpages_any (l := l) hlx (sa := s5) d5 w h)
    skip
    try clear C
    try simp only [World.size_alloc, List.nil_append, List.cons_append, List.append_assoc] at H
    have C := H.cells
    try simp only [cellsOf, cellsM, apartOf, apartM, and_true] at C
    go_wp2_with fail
    go_loopw [8, 9, 10, 11, 12, 33] (fun _ _ _ _ _ jj wr => ∃ (j : Nat), jj = .int .i64 j ∧ j ≤ l.length ∧ HS NoD w [.row (.slice s5 l.length d5) 38 6 l.length (l.flatMap oxC)] wr) (fun _ _ _ _ _ jj _ => l.length - (intOf jj).toNat)
    case atStart => exact ⟨0, rfl, Nat.zero_le _, H⟩
    case round =>
      clear H C
      obtain ⟨j, rfl, hj, H⟩ := hrel
      skip
      try clear C
      try simp only [World.size_alloc, List.nil_append, List.cons_append, List.append_assoc] at H
      have C := H.cells
      try simp only [cellsOf, cellsM, apartOf, apartM, and_true] at C
      skip
      by_cases hlt : j < l.length
      · have T1 := Lib.hid (fun w h => S1.out (j : Int) w h)
        have T2 := Lib.hid (fun w h => S2.out (j : Int) w h)
        generalize sourceP l (j : Int) = r at T1 T2
        obtain ⟨ra, rb⟩ := r
        dsimp only at T1 T2
        go_wp2_with fail
        refine (T1.out _ (H.rowLies 0 oxC_len rfl rfl)).mono ?_
        rintro _ w3 ⟨rfl, hb⟩
        replace H := H.below hb
        clear hb
        try clear C
        try simp only [World.size_alloc, List.nil_append, List.cons_append, List.append_assoc] at H
        try clear wr
        have C := H.cells
        try simp only [cellsOf, cellsM, apartOf, apartM, and_true] at C
        dsimp only
        go_wp2_with fail
        refine (T2.out _ (H.rowLies 0 oxC_len rfl rfl)).mono ?_
        rintro _ w4 ⟨rfl, hb⟩
        replace H := H.below hb
        clear hb
        try clear C
        try simp only [World.size_alloc, List.nil_append, List.cons_append, List.append_assoc] at H
        try clear w3
        have C := H.cells
        try simp only [cellsOf, cellsM, apartOf, apartM, and_true] at C
        dsimp only
        go_wp2_with fail
        go_roundw
        case rel => exact ⟨j + 1, by go_num, by omega, H⟩
        case measure => simp [intOf]; omega
      · obtain rfl : j = l.length := by omega
        clear hlt hj
        have T1 := Lib.hid (fun w h => S1.out i w h)
        have T2 := Lib.hid (fun w h => S2.out i w h)
        generalize sourceP l i = r at T1 T2
        obtain ⟨ra, rb⟩ := r
        dsimp only at T1 T2
        skip
        go_wp2_with fail
        refine (T1.out _ (H.rowLies 0 oxC_len rfl rfl)).mono ?_
        rintro _ w5 ⟨rfl, hb⟩
        replace H := H.below hb
        clear hb
        try clear C
        try simp only [World.size_alloc, List.nil_append, List.cons_append, List.append_assoc] at H
        try clear wr
        have C := H.cells
        try simp only [cellsOf, cellsM, apartOf, apartM, and_true] at C
        dsimp only
        go_wp2_with fail
        refine (T2.out _ (H.rowLies 0 oxC_len rfl rfl)).mono ?_
        rintro _ w6 ⟨rfl, hb⟩
        replace H := H.below hb
        clear hb
        try clear C
        try simp only [World.size_alloc, List.nil_append, List.cons_append, List.append_assoc] at H
        try clear w5
        have C := H.cells
        try simp only [cellsOf, cellsM, apartOf, apartM, and_true] at C
        dsimp only
        go_wp2_with fail
        refine (P1.out _ (H.rowLies 0 oxC_len rfl rfl)).mono ?_
        rintro _ w9 ⟨us, v9, rfl, hu, hul, K⟩
        replace H := H.join K (fun A hA => by simp only [List.mem_cons, List.mem_nil_iff, or_false] at hA; rcases hA with rfl; rfl)
        simp only [List.nil_append, List.cons_append] at H
        obtain ⟨s6, c6, rfl⟩ := ownsRow_slice (H.at 1 rfl)
        have HU := Lib.hid hu
        clear K hu
        skip
        try clear C
        try simp only [World.size_alloc, List.nil_append, List.cons_append, List.append_assoc] at H
        have C := H.cells
        try simp only [cellsOf, cellsM, apartOf, apartM, and_true] at C
        dsimp only
        go_wp2_with fail
        refine (P2.out _ (H.rowLies 0 oxC_len rfl rfl)).mono ?_
        rintro _ w10 ⟨vs, v10, rfl, hv, hvl, K⟩
        replace H := H.join K (fun A hA => by simp only [List.mem_cons, List.mem_nil_iff, or_false] at hA; rcases hA with rfl; rfl)
        simp only [List.nil_append, List.cons_append] at H
        obtain ⟨s7, c7, rfl⟩ := ownsRow_slice (H.at 2 rfl)
        obtain rfl := HU.out.eq hv (fun x => Iff.rfl)
        clear K hv HU
        skip
        try clear C
        try simp only [World.size_alloc, List.nil_append, List.cons_append, List.append_assoc] at H
        have C := H.cells
        try simp only [cellsOf, cellsM, apartOf, apartM, and_true] at C
        dsimp only
        go_wp2_with fail
        refine (sameUses_any hul c6 c7 _ (H.rowLies 1 encU_len rfl rfl) (H.rowLies 2 encU_len rfl rfl)).mono ?_
        rintro _ w7 ⟨rfl, hb⟩
        replace H := H.below hb
        clear hb
        try clear C
        try simp only [World.size_alloc, List.nil_append, List.cons_append, List.append_assoc] at H
        try clear w10
        have C := H.cells
        try simp only [cellsOf, cellsM, apartOf, apartM, and_true] at C
        dsimp only
        go_wp2_with fail
        refine (HAW.out _).mono ?_
        rintro _ w8 ⟨rfl, hb⟩
        replace H := H.below hb
        clear hb
        try clear C
        try simp only [World.size_alloc, List.nil_append, List.cons_append, List.append_assoc] at H
        try clear w7
        have C := H.cells
        try simp only [cellsOf, cellsM, apartOf, apartM, and_true] at C
        dsimp only
        go_wp2_with fail
        go_ret
        exact ⟨rfl, H.done⟩
  · rw [decide_eq_false h400] at hli
    have HLI := Lib.hid hli
    clear hli
    go_enter Try.func3, Try.ntmps3
    have H := HS.start NoD w
    go_wp2_with fail
    refine (gives_ofP (HLI.out _)).mono ?_
    rintro _ w1 ⟨rfl, hb⟩
    replace H := H.below hb
    clear hb
    try clear C
    try simp only [World.size_alloc, List.nil_append, List.cons_append, List.append_assoc] at H
    have C := H.cells
    try simp only [cellsOf, cellsM, apartOf, apartM, and_true] at C
    dsimp only
    go_wp2_with fail
    refine (HAW.out _).mono ?_
    rintro _ w2 ⟨rfl, hb⟩
    replace H := H.below hb
    clear hb
    try clear C
    try simp only [World.size_alloc, List.nil_append, List.cons_append, List.append_assoc] at H
    try clear w1
    have C := H.cells
    try simp only [cellsOf, cellsM, apartOf, apartM, and_true] at C
    dsimp only
    go_wp2_with fail
    go_ret
    exact ⟨rfl, H.done⟩
end Go.Proofs.Ythpoanlmaafanaa
