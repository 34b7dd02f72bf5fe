/- The statement ProgramTwice: its walk. -/
import Derived.Test.YthpoanlmaafanaaPgU
namespace Go.Proofs.Ythpoanlmaafanaa
set_option linter.unusedSimpArgs false
set_option linter.unusedVariables false
open Go.RowKit
set_option maxRecDepth 100000
attribute [local irreducible] wpX wpF Calls

def allP (p : Int) : Prop := True
/-- Whether (1, 2) is there: a bit. -/
theorem has_bit {f : PgF} {us : List (Int × Int)} (h : Uq f us) : (us.any (fun u => decide (u = (1, 2))) = true ↔ f (1, 2) ≠ none) := by
  rw [← h.mem, List.any_eq_true]
  constructor
  · rintro ⟨y, hy, e⟩
    rw [← of_decide_eq_true e]; exact hy
  · intro hx
    exact ⟨_, hx, by simp⟩
theorem run2_map {l m : List Ox} (h : Run2 allP l m) (hb : runF 0 l noF (1, 2) ≠ none) : Run2 allP l (m ++ [⟨3, 1, 2, 0, 0, none, 0, 0⟩]) :=
  h.add _ fun y _ => by
    have h2 : runF 0 m noF (1, 2) ≠ none := fun e => hb (((show RelF allP l m _ _ from h) (1, 2) trivial).none_iff.2 e)
    rw [doF_map_again rfl h2]
theorem run2_drop {l m : List Ox} (h : Run2 allP l m) (hb : runF 0 l noF (1, 2) = none) : Run2 allP l (m ++ [⟨5, 1, 2, 0, 0, none, 0, 0⟩]) :=
  h.add _ fun y _ => by
    have h2 : runF 0 m noF (1, 2) = none := ((show RelF allP l m _ _ from h) (1, 2) trivial).none_iff.1 hb
    rw [doF_drop_none rfl h2]
set_option maxHeartbeats 16000000 in
theorem ptwice_walk (sa : Option Addr) (len cap : Nat) (hl : len ≤ maxLen) (k : Int) (w : World) (hI : Ints w sa len) :
    Calls Try.prog 7 #[.slice sa len cap, .int .i64 k] w (Gives (.bool true) w) := by
  have HI := Lib.hid hI
  clear hI
  have hli := light_any sa len cap hl
  clear hl
  have HAW := Lib.hid awake40_any
  by_cases h400 : len ≤ 400
  · rw [decide_eq_true h400] at hli
    have HLI := Lib.hid hli
    clear hli
    go_enter Try.func7, Try.ntmps7
    have H := HS.start NoD w
    go_wp2_with fail
    refine (gives_ofP (HLI.out _)).mono ?_
    rintro _ w1 ⟨rfl, hb⟩
    replace H := H.below hb
    clear hb
    try clear C
    try simp only [World.size_alloc, List.nil_append, List.cons_append, List.append_assoc] at H
    have C := H.cells
    try simp only [cellsOf, cellsM, apartOf, apartM, and_true] at C
    dsimp only
    go_wp2_with fail
    refine (roll_at w.heap.size _ _ _ h400 _ H.size (H.ints HI.out)).mono ?_
    rintro _ w2 ⟨bd, rfl, hd, hb, hbb⟩
    replace H := H.getsDice hb hd hbb (Nat.le_refl _)
    clear hb hd hbb
    try clear C
    try simp only [World.size_alloc, List.nil_append, List.cons_append, List.append_assoc] at H
    try clear w1
    have C := H.cells
    try simp only [cellsOf, cellsM, apartOf, apartM, and_true] at C
    dsimp only
    go_wp2_with fail
    refine (mops_any 1 (by omega) 16 (by omega) w.heap.size bd _ (H.at 0 rfl) H.size).mono ?_
    rintro _ w2 ⟨v, l, rfl, hl2, hlm, hln, K⟩
    replace H := HS.joinDice H 0 rfl K (fun A hA => by simp only [List.mem_cons, List.mem_nil_iff, or_false] at hA; rcases hA with rfl | rfl <;> rfl)
    clear K hln
    simp only [List.nil_append, List.cons_append] at H
    have hcc := ownsRow_cap (H.at 1 rfl)
    obtain ⟨s1, c1, rfl⟩ := ownsRow_slice (H.at 1 rfl)
    obtain ⟨_, _, e3, hcl⟩ := hcc
    injection e3 with e3 e4 e5
    subst e3 e5
    have HCL := Lib.hid hcl
    have hcl1 : l.length ≤ c1 := hcl.1
    clear hcl e4
    skip
    have H9 := HS.nilRow H 38 6
    clear H
    have H := H9
    clear H9
    simp only [List.nil_append, List.cons_append] at H
    try clear C
    try simp only [World.size_alloc, List.nil_append, List.cons_append, List.append_assoc] at H
    have C := H.cells
    try simp only [cellsOf, cellsM, apartOf, apartM, and_true] at C
    dsimp only
    have HMD := Lib.hid (fun w => gives_ofP (mod_any k l.length w))
    generalize modF k l.length = at0 at HMD
    go_wp2_with fail
    go_loopw [6, 27] (fun u6 cc wr => ∃ (j : Nat) (m : List Ox), cc = .int .i64 j ∧ j ≤ l.length ∧ m.length ≤ 2 * j ∧ Hid (Run2 allP (l.take j) m) ∧ HS NoD w [.dice w.heap.size bd, .row (.slice s1 l.length c1) 38 6 l.length (l.flatMap oxC), dataI l, .row u6 38 6 m.length (m.flatMap oxC)] wr) (fun _ cc _ => l.length - (intOf cc).toNat)
    case atStart => exact ⟨0, [], rfl, Nat.zero_le _, Nat.le_refl _, Run2.no _, H⟩
    case round =>
      clear H C
      obtain ⟨j, m, rfl, hj, hmj, HRU, H⟩ := hrel
      skip
      try clear C
      try simp only [World.size_alloc, List.nil_append, List.cons_append, List.append_assoc] at H
      have C := H.cells
      try simp only [cellsOf, cellsM, apartOf, apartM, and_true] at C
      skip
      by_cases hlt : j < l.length
      · obtain ⟨b, o, rfl, hb, hc⟩ := (H.rowLies 1 oxC_len rfl rfl).at hlt
        have HTK := Lib.hid (take_snocX hlt)
        obtain ⟨x, hx⟩ : ∃ x, x = l[j]! := ⟨_, rfl⟩
        rw [← hx] at hc HTK
        clear hx
        have HB := Lib.hid (HRU.out.both x (fun _ _ => trivial))
        have HSV := Lib.hid (fun (hk : x.k = 6) => HRU.out.skip x (fun y _ => by rw [doF_save hk]))
        rw [← HTK.out] at HB HSV
        obtain ⟨xk, xp, xg, xw, xo, xsa, xn, xc⟩ := x
        dsimp only at HB HSV
        have c0 : wr.cell? ⟨b, o + j * 6, none⟩ = some (.int .i64 xk) := hc 0 _ rfl
        have c1 : wr.cell? ⟨b, o + j * 6 + 1, none⟩ = some (.int .i64 xp) := hc 1 _ rfl
        have c2 : wr.cell? ⟨b, o + j * 6 + 2, none⟩ = some (.int .i64 xg) := hc 2 _ rfl
        have c3 : wr.cell? ⟨b, o + j * 6 + 3, none⟩ = some (.int .i64 xw) := hc 3 _ rfl
        have c4 : wr.cell? ⟨b, o + j * 6 + 4, none⟩ = some (.int .i64 xo) := hc 4 _ rfl
        have c5 : wr.cell? ⟨b, o + j * 6 + 5, none⟩ = some (.slice xsa xn xc) := hc 5 _ rfl
        have n1 : (b = wr.heap.size) = False := eq_false (by omega)
        have n2 : (wr.heap.size = b) = False := eq_false (by omega)
        clear hc
        go_upto_region 8 with fail
        clear c0 c1 c2 c3 c4 c5 n1 n2 hb
        generalize hwb : wr.alloc _ = w3
        replace H := HS.eqW hwb H.alloc
        try simp only [World.size_alloc, List.nil_append, List.cons_append, List.append_assoc] at H
        clear hwb
        generalize wr.heap.size = bO at H ⊢
        try clear C
        try clear wr
        have C := H.cells
        try simp only [cellsOf, cellsM, apartOf, apartM, and_true] at C
        by_cases h6 : xk = 6
        · subst h6
          have HS6 := Lib.hid (HSV.out rfl)
          clear HB HSV
          go_wp2_with fail
          go_roundw
          case rel => exact ⟨j + 1, m, by go_num, by omega, by omega, HS6, HS.less H (by repeat (first | exact .slnil | refine .cons_cons _ ?_ | refine .cons _ ?_))⟩
          case measure => simp [intOf]; omega
        · clear HSV
          have h6b : (xk == 6) = false := beq_eq_false_iff_ne.2 h6
          have hjw : IntKind.i64.wrap ((j : Int) + 1) = ((j + 1 : Nat) : Int) := by rw [IntWalk.i64_in _ (by omega)]; omega
          have hmm : (m ++ [(⟨xk, xp, xg, xw, xo, xsa, xn, xc⟩ : Ox)]).length = m.length + 1 := by simp
          go_upto_region 10 with (at_builtin; refine wpList_append_H rfl (.tmp 35) (.tmp 37) 22 rfl elemOp H.alloc 3 rfl rfl 5 rfl rfl rfl rfl (by decide) (by unfold maxLen; omega) (by omega) (fun g1 d1 wz HZ => ?_); clear H C)
          simp only [List.nil_append, List.cons_append, List.append_assoc, List.set_cons_succ, List.set_cons_zero] at HZ
          have H := HS.less (L' := [_, _, _, _]) HZ (by repeat (first | exact .slnil | refine .cons_cons _ ?_ | refine .cons _ ?_))
          clear HZ
          have hfm : m.flatMap oxC ++ [.int .i64 xk, .int .i64 xp, .int .i64 xg, .int .i64 xw, .int .i64 xo, .slice xsa xn xc] = (m ++ [(⟨xk, xp, xg, xw, xo, xsa, xn, xc⟩ : Ox)]).flatMap oxC := by simp [oxC]
          generalize m ++ [(⟨xk, xp, xg, xw, xo, xsa, xn, xc⟩ : Ox)] = m2 at HB hmm hfm
          have H9 : HS NoD w [.dice w.heap.size bd, .row (.slice (some ⟨b, o, none⟩) l.length c1) 38 6 l.length (l.flatMap oxC), dataI l, .row (.slice (some ⟨g1, 0, none⟩) (m.length + 1) d1) 38 6 (m.length + 1) (m2.flatMap oxC)] wz := by rw [← hfm]; exact H
          clear H hfm
          have H := H9
          clear H9
          have HMM := Lib.hid hmm
          clear hmm
          skip
          try clear C
          try simp only [World.size_alloc, List.nil_append, List.cons_append, List.append_assoc] at H
          have C := H.cells
          try simp only [cellsOf, cellsM, apartOf, apartM, and_true] at C
          have hj1c : j + 1 ≤ c1 := by omega
          have hj1i : ((j + 1 : Nat) : Int) ≤ c1 := by omega
          have hj1l : ((j + 1 : Nat) : Int) ≤ l.length := by omega
          have HPG := Lib.hid (show ∀ wx, Lies wx wx.heap.size (some ⟨b, o, none⟩) 6 l.length (fun i => oxC l[i]!) → Calls Try.prog 15 #[.slice (some ⟨b, o, none⟩) (j + 1) c1] wx (GivesPg (runF 0 (l.take (j + 1)) noF) wx) from fun wx hx => by
            have e : (l.take (j + 1)).length = j + 1 := by rw [List.length_take]; omega
            have h9 := Lies.take (i := j + 1) hx hlt
            have := pages_any (l := l.take (j + 1)) (by omega) (sa := some ⟨b, o, none⟩) c1 wx h9
            rw [e] at this
            exact this)
          go_wp2_with fail
          refine (HPG.out _ (H.rowLies 1 oxC_len rfl rfl)).mono ?_
          rintro _ w9 ⟨us, v9, rfl, hu, hul, K⟩
          replace H := H.join K (fun A hA => by simp only [List.mem_cons, List.mem_nil_iff, or_false] at hA; rcases hA with rfl; rfl)
          simp only [List.nil_append, List.cons_append] at H
          obtain ⟨s5, c5, rfl⟩ := ownsRow_slice (H.at 4 rfl)
          have HU := Lib.hid (has_bit hu)
          clear K hu HPG
          skip
          try clear C
          try simp only [World.size_alloc, List.nil_append, List.cons_append, List.append_assoc] at H
          have C := H.cells
          try simp only [cellsOf, cellsM, apartOf, apartM, and_true] at C
          dsimp only
          go_wp2_with fail
          go_loopw [9, 11, 45] (fun hv _ jj wr2 => ∃ (i : Nat), jj = .int .i64 i ∧ i ≤ us.length ∧ hv = .bool ((us.take i).any fun u => decide (u = (1, 2))) ∧ HS NoD w [.dice w.heap.size bd, .row (.slice (some ⟨b, o, none⟩) l.length c1) 38 6 l.length (l.flatMap oxC), dataI l, .row (.slice (some ⟨g1, 0, none⟩) (m.length + 1) d1) 38 6 (m.length + 1) (m2.flatMap oxC), .row (.slice s5 us.length c5) 40 2 us.length (us.flatMap encU)] wr2) (fun _ _ jj _ => us.length - (intOf jj).toNat)
          case atStart => exact ⟨0, rfl, Nat.zero_le _, by simp, H⟩
          case round =>
            clear H C
            obtain ⟨i, rfl, hi, rfl, H⟩ := hrel
            skip
            try clear C
            try simp only [World.size_alloc, List.nil_append, List.cons_append, List.append_assoc] at H
            have C := H.cells
            try simp only [cellsOf, cellsM, apartOf, apartM, and_true] at C
            by_cases hil : i < us.length
            · obtain ⟨b2, o2, hso, hb2, hc⟩ := (H.rowLies 4 encU_len rfl rfl).at hil
              subst hso
              have HAN := Lib.hid (takeU hil (fun u => decide (u = (1, 2))))
              obtain ⟨uo, huo⟩ : ∃ u, u = us[i]! := ⟨_, rfl⟩
              rw [← huo] at hc HAN
              clear huo
              obtain ⟨u1, u2⟩ := uo
              have c0 : wr.cell? ⟨b2, o2 + i * 2, none⟩ = some (.int .i64 u1) := hc 0 _ rfl
              have c1' : wr.cell? ⟨b2, o2 + i * 2 + 1, none⟩ = some (.int .i64 u2) := hc 1 _ rfl
              clear hc
              generalize (us.take i).any (fun u => decide (u = (1, 2))) = ha at HAN ⊢
              have n1 : (b2 = wr.heap.size) = False := eq_false (by omega)
              have n2 : (wr.heap.size = b2) = False := eq_false (by omega)
              go_upto_region 14 with fail
              clear c0 c1' n1 n2
              generalize hwb : wr.alloc _ = w4
              replace H := HS.eqW hwb H.alloc
              try simp only [World.size_alloc, List.nil_append, List.cons_append, List.append_assoc] at H
              clear hwb
              generalize wr.heap.size = bU at H ⊢
              try clear C
              try clear wr
              have C := H.cells
              try simp only [cellsOf, cellsM, apartOf, apartM, and_true] at C
              skip
              cases ha with
              | true =>
                go_wp2_with fail
                go_roundw
                case rel => exact ⟨i + 1, by go_num, by omega, by rw [HAN.out]; simp, HS.less H (by repeat (first | exact .slnil | refine .cons_cons _ ?_ | refine .cons _ ?_))⟩
                case measure => simp [intOf]; omega
              | false =>
                skip
                by_cases h1 : u1 = 1
                · subst h1
                  by_cases h2 : u2 = 2
                  · subst h2
                    go_wp2_with fail
                    go_roundw
                    case rel => exact ⟨i + 1, by go_num, by omega, by rw [HAN.out]; simp, HS.less H (by repeat (first | exact .slnil | refine .cons_cons _ ?_ | refine .cons _ ?_))⟩
                    case measure => simp [intOf]; omega
                  · have h2b : (u2 == 2) = false := beq_eq_false_iff_ne.2 h2
                    skip
                    go_wp2_with fail
                    go_roundw
                    case rel => exact ⟨i + 1, by go_num, by omega, by rw [HAN.out]; simp [h2], HS.less H (by repeat (first | exact .slnil | refine .cons_cons _ ?_ | refine .cons _ ?_))⟩
                    case measure => simp [intOf]; omega
                · have h1b : (u1 == 1) = false := beq_eq_false_iff_ne.2 h1
                  skip
                  go_wp2_with fail
                  go_roundw
                  case rel => exact ⟨i + 1, by go_num, by omega, by rw [HAN.out]; simp [h1], HS.less H (by repeat (first | exact .slnil | refine .cons_cons _ ?_ | refine .cons _ ?_))⟩
                  case measure => simp [intOf]; omega
            · obtain rfl : i = us.length := by omega
              rw [List.take_length]
              have HUU := Lib.hid HU.out
              generalize (us.any fun u => decide (u = (1, 2))) = has at HUU ⊢
              clear hil hi HU
              go_wp2_with fail
              refine (HMD.out _).mono ?_
              rintro _ w5 ⟨rfl, hb⟩
              replace H := H.below hb
              clear hb
              try clear C
              try simp only [World.size_alloc, List.nil_append, List.cons_append, List.append_assoc] at H
              try clear w4
              have C := H.cells
              try simp only [cellsOf, cellsM, apartOf, apartM, and_true] at C
              dsimp only
              skip
              by_cases heq : (j : Int) = at0
              · have heqb : ((j : Int) == at0) = true := beq_iff_eq.2 heq
                have HEQ := Lib.hid heq
                clear heq
                cases has with
                | true =>
                  have HR2 := Lib.hid (run2_map HB.out (HUU.out.1 rfl))
                  skip
                  go_upto_region 20 with (at_builtin; refine wpList_append_H rfl (.tmp 63) (.tmp 65) 22 rfl elemOp H.alloc 3 rfl rfl 5 rfl rfl rfl rfl (by decide) (by unfold maxLen; omega) (by omega) (fun g3 d3 wy HZ => ?_); clear H C)
                  simp only [List.nil_append, List.cons_append, List.append_assoc, List.set_cons_succ, List.set_cons_zero] at HZ
                  have H := HS.less (L' := [_, _, _, _]) HZ (by repeat (first | exact .slnil | refine .cons_cons _ ?_ | refine .cons _ ?_))
                  clear HZ
                  skip
                  try clear C
                  try simp only [World.size_alloc, List.nil_append, List.cons_append, List.append_assoc] at H
                  have C := H.cells
                  try simp only [cellsOf, cellsM, apartOf, apartM, and_true] at C
                  go_wp2_with fail
                  go_roundw
                  case rel =>
                    refine ⟨j + 1, m2 ++ [⟨3, 1, 2, 0, 0, none, 0, 0⟩], by go_num, by omega, by rw [List.length_append, HMM.out]; simp; omega, HR2, ?_⟩
                    rw [List.length_append, HMM.out, List.flatMap_append]
                    exact H
                  case measure => simp [intOf]; omega
                | false =>
                  have HR2 := Lib.hid (run2_drop HB.out (Classical.byContradiction fun h => nomatch HUU.out.2 h))
                  skip
                  go_upto_region 20 with (at_builtin; refine wpList_append_H rfl (.tmp 67) (.tmp 69) 22 rfl elemOp H.alloc 3 rfl rfl 5 rfl rfl rfl rfl (by decide) (by unfold maxLen; omega) (by omega) (fun g3 d3 wy HZ => ?_); clear H C)
                  simp only [List.nil_append, List.cons_append, List.append_assoc, List.set_cons_succ, List.set_cons_zero] at HZ
                  have H := HS.less (L' := [_, _, _, _]) HZ (by repeat (first | exact .slnil | refine .cons_cons _ ?_ | refine .cons _ ?_))
                  clear HZ
                  skip
                  try clear C
                  try simp only [World.size_alloc, List.nil_append, List.cons_append, List.append_assoc] at H
                  have C := H.cells
                  try simp only [cellsOf, cellsM, apartOf, apartM, and_true] at C
                  go_wp2_with fail
                  go_roundw
                  case rel =>
                    refine ⟨j + 1, m2 ++ [⟨5, 1, 2, 0, 0, none, 0, 0⟩], by go_num, by omega, by rw [List.length_append, HMM.out]; simp; omega, HR2, ?_⟩
                    rw [List.length_append, HMM.out, List.flatMap_append]
                    exact H
                  case measure => simp [intOf]; omega
              · have heqb : ((j : Int) == at0) = false := beq_eq_false_iff_ne.2 heq
                skip
                go_wp2_with fail
                go_roundw
                case rel =>
                  refine ⟨j + 1, m2, by go_num, by omega, by rw [HMM.out]; omega, HB, ?_⟩
                  rw [HMM.out]
                  exact HS.less H (by repeat (first | exact .slnil | refine .cons_cons _ ?_ | refine .cons _ ?_))
                case measure => simp [intOf]; omega
      · obtain rfl : j = l.length := by omega
        clear hj hlt
        rw [List.take_length] at HRU
        have hlb : l.length ≤ 18 := by omega
        have hmb : m.length ≤ 36 := by omega
        clear hmj hl2 hlm
        have hcm := ownsRow_cap (H.at 3 rfl)
        obtain ⟨s4, d4, rfl⟩ := ownsRow_slice (H.at 3 rfl)
        obtain ⟨_, _, e3, hcm⟩ := hcm
        injection e3 with e3 e4 e5
        subst e3 e5
        have HCM := Lib.hid hcm
        clear hcm e4 HMD
        skip
        try clear C
        try simp only [World.size_alloc, List.nil_append, List.cons_append, List.append_assoc] at H
        have C := H.cells
        try simp only [cellsOf, cellsM, apartOf, apartM, and_true] at C
        go_wp2_with fail
        refine (pages_any (l := l) (by omega) (sa := s1) c1 _ (H.rowLies 1 oxC_len rfl rfl)).mono ?_
        rintro _ w9 ⟨us, v9, rfl, hu, hul, K⟩
        replace H := H.join K (fun A hA => by simp only [List.mem_cons, List.mem_nil_iff, or_false] at hA; rcases hA with rfl; rfl)
        simp only [List.nil_append, List.cons_append] at H
        obtain ⟨s5, c5, rfl⟩ := ownsRow_slice (H.at 4 rfl)
        have HU := Lib.hid hu
        clear K hu
        skip
        try clear C
        try simp only [World.size_alloc, List.nil_append, List.cons_append, List.append_assoc] at H
        have C := H.cells
        try simp only [cellsOf, cellsM, apartOf, apartM, and_true] at C
        dsimp only
        go_wp2_with fail
        refine (pages_any (l := m) (by omega) (sa := s4) d4 _ (H.rowLies 3 oxC_len rfl rfl)).mono ?_
        rintro _ w10 ⟨vs, v10, rfl, hv, hvl, K⟩
        replace H := H.join K (fun A hA => by simp only [List.mem_cons, List.mem_nil_iff, or_false] at hA; rcases hA with rfl; rfl)
        simp only [List.nil_append, List.cons_append] at H
        obtain ⟨s6, c6, rfl⟩ := ownsRow_slice (H.at 5 rfl)
        obtain rfl := RelF.same HRU.out HU.out hv
        clear K hv HU
        skip
        try clear C
        try simp only [World.size_alloc, List.nil_append, List.cons_append, List.append_assoc] at H
        have C := H.cells
        try simp only [cellsOf, cellsM, apartOf, apartM, and_true] at C
        dsimp only
        go_wp2_with fail
        refine (sameUses_any hul c5 c6 _ (H.rowLies 4 encU_len rfl rfl) (H.rowLies 5 encU_len rfl rfl)).mono ?_
        rintro _ w6 ⟨rfl, hb⟩
        replace H := H.below hb
        clear hb
        try clear C
        try simp only [World.size_alloc, List.nil_append, List.cons_append, List.append_assoc] at H
        try clear w10
        have C := H.cells
        try simp only [cellsOf, cellsM, apartOf, apartM, and_true] at C
        dsimp only
        replace H := H.less (L' := [.dice w.heap.size bd, .row (.slice s1 l.length c1) 38 6 l.length (l.flatMap oxC), dataI l, .row (.slice s4 m.length d4) 38 6 m.length (m.flatMap oxC)]) (by repeat (first | exact .slnil | refine .cons_cons _ ?_ | refine .cons _ ?_))
        try clear C
        try clear C
        try simp only [World.size_alloc, List.nil_append, List.cons_append, List.append_assoc] at H
        have C := H.cells
        try simp only [cellsOf, cellsM, apartOf, apartM, and_true] at C
        go_wp2_with fail
        go_loopw [12] (fun pp wr => ∃ (pg : Nat), pp = .int .i64 pg ∧ pg ≤ 3 ∧ HS NoD w [.dice w.heap.size bd, .row (.slice s1 l.length c1) 38 6 l.length (l.flatMap oxC), dataI l, .row (.slice s4 m.length d4) 38 6 m.length (m.flatMap oxC)] wr) (fun pp _ => 3 - (intOf pp).toNat)
        case atStart => exact ⟨0, rfl, by omega, H⟩
        case round =>
          clear H C
          obtain ⟨pg, rfl, hpg, H⟩ := hrel
          skip
          try clear C
          try simp only [World.size_alloc, List.nil_append, List.cons_append, List.append_assoc] at H
          have C := H.cells
          try simp only [cellsOf, cellsM, apartOf, apartM, and_true] at C
          by_cases hlt : pg < 3
          · have HM2 := Lib.hid (fun w => gives_ofP (mod_any k 4 w))
            have hm2 := modF_in (n := k) (m := 4) (by decide) (by decide)
            generalize modF k 4 = wd at HM2 hm2
            have hpgi : (pg : Int) < 3 := by omega
            go_wp2_with fail
            refine (HM2.out _).mono ?_
            rintro _ w7 ⟨rfl, hb⟩
            replace H := H.below hb
            clear hb
            try clear C
            try simp only [World.size_alloc, List.nil_append, List.cons_append, List.append_assoc] at H
            try clear wr
            have C := H.cells
            try simp only [cellsOf, cellsM, apartOf, apartM, and_true] at C
            dsimp only
            clear HM2
            go_upto_region 27 with fail
            generalize hwb : w7.alloc _ = w8
            replace H := HS.eqW hwb H.alloc
            try simp only [World.size_alloc, List.nil_append, List.cons_append, List.append_assoc] at H
            clear hwb
            generalize w7.heap.size = b12 at H ⊢
            try clear C
            try clear w7
            have C := H.cells
            try simp only [cellsOf, cellsM, apartOf, apartM, and_true] at C
            obtain ⟨ro, hro⟩ : ∃ ro : Ox, ro = ⟨1, 1, (pg : Int), wd, 0, none, 0, 0⟩ := ⟨_, rfl⟩
            have hrs := RelF.source HRU.out ro trivial (by rw [hro]) (by rw [hro]; exact read_means (by decide) (by omega) (by omega))
            have HSL := Lib.hid (show ∀ sa c wx, l.length + 1 ≤ c → Lies wx wx.heap.size sa 6 (l.length + 1) (fun j => oxC (l ++ [ro])[j]!) → Calls Try.prog 12 #[.slice sa (l.length + 1) c, .int .i64 (l.length : Int)] wx (Gives (.tuple #[.int .i64 (sourceP (l ++ [ro]) l.length).1, .bool (sourceP (l ++ [ro]) l.length).2]) wx) from fun sa c wx hc hl => by
              have hlen : (l ++ [ro]).length = l.length + 1 := by simp
              have h := source_any (l := l ++ [ro]) (by omega) (l.length : Int) (sa := sa) (c := c) (by omega) wx (by rw [hlen]; exact hl)
              rw [hlen] at h
              exact h)
            have HSM := Lib.hid (show ∀ sa c wx, m.length + 1 ≤ c → Lies wx wx.heap.size sa 6 (m.length + 1) (fun j => oxC (m ++ [ro])[j]!) → Calls Try.prog 12 #[.slice sa (m.length + 1) c, .int .i64 (m.length : Int)] wx (Gives (.tuple #[.int .i64 (sourceP (m ++ [ro]) m.length).1, .bool (sourceP (m ++ [ro]) m.length).2]) wx) from fun sa c wx hc hl => by
              have hlen : (m ++ [ro]).length = m.length + 1 := by simp
              have h := source_any (l := m ++ [ro]) (by omega) (m.length : Int) (sa := sa) (c := c) (by omega) wx (by rw [hlen]; exact hl)
              rw [hlen] at h
              exact h)
            have HOCL := Lib.hid (show (l ++ [ro]).flatMap oxC = l.flatMap oxC ++ [.int .i64 1, .int .i64 1, .int .i64 (pg : Int), .int .i64 wd, .int .i64 0, .slice none 0 0] by rw [hro]; simp [oxC])
            have HOCM := Lib.hid (show (m ++ [ro]).flatMap oxC = m.flatMap oxC ++ [.int .i64 1, .int .i64 1, .int .i64 (pg : Int), .int .i64 wd, .int .i64 0, .slice none 0 0] by rw [hro]; simp [oxC])
            generalize sourceP (l ++ [ro]) l.length = r1 at HSL hrs
            generalize sourceP (m ++ [ro]) m.length = r2 at HSM hrs
            obtain ⟨ia, ok⟩ := r1
            obtain ⟨ib, is⟩ := r2
            dsimp only at hrs HSL HSM
            obtain ⟨hok, hrs⟩ := hrs
            subst hok
            have HP4 := Lib.hid hrs
            clear hrs hro
            have hn := H.nilRow 38 6
            clear H
            have H := hn
            clear hn
            simp only [List.nil_append, List.cons_append] at H
            refine wp_region_h (by kernel_rfl) [0, 1, 2, 3, 4, 5, 6, 7, 8, 9, 10, 11, 12] (by kernel_rfl) (by kernel_rfl) (by kernel_rfl) (fun _ => False) (H) ?_
            clear H; intro w9 H hz0
            try clear C
            try simp only [World.size_alloc, List.nil_append, List.cons_append, List.append_assoc] at H hz0 ⊢
            clear hz0
            try clear w8
            have C := H.cells
            try simp only [cellsOf, cellsM, apartOf, apartM, and_true] at C
            have Z := H.zs
            try simp only [ltsOf, ltsM, and_true] at Z
            simp only [List.filterMap_cons, List.filterMap_nil, List.getElem?_toArray, List.getElem?_cons_zero, List.getElem?_cons_succ]
            (refine wpH_free rfl rfl rfl (fun _ _ => ?_); go_step; go_step)
            refine wpH_append rfl (.const (.slice none 0 0)) (.tmp 87) 22 rfl elemOp 5 rfl rfl (by simp [Value.ownBlock]) (fun _ h => h.1) rfl (fun w hc => Lies.srcS oxC_len (by decide) HCL.out.1 (hc.hs.rowLies 1 oxC_len rfl rfl) HCL.out.2) (flat_len oxC_len l) (oxC_one l) (by unfold maxLen; omega) (by omega) (N := l.length) (Nat.zero_add _) (fun s5 d5 he5 => ?_)
            (refine wpH_load rfl rfl rfl (by simp [Stay, OneD, NoD, *]) (by simp [*]) (fun _ _ => ?_); go_step; go_step)
            (refine wpH_lit rfl rfl #[.int .i64 1, .int .i64 1, .int .i64 (pg : Int), .int .i64 wd, .int .i64 0, .slice none 0 0]   38 1 (fun w => by kernel_rfl) (fun bL hbL nbL _ _ => ?_); go_simp; go_step)
            refine wpH_append rfl (.tmp 88) (.tmp 90) 22 rfl elemOp 5 rfl rfl he5 (fun _ h => h.1) rfl (fun w hc => src_lit (Fl.at _ _ _) hc) rfl (fun y hy => by simp only [List.mem_cons, List.mem_nil_iff, or_false] at hy; rcases hy with rfl | rfl | rfl | rfl | rfl | rfl <;> rfl) (by unfold maxLen; omega) (by omega) (N := l.length + 1) rfl (fun s6 d6 he6 => ?_)
            (refine wpH_free rfl rfl rfl (fun _ _ => ?_); go_step; go_step)
            (refine wpH_free rfl rfl rfl (fun _ _ => ?_); go_step; go_step)
            (refine wpH_call rfl rfl (fun wc hc _ _ => ?_); go_step; refine (HSL.out _ _ _ (row_cap40 (hc.hs.at 5 rfl)) (hc.hs.rowLies 5 oxC_len (xs := l ++ [ro]) (by rw [HOCL.out]; rfl) (by simp))).mono ?_; rintro _ wd ⟨rfl, hb⟩; dsimp only; go_step; refine ⟨_, (hc.belowH (fun _ h => h.1) hb).1, (hc.belowH (fun _ h => h.1) hb).2, ?_⟩; clear hb hc wc wd)
            (refine wpH_free rfl rfl rfl (fun _ _ => ?_); go_step; go_step)
            (refine wpH_free rfl rfl rfl (fun _ _ => ?_); go_step; go_step)
            (refine wpH_free rfl rfl rfl (fun _ _ => ?_); go_step; go_step)
            (refine wpH_free rfl rfl rfl (fun _ _ => ?_); go_step; go_step)
            (refine wpH_free rfl rfl rfl (fun _ _ => ?_); go_step; go_step)
            refine wpH_nil ?_
            intro w10 hC
            replace H := hC.hs
            clear hC
            try clear C
            try clear Z
            try simp only [List.nil_append, List.cons_append, List.append_assoc, List.set_cons_succ, List.set_cons_zero] at H
            try clear w9
            have C := H.cells
            try simp only [cellsOf, cellsM, apartOf, apartM, and_true] at C
            replace H := H.less (L' := [.dice w.heap.size bd, .row (.slice s1 l.length c1) 38 6 l.length (l.flatMap oxC), dataI l, .row (.slice s4 m.length d4) 38 6 m.length (m.flatMap oxC), .blk b12 #[.int .i64 1, .int .i64 1, .int .i64 (pg : Int), .int .i64 wd, .int .i64 0, .slice none 0 0] 38]) (by repeat (first | exact .slnil | refine .cons_cons _ ?_ | refine .cons _ ?_))
            try clear C
            have hn := H.nilRow 38 6
            clear H
            have H := hn
            clear hn
            simp only [List.nil_append, List.cons_append] at H
            try clear C
            try simp only [World.size_alloc, List.nil_append, List.cons_append, List.append_assoc] at H
            have C := H.cells
            try simp only [cellsOf, cellsM, apartOf, apartM, and_true] at C
            go_upto_region 28 with fail
            refine wp_region_h (by kernel_rfl) [0, 1, 2, 3, 4, 5, 6, 7, 8, 9, 10, 11, 12] (by kernel_rfl) (by kernel_rfl) (by kernel_rfl) (fun _ => False) (H) ?_
            clear H; intro w11 H hz0
            try clear C
            try simp only [World.size_alloc, List.nil_append, List.cons_append, List.append_assoc] at H hz0 ⊢
            clear hz0
            try clear w10
            have C := H.cells
            try simp only [cellsOf, cellsM, apartOf, apartM, and_true] at C
            have Z := H.zs
            try simp only [ltsOf, ltsM, and_true] at Z
            simp only [List.filterMap_cons, List.filterMap_nil, List.getElem?_toArray, List.getElem?_cons_zero, List.getElem?_cons_succ]
            (refine wpH_free rfl rfl rfl (fun _ _ => ?_); go_step; go_step)
            refine wpH_append rfl (.const (.slice none 0 0)) (.tmp 98) 22 rfl elemOp 5 rfl rfl (by simp [Value.ownBlock]) (fun _ h => h.1) rfl (fun w hc => Lies.srcS oxC_len (by decide) HCM.out.1 (hc.hs.rowLies 3 oxC_len rfl rfl) HCM.out.2) (flat_len oxC_len m) (oxC_one m) (by unfold maxLen; omega) (by omega) (N := m.length) (Nat.zero_add _) (fun s5 d5 he5 => ?_)
            (refine wpH_load rfl rfl rfl (by simp [Stay, OneD, NoD, *]) (by simp [*]) (fun _ _ => ?_); go_step; go_step)
            (refine wpH_lit rfl rfl #[.int .i64 1, .int .i64 1, .int .i64 (pg : Int), .int .i64 wd, .int .i64 0, .slice none 0 0]   38 1 (fun w => by kernel_rfl) (fun bL hbL nbL _ _ => ?_); go_simp; go_step)
            refine wpH_append rfl (.tmp 99) (.tmp 101) 22 rfl elemOp 5 rfl rfl he5 (fun _ h => h.1) rfl (fun w hc => src_lit (Fl.at _ _ _) hc) rfl (fun y hy => by simp only [List.mem_cons, List.mem_nil_iff, or_false] at hy; rcases hy with rfl | rfl | rfl | rfl | rfl | rfl <;> rfl) (by unfold maxLen; omega) (by omega) (N := m.length + 1) rfl (fun s6 d6 he6 => ?_)
            (refine wpH_free rfl rfl rfl (fun _ _ => ?_); go_step; go_step)
            (refine wpH_free rfl rfl rfl (fun _ _ => ?_); go_step; go_step)
            (refine wpH_call rfl rfl (fun wc hc _ _ => ?_); go_step; refine (HSM.out _ _ _ (row_cap40 (hc.hs.at 5 rfl)) (hc.hs.rowLies 5 oxC_len (xs := m ++ [ro]) (by rw [HOCM.out]; rfl) (by simp))).mono ?_; rintro _ wd ⟨rfl, hb⟩; dsimp only; go_step; refine ⟨_, (hc.belowH (fun _ h => h.1) hb).1, (hc.belowH (fun _ h => h.1) hb).2, ?_⟩; clear hb hc wc wd)
            (refine wpH_free rfl rfl rfl (fun _ _ => ?_); go_step; go_step)
            (refine wpH_free rfl rfl rfl (fun _ _ => ?_); go_step; go_step)
            (refine wpH_free rfl rfl rfl (fun _ _ => ?_); go_step; go_step)
            (refine wpH_free rfl rfl rfl (fun _ _ => ?_); go_step; go_step)
            (refine wpH_free rfl rfl rfl (fun _ _ => ?_); go_step; go_step)
            refine wpH_nil ?_
            intro w12 hC
            replace H := hC.hs
            clear hC
            try clear C
            try clear Z
            try simp only [List.nil_append, List.cons_append, List.append_assoc, List.set_cons_succ, List.set_cons_zero] at H
            try clear w11
            have C := H.cells
            try simp only [cellsOf, cellsM, apartOf, apartM, and_true] at C
            replace H := H.less (L' := [.dice w.heap.size bd, .row (.slice s1 l.length c1) 38 6 l.length (l.flatMap oxC), dataI l, .row (.slice s4 m.length d4) 38 6 m.length (m.flatMap oxC)]) (by repeat (first | exact .slnil | refine .cons_cons _ ?_ | refine .cons _ ?_))
            try clear C
            try clear C
            try simp only [World.size_alloc, List.nil_append, List.cons_append, List.append_assoc] at H
            have C := H.cells
            try simp only [cellsOf, cellsM, apartOf, apartM, and_true] at C
            go_upto_region 29 with fail
            skip
            cases ok with
            | false =>
              refine wp_region_xH (by kernel_rfl) (by kernel_rfl) (by kernel_rfl) (by kernel_rfl) (fun _ => False) (H) ?_
              clear H; intro w13 H hz0 hs0
              try clear C
              try simp only [World.size_alloc, List.nil_append, List.cons_append, List.append_assoc] at H hz0
              clear hz0
              try clear w12
              have C := H.cells
              try simp only [cellsOf, cellsM, apartOf, apartM, and_true] at C
              have Z := H.zs
              try simp only [ltsOf, ltsM, and_true] at Z
              have hz0 := Nat.le_refl w13.heap.size
              repeat (first | (refine wpX_skip rfl ?_; go_simp) | (refine wpX_free rfl rfl rfl (fun K hK => ?_); go_step; refine hK _ _ ?_; clear hK K) | (refine wpX_load rfl rfl rfl (by simp [Stay, OneD, NoD, *]) hs0 (by simp [*]) (fun K hK => ?_); go_step; refine hK _ _ ?_; clear hK K))
              (refine wpX_nil ?_; go_step)
              go_wp2_with fail
              go_roundw
              case rel => exact ⟨pg + 1, by go_num, by omega, H⟩
              case measure => simp [intOf]; omega
            | true =>
              skip
              obtain ⟨ja, jb, e1, e2, hja, hjb, hxy⟩ := HP4.out rfl
              subst e1 e2
              have HDK := Lib.hid (fun w (h : dataK l w) => dataK_at h (show l[ja]! ∈ l by rw [getElem!_pos l ja hja]; exact List.getElem_mem hja))
              clear HP4
              refine wp_region_xH (by kernel_rfl) (by kernel_rfl) (by kernel_rfl) (by kernel_rfl) (fun _ => False) (H) ?_
              clear H; intro w14 H hz0 hs0
              try clear C
              try simp only [World.size_alloc, List.nil_append, List.cons_append, List.append_assoc] at H hz0
              clear hz0
              try clear w12
              have C := H.cells
              try simp only [cellsOf, cellsM, apartOf, apartM, and_true] at C
              have Z := H.zs
              try simp only [ltsOf, ltsM, and_true] at Z
              have hz0 := Nat.le_refl w14.heap.size
              obtain ⟨b9, o9, e9, hb9, d0, d1, d2, d3', d4', d5⟩ := oxCells (H.rowLies 1 oxC_len rfl rfl) hja
              obtain ⟨b8, o8, e8, hb8, f0, f1, f2, f3, f4, f5⟩ := oxCells (H.rowLies 3 oxC_len rfl rfl) hjb
              subst e9 e8
              rw [← hxy] at f0 f1 f2 f3 f4 f5
              have HSA := Lib.hid (fun w h => same40_any l[ja]! w h)
              clear hxy
              generalize l[ja]! = x at d0 d1 d2 d3' d4' d5 f0 f1 f2 f3 f4 f5 HSA HDK
              obtain ⟨xk, xp, xg, xw, xo, xsa, xn, xc⟩ := x
              dsimp only at d0 d1 d2 d3' d4' d5 f0 f1 f2 f3 f4 f5
              have i1 : (ja : Int) < l.length := by omega
              have i2 : ¬ (l.length : Int) ≤ ja := by omega
              have i3 : (jb : Int) < m.length := by omega
              have i4 : ¬ (m.length : Int) ≤ jb := by omega
              have i5 : ¬ l.length ≤ ja := by omega
              have i6 : ¬ m.length ≤ jb := by omega
              repeat (first | (refine wpX_skip rfl ?_; go_simp) | (refine wpX_free rfl rfl rfl (fun K hK => ?_); go_step; refine hK _ _ ?_; clear hK K) | (refine wpX_load rfl rfl rfl (by simp [Stay, OneD, NoD, *]) hs0 (by simp [*]) (fun K hK => ?_); go_step; refine hK _ _ ?_; clear hK K))
              refine wpX_eff rfl rfl (fun _ _ => ?_)
              go_step
              refine (HSA.out _ (HDK.out _ (H.at 2 rfl).1)).mono ?_
              rintro _ w15 ⟨rfl, hb⟩
              replace hs0 := hs0.belowS hz0 hb
              replace hz0 := Nat.le_trans hz0 hb.size
              replace H := H.below hb
              clear hb
              try clear C
              have C := H.cells
              try simp only [cellsOf, cellsM, apartOf, apartM, and_true] at C
              try clear w14
              dsimp only
              go_step
              refine ⟨hs0, ?_⟩
              repeat (first | (refine wpX_skip rfl ?_; go_simp) | (refine wpX_free rfl rfl rfl (fun K hK => ?_); go_step; refine hK _ _ ?_; clear hK K) | (refine wpX_load rfl rfl rfl (by simp [Stay, OneD, NoD, *]) hs0 (by simp [*]) (fun K hK => ?_); go_step; refine hK _ _ ?_; clear hK K))
              (refine wpX_nil ?_; go_step)
              go_wp2_with fail
              go_roundw
              case rel => exact ⟨pg + 1, by go_num, by omega, H⟩
              case measure => simp [intOf]; omega
          · obtain rfl : pg = 3 := by omega
            go_wp2_with fail
            refine (HAW.out _).mono ?_
            rintro _ w16 ⟨rfl, hb⟩
            replace H := H.below hb
            clear hb
            try clear C
            try simp only [World.size_alloc, List.nil_append, List.cons_append, List.append_assoc] at H
            try clear w15
            have C := H.cells
            try simp only [cellsOf, cellsM, apartOf, apartM, and_true] at C
            dsimp only
            go_wp2_with fail
            go_ret
            exact ⟨rfl, H.done⟩
  · rw [decide_eq_false h400] at hli
    have HLI := Lib.hid hli
    clear hli
    go_enter Try.func7, Try.ntmps7
    have H := HS.start NoD w
    go_wp2_with fail
    refine (gives_ofP (HLI.out _)).mono ?_
    rintro _ w1 ⟨rfl, hb⟩
    replace H := H.below hb
    clear hb
    try clear C
    try simp only [World.size_alloc, List.nil_append, List.cons_append, List.append_assoc] at H
    have C := H.cells
    try simp only [cellsOf, cellsM, apartOf, apartM, and_true] at C
    dsimp only
    go_wp2_with fail
    refine (HAW.out _).mono ?_
    rintro _ w2 ⟨rfl, hb⟩
    replace H := H.below hb
    clear hb
    try clear C
    try simp only [World.size_alloc, List.nil_append, List.cons_append, List.append_assoc] at H
    try clear w1
    have C := H.cells
    try simp only [cellsOf, cellsM, apartOf, apartM, and_true] at C
    dsimp only
    go_wp2_with fail
    go_ret
    exact ⟨rfl, H.done⟩
end Go.Proofs.Ythpoanlmaafanaa
