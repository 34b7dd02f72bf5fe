/- cache.right: whether the slots of a set are valid. -/
import Derived.Test.YtfmcicmbehjdcaaLrC
import Derived.Test.YtfmcicmbehjdcaaSetB
namespace Go.Proofs.Ytfmcicmbehjdcaa
set_option linter.unusedSimpArgs false
set_option linter.unusedVariables false
open Go.RowKit
set_option maxRecDepth 100000
attribute [local go_sem] run_mkMap
attribute [local irreducible] wpX wpF Calls

/-- How many slots in front are used. -/
def usedN (m : List Sm) : Nat := (m.takeWhile (·.u)).length
theorem usedN_eq : ∀ {m : List Sm} {j : Nat}, j ≤ m.length → (∀ i, i < j → (m[i]!).u = true) → (j = m.length ∨ (j < m.length ∧ (m[j]!).u = false)) → usedN m = j
  | [], j, hj, _, _ => by obtain rfl : j = 0 := by simpa using hj
                          rfl
  | s :: m, 0, _, _, he => by
    rcases he with he | ⟨_, he⟩
    · cases he
    · have he' : s.u = false := he
      simp [usedN, List.takeWhile_cons, he']
  | s :: m, j + 1, hj, h, he => by
    have h0 : s.u = true := h 0 (by omega)
    have := usedN_eq (m := m) (j := j) (by simpa using hj) (fun i hi => h (i + 1) (by omega)) (by
      rcases he with he | ⟨h1, h2⟩
      · exact .inl (by simpa using he)
      · exact .inr ⟨by simpa using h1, h2⟩)
    simp only [usedN, List.takeWhile_cons, h0, if_true, List.length_cons] at this ⊢
    omega
theorem usedN_le (m : List Sm) : usedN m ≤ m.length := (List.takeWhile_sublist _).length_le
/-- Whether the slot i of a set is right. -/
def slotB (sets size set : Int) (m : List Sm) (i : Nat) : Bool :=
  if i < usedN m then decide (0 ≤ (m[i]!).age) && decide ((m[i]!).age < usedN m) && decide ((m[i]!).age ∉ (m.take i).map (·.age)) && decide ((m[i]!).ln.ad ∉ (m.take i).map (·.ln.ad)) && lineB size (m[i]!).ln && decide ((m[i]!).ln.ad % sets = set) else emptyB m[i]!
def rightB (sets size set : Int) (m : List Sm) : Bool := decide (∀ i, i < m.length → slotB sets size set m i = true)
theorem rightB_no {sets size set : Int} {m : List Sm} {i : Nat} (hi : i < m.length) (h : slotB sets size set m i = false) : rightB sets size set m = false := decide_eq_false fun hh => by rw [hh i hi] at h; cases h
theorem take_snoc {m : List Sm} {i : Nat} (hi : i < m.length) (f : Sm → Int) : (m.take (i + 1)).map f = (m.take i).map f ++ [f m[i]!] := by
  rw [List.take_add_one, List.map_append, List.getElem?_eq_getElem hi, getElem!_pos m i hi]; rfl
set_option maxHeartbeats 16000000 in
theorem cright_any (sets ways size : Int) (hs : 1 ≤ sets ∧ sets ≤ 8) (set : Nat) (hset : set < 8) (y x : Sv) (qs : List Sw) (hx : x.n = qs.length) (hq : qs.length ≤ 4) (hln : ∀ j, j < qs.length → (qs[j]!).x.n = (qs[j]!).s.ln.bs.length) (w : World) (hl : Lies w w.heap.size x.sa 6 qs.length (fun j => swC qs[j]!)) :
    Calls Try.prog 35 #[caV sets ways size y, .int .i64 (set : Int), .slice x.sa x.n x.c] w (Gives (.bool (rightB sets size set (qs.map Sw.s))) w) := by
  obtain ⟨sa, n, c⟩ := x
  obtain ⟨ya, yn, yc⟩ := y
  dsimp only at hx hl
  subst hx
  have HT : Try.prog.underlying 65 = some (.map 3 4) := by kernel_rfl
  have HK : Try.prog.underlying 3 = some (.int .i64) := by kernel_rfl
  have HE : ∀ w, (zeroValue 4).run Try.prog w = .ok (.bool false) w := fun w => by rfl
  have HL := Lib.hid hl
  have HLN := Lib.hid hln
  obtain ⟨m, hm⟩ : ∃ m, m = qs.map Sw.s := ⟨_, rfl⟩
  have hml : m.length = qs.length := by rw [hm, List.length_map]
  have HMQ := Lib.hid (show ∀ i, i < qs.length → m[i]! = (qs[i]!).s from fun i hi => by rw [hm, map_get _ _ _ hi])
  rw [← hm]
  have HML := Lib.hid hml
  clear hm hml hl hln
  have HEM := Lib.hid (fun q hq w => cempty_any q hq w)
  have HLV := Lib.hid (fun size m x hn w => lvalid_any size m x hn w)
  show Calls Try.prog 35 #[.agg #[.int .i64 sets, .int .i64 ways, .int .i64 size, .slice ya yn yc], .int .i64 (set : Int), .slice sa qs.length c] w _
  go_enter Try.func35, Try.ntmps35
  have H := HS.start NoD w
  go_upto_region 1 with fail
  generalize hwb : w.alloc _ = w1
  replace H := HS.eqW hwb H.alloc
  try simp only [World.size_alloc, List.nil_append, List.cons_append, List.append_assoc] at H
  clear hwb
  generalize w.heap.size = bX at H ⊢
  try clear C
  have C := H.cells
  try simp only [cellsOf, cellsM, apartOf, apartM, and_true] at C
  go_wp2_with fail
  go_loopw [7] (fun jj wr => ∃ j : Nat, jj = .int .i64 j ∧ j ≤ qs.length ∧ Hid (∀ i, i < j → (m[i]!).u = true) ∧ HS NoD w [.blk bX #[.int .i64 sets, .int .i64 ways, .int .i64 size, .slice ya yn yc] 24] wr) (fun jj _ => qs.length - (intOf jj).toNat)
  case atStart => exact ⟨0, rfl, Nat.zero_le _, (show Hid _ from fun i hi => absurd hi (Nat.not_lt_zero _)), H⟩
  case round =>
    clear H C
    obtain ⟨j, rfl, hj, HU, H⟩ := hrel
    skip
    try clear C
    try simp only [World.size_alloc, List.nil_append, List.cons_append, List.append_assoc] at H
    have C := H.cells
    try simp only [cellsOf, cellsM, apartOf, apartM, and_true] at C
    go_upto_region 2 with fail
    go_cut [22] from 12 to 24 (fun c wx => ∃ b : Bool, c = .bool b ∧ Hid (b = true → j < qs.length ∧ (m[j]!).u = true) ∧ Hid (b = false → j = qs.length ∨ (j < qs.length ∧ (m[j]!).u = false)) ∧ HS NoD w [.blk bX #[.int .i64 sets, .int .i64 ways, .int .i64 size, .slice ya yn yc] 24] wx)
    case first =>
      by_cases hlt : j < qs.length
      · obtain ⟨b, o, rfl, hb, hc⟩ := (H.liesUp HL.out).at hlt
        have hmj := HMQ.out j hlt
        obtain ⟨q, hqj⟩ : ∃ q, q = qs[j]! := ⟨_, rfl⟩
        rw [← hqj] at hc hmj
        have k0 : wr.cell? ⟨b, o + j * 6, none⟩ = some (.bool q.s.u) := hc 0 _ rfl
        have HMJ := Lib.hid hmj
        clear hc hmj hqj
        cases hu : q.s.u
        case true =>
          rw [hu] at k0
          have HUQ := Lib.hid hu
          clear hu
          go_wp2_with fail
          go_meet
          case rel => exact ⟨true, rfl, (show Hid _ from fun _ => ⟨hlt, by rw [HMJ.out]; exact HUQ.out⟩), (show Hid _ from fun e => by cases e), H⟩
        case false =>
          rw [hu] at k0
          have HUQ := Lib.hid hu
          clear hu
          go_wp2_with fail
          go_meet
          case rel => exact ⟨false, rfl, (show Hid _ from fun e => by cases e), (show Hid _ from fun _ => .inr ⟨hlt, by rw [HMJ.out]; exact HUQ.out⟩), H⟩
      · go_wp2_with fail
        go_meet
        case rel => exact ⟨false, rfl, (show Hid _ from fun e => by cases e), (show Hid _ from fun _ => .inl (by omega)), H⟩
    case rest =>
      clear H C
      obtain ⟨b, rfl, HT1, HF1, H⟩ := hcut
      skip
      try clear C
      try simp only [World.size_alloc, List.nil_append, List.cons_append, List.append_assoc] at H
      have C := H.cells
      try simp only [cellsOf, cellsM, apartOf, apartM, and_true] at C
      cases b
      case true =>
        have hlt := (HT1.out rfl).1
        go_wp2_with fail
        go_roundw
        case rel => exact ⟨j + 1, by go_num, by omega, (show Hid _ from fun i hi => by
          by_cases e : i = j
          · rw [e]; exact (HT1.out rfl).2
          · exact HU.out i (by omega)), H⟩
        case measure => simp [intOf]; omega
      case false =>
        have HUN := Lib.hid (usedN_eq (m := m) (j := j) (by rw [HML.out]; exact hj) HU.out (by rw [HML.out]; exact HF1.out rfl))
        clear HU HT1 HF1
        go_upto_region 5 with fail
        generalize hwb : (wc.alloc _).alloc _ = wm
        replace H := HS.eqW hwb H.allocObj.allocObj
        try simp only [World.size_alloc, List.nil_append, List.cons_append, List.append_assoc] at H
        clear hwb C
        generalize wc.heap.size + 1 = b2 at H ⊢
        generalize wc.heap.size = b1 at H ⊢
        clear wc
        skip
        try clear C
        try simp only [World.size_alloc, List.nil_append, List.cons_append, List.append_assoc] at H
        have C := H.cells
        try simp only [cellsOf, cellsM, apartOf, apartM, and_true] at C
        go_wp2_with fail
        go_loopw [29] (fun cc wr => ∃ (i : Nat) (e1 e2 : Array MapEntry) (k1 k2 : Nat), cc = .int .i64 i ∧ i ≤ qs.length ∧ Hid (SetM e1 ((m.take (min i j)).map (·.age))) ∧ Hid (SetM e2 ((m.take (min i j)).map (·.ln.ad))) ∧ Hid (∀ t, t < i → slotB sets size set m t = true) ∧ HS NoD w [.blk bX #[.int .i64 sets, .int .i64 ways, .int .i64 size, .slice ya yn yc] 24, .obj b1 (.map e1 k1), .obj b2 (.map e2 k2)] wr) (fun cc _ => qs.length - (intOf cc).toNat)
        case atStart => exact ⟨0, #[], #[], 0, 0, rfl, Nat.zero_le _, (show Hid _ by rw [Nat.zero_min, List.take_zero]; exact SetM.nil), (show Hid _ by rw [Nat.zero_min, List.take_zero]; exact SetM.nil), (show Hid _ from fun i hi => absurd hi (Nat.not_lt_zero _)), H⟩
        case round =>
          clear H C
          obtain ⟨i, e1, e2, k1, k2, rfl, hi, HS1, HS2, HSA, H⟩ := hrel
          skip
          try clear C
          try simp only [World.size_alloc, List.nil_append, List.cons_append, List.append_assoc] at H
          have C := H.cells
          try simp only [cellsOf, cellsM, apartOf, apartM, and_true] at C
          by_cases hlt : i < qs.length
          · obtain ⟨b, o, rfl, hb, hc⟩ := (H.liesUp HL.out).at hlt
            have HMI := Lib.hid (HMQ.out i hlt)
            have HLI := Lib.hid (HLN.out i hlt)
            generalize qs[i]! = q at hc HMI HLI
            obtain ⟨⟨u, age, ad, bs, d, p⟩, ⟨xa, xn, xc⟩⟩ := q
            have c0 : wr.cell? ⟨b, o + i * 6, none⟩ = some (.bool u) := hc 0 _ rfl
            have c1 : wr.cell? ⟨b, o + i * 6 + 1, none⟩ = some (.int .i64 age) := hc 1 _ rfl
            have c2 : wr.cell? ⟨b, o + i * 6 + 2, none⟩ = some (.int .i64 ad) := hc 2 _ rfl
            have c3 : wr.cell? ⟨b, o + i * 6 + 3, none⟩ = some (.slice xa xn xc) := hc 3 _ rfl
            have c4 : wr.cell? ⟨b, o + i * 6 + 4, none⟩ = some (.bool d) := hc 4 _ rfl
            have c5 : wr.cell? ⟨b, o + i * 6 + 5, none⟩ = some (.bool p) := hc 5 _ rfl
            have n1 : (b = wr.heap.size) = False := eq_false (by omega)
            have n2 : (wr.heap.size = b) = False := eq_false (by omega)
            clear hc
            have hli : (i : Int) < qs.length := by omega
            go_upto_region 8 with fail
            clear c0 c1 c2 c3 c4 c5 n1 n2
            generalize hwb : wr.alloc _ = w2
            replace H := HS.eqW hwb H.alloc
            try simp only [World.size_alloc, List.nil_append, List.cons_append, List.append_assoc] at H
            clear hwb
            generalize wr.heap.size = bx at H ⊢
            try clear C
            try clear wr
            have C := H.cells
            try simp only [cellsOf, cellsM, apartOf, apartM, and_true] at C
            by_cases hij : i < j
            · have hiji : (i : Int) < j := by omega
              have hmin : min i j = i := by omega
              have hmin2 : min (i + 1) j = i + 1 := by omega
              rw [hmin] at HS1 HS2
              have HSB := Lib.hid (show slotB sets size set m i = (decide (0 ≤ age) && decide (age < (j : Int)) && decide (age ∉ (m.take i).map (·.age)) && decide (ad ∉ (m.take i).map (·.ln.ad)) && lineB size ⟨ad, bs, d, p⟩ && decide (ad % sets = set)) by
                unfold slotB
                rw [if_pos (by rw [HUN.out]; exact hij), HUN.out, HMI.out])
              have HP1 := Lib.hid (show (m.take (i + 1)).map (·.age) = (m.take i).map (·.age) ++ [age] by rw [take_snoc (by rw [HML.out]; exact hlt), HMI.out])
              have HP2 := Lib.hid (show (m.take (i + 1)).map (·.ln.ad) = (m.take i).map (·.ln.ad) ++ [ad] by rw [take_snoc (by rw [HML.out]; exact hlt), HMI.out])
              generalize (m.take i).map (·.age) = S1 at HS1 HSB HP1
              generalize (m.take i).map (·.ln.ad) = S2 at HS2 HSB HP2
              clear hmin
              have HM2 := Lib.hid hmin2
              clear hmin2
              have HLV2 := Lib.hid (fun w => (show Calls Try.prog 44 #[.int .i64 size, .agg #[.int .i64 ad, .slice xa xn xc, .bool d, .bool p]] w (Gives (.bool (lineB size ⟨ad, bs, d, p⟩)) w) from HLV.out size ⟨ad, bs, d, p⟩ ⟨xa, xn, xc⟩ HLI.out w))
              skip
              by_cases hA : 0 ≤ age
              · have hA2 : ¬ age < 0 := by omega
                by_cases hB : age < j
                · have hB2 : ¬ (j : Int) ≤ age := by omega
                  by_cases hC : age ∈ S1
                  · have HA := Lib.hid (decide_eq_true hC)
                    have HNO := Lib.hid (rightB_no (show i < m.length by rw [HML.out]; exact hlt) (show slotB sets size set m i = false by rw [HSB.out]; simp [hC]))
                    clear hC
                    skip
                    go_wp2_with (at_lookup; first | refine wpList_lookup_any (by rfl) (.tmp 50) (.tmp 52) rfl HT HK HE H 1 rfl HS1.out rfl rfl HA.out ?_)
                    go_ret
                    exact ⟨by rw [HNO.out]; rfl, H.done⟩
                  · have HA := Lib.hid (decide_eq_false hC)
                    have HN1 := Lib.hid hC
                    clear hC
                    by_cases hD : ad ∈ S2
                    · have HB := Lib.hid (decide_eq_true hD)
                      have HNO := Lib.hid (rightB_no (show i < m.length by rw [HML.out]; exact hlt) (show slotB sets size set m i = false by rw [HSB.out]; simp [hD]))
                      clear hD
                      skip
                      go_wp2_with (at_lookup; first | refine wpList_lookup_any (by rfl) (.tmp 50) (.tmp 52) rfl HT HK HE H 1 rfl HS1.out rfl rfl HA.out ?_ | refine wpList_lookup_any (by rfl) (.tmp 56) (.tmp 59) rfl HT HK HE H 2 rfl HS2.out rfl rfl HB.out ?_)
                      go_ret
                      exact ⟨by rw [HNO.out]; rfl, H.done⟩
                    · have HB := Lib.hid (decide_eq_false hD)
                      have HN2 := Lib.hid hD
                      clear hD
                      cases hE : lineB size ⟨ad, bs, d, p⟩
                      case false =>
                        rw [hE] at HLV2
                        have HNO := Lib.hid (rightB_no (show i < m.length by rw [HML.out]; exact hlt) (show slotB sets size set m i = false by rw [HSB.out]; rw [hE]; simp))
                        clear hE
                        skip
                        go_wp2_with (at_lookup; first | refine wpList_lookup_any (by rfl) (.tmp 50) (.tmp 52) rfl HT HK HE H 1 rfl HS1.out rfl rfl HA.out ?_ | refine wpList_lookup_any (by rfl) (.tmp 56) (.tmp 59) rfl HT HK HE H 2 rfl HS2.out rfl rfl HB.out ?_)
                        refine (HLV2.out _).mono ?_
                        rintro _ w3 ⟨rfl, hb⟩
                        replace H := H.below hb
                        clear hb
                        try clear C
                        try simp only [World.size_alloc, List.nil_append, List.cons_append, List.append_assoc] at H
                        try clear w2
                        have C := H.cells
                        try simp only [cellsOf, cellsM, apartOf, apartM, and_true] at C
                        dsimp only
                        go_wp2_with fail
                        go_ret
                        exact ⟨by rw [HNO.out]; rfl, H.done⟩
                      case true =>
                        rw [hE] at HLV2
                        have hle := of_decide_eq_true hE
                        have had0 : 0 ≤ ad := hle.2.2.2.1
                        have had1 : ad < 1048576 := hle.2.2.2.2
                        clear hle
                        obtain ⟨r, hr⟩ : ∃ r, r = ad % sets := ⟨_, rfl⟩
                        have hr0 : 0 ≤ r := by rw [hr]; exact Int.emod_nonneg _ (by omega)
                        have hr1 : r < sets := by rw [hr]; exact Int.emod_lt_of_pos _ (by omega)
                        have htm : ad.tmod sets = r := by rw [hr]; exact Int.tmod_eq_emod_of_nonneg had0
                        have hrw : IntKind.i64.wrap r = r := IntWalk.i64_in _ (by omega)
                        have hs0 : ¬ sets = 0 := by omega
                        have hs0b : (sets == 0) = false := beq_eq_false_iff_ne.2 hs0
                        by_cases hF : r = (set : Int)
                        · have hFb : (r != (set : Int)) = false := by rw [hF]; simp
                          have HOK := Lib.hid (show slotB sets size set m i = true by
                            rw [HSB.out]; simp [hA, hB, HN1.out, HN2.out, hE, ← hr, hF])
                          have HIN := Lib.hid (show ∀ e1' e2', SetM e1' (S1 ++ [age]) → SetM e2' (S2 ++ [ad]) → SetM e1' ((m.take (min (i + 1) j)).map (·.age)) ∧ SetM e2' ((m.take (min (i + 1) j)).map (·.ln.ad)) from fun _ _ h1 h2 => by rw [HM2.out, HP1.out, HP2.out]; exact ⟨h1, h2⟩)
                          clear hE hF hr
                          skip
                          go_wp2_with (at_lookup; first | refine wpList_lookup_any (by rfl) (.tmp 50) (.tmp 52) rfl HT HK HE H 1 rfl HS1.out rfl rfl HA.out ?_ | refine wpList_lookup_any (by rfl) (.tmp 56) (.tmp 59) rfl HT HK HE H 2 rfl HS2.out rfl rfl HB.out ?_)
                          refine (HLV2.out _).mono ?_
                          rintro _ w4 ⟨rfl, hb⟩
                          replace H := H.below hb
                          clear hb
                          try clear C
                          try simp only [World.size_alloc, List.nil_append, List.cons_append, List.append_assoc] at H
                          try clear w2
                          have C := H.cells
                          try simp only [cellsOf, cellsM, apartOf, apartM, and_true] at C
                          dsimp only
                          go_upto_region 13 with fail
                          clear HLV2 hs0b hs0 hrw htm hr0 hr1 hFb
                          obtain ⟨U1, x1, y1, r1, hx1, J1⟩ := HS.updSet HT HK H.drew 1 rfl HS1.out HN1.out
                          obtain ⟨U2, x2, y2, r2, hx2, J2⟩ := HS.updSet HT HK H.drew 2 rfl HS2.out HN2.out
                          simp only [List.set_cons_succ, List.set_cons_zero] at J1 J2
                          obtain ⟨U12, x3, y3, r12, hx3, J12⟩ := HS.updSet HT HK J1 2 rfl HS2.out HN2.out
                          obtain ⟨U21, x4, y4, r21, hx4, J21⟩ := HS.updSet HT HK J2 1 rfl HS1.out HN1.out
                          simp only [List.set_cons_succ, List.set_cons_zero] at J12 J21
                          have C1 := J1.cells
                          have C2 := J2.cells
                          simp only [cellsOf, cellsM, apartOf, apartM, and_true] at C1 C2
                          have HOK2 := Lib.hid (show ∀ t, t < i + 1 → slotB sets size set m t = true from fun t ht => by
                            by_cases e : t = i
                            · rw [e]; exact HOK.out
                            · exact HSA.out t (by omega))
                          go_region
                          all_goals go_wp2_with fail
                          all_goals go_roundw
                          all_goals first
                            | (simp [intOf]; omega; done)
                            | exact ⟨i + 1, _, _, _, _, by go_num, by omega, (HIN.out _ _ hx1.out hx3.out).1, (HIN.out _ _ hx1.out hx3.out).2, HOK2, HS.less J12 (by repeat (first | exact .slnil | refine .cons_cons _ ?_ | refine .cons _ ?_))⟩
                            | exact ⟨i + 1, _, _, _, _, by go_num, by omega, (HIN.out _ _ hx4.out hx2.out).1, (HIN.out _ _ hx4.out hx2.out).2, HOK2, HS.less J21 (by repeat (first | exact .slnil | refine .cons_cons _ ?_ | refine .cons _ ?_))⟩
                        · have hFb : (r != (set : Int)) = true := bne_iff_ne.2 hF
                          have HNO := Lib.hid (rightB_no (show i < m.length by rw [HML.out]; exact hlt) (show slotB sets size set m i = false by rw [HSB.out]; rw [← hr]; simp [hF]))
                          clear hE hF hr
                          skip
                          go_wp2_with (at_lookup; first | refine wpList_lookup_any (by rfl) (.tmp 50) (.tmp 52) rfl HT HK HE H 1 rfl HS1.out rfl rfl HA.out ?_ | refine wpList_lookup_any (by rfl) (.tmp 56) (.tmp 59) rfl HT HK HE H 2 rfl HS2.out rfl rfl HB.out ?_)
                          refine (HLV2.out _).mono ?_
                          rintro _ w5 ⟨rfl, hb⟩
                          replace H := H.below hb
                          clear hb
                          try clear C
                          try simp only [World.size_alloc, List.nil_append, List.cons_append, List.append_assoc] at H
                          try clear w2
                          have C := H.cells
                          try simp only [cellsOf, cellsM, apartOf, apartM, and_true] at C
                          dsimp only
                          go_wp2_with fail
                          go_ret
                          exact ⟨by rw [HNO.out]; rfl, H.done⟩
                · have hB2 : (j : Int) ≤ age := by omega
                  have HNO := Lib.hid (rightB_no (show i < m.length by rw [HML.out]; exact hlt) (show slotB sets size set m i = false by rw [HSB.out]; simp [hB]))
                  skip
                  go_wp2_with fail
                  go_ret
                  exact ⟨by rw [HNO.out]; rfl, H.done⟩
              · have hA2 : age < 0 := by omega
                have HNO := Lib.hid (rightB_no (show i < m.length by rw [HML.out]; exact hlt) (show slotB sets size set m i = false by rw [HSB.out]; simp [hA]))
                skip
                go_wp2_with fail
                go_ret
                exact ⟨by rw [HNO.out]; rfl, H.done⟩
            · have hji : (j : Int) ≤ i := by omega
              have HSB := Lib.hid (show slotB sets size set m i = emptyB ⟨u, age, ⟨ad, bs, d, p⟩⟩ by
                unfold slotB
                rw [if_neg (by rw [HUN.out]; exact hij), HMI.out])
              have HEM2 := Lib.hid (fun w => (show Calls Try.prog 54 #[.agg #[.bool u, .int .i64 age, .int .i64 ad, .slice xa xn xc, .bool d, .bool p]] w (Gives (.bool (emptyB ⟨u, age, ⟨ad, bs, d, p⟩⟩)) w) from HEM.out ⟨⟨u, age, ⟨ad, bs, d, p⟩⟩, ⟨xa, xn, xc⟩⟩ HLI.out w))
              have hmin : min i j = j := by omega
              have hmin2 : min (i + 1) j = j := by omega
              rw [hmin] at HS1 HS2
              have HM2 := Lib.hid hmin2
              clear hmin hmin2
              skip
              cases hE : emptyB ⟨u, age, ⟨ad, bs, d, p⟩⟩
              case false =>
                rw [hE] at HEM2
                have HNO := Lib.hid (rightB_no (show i < m.length by rw [HML.out]; exact hlt) (show slotB sets size set m i = false by rw [HSB.out]; exact hE))
                clear hE
                skip
                go_wp2_with fail
                refine (HEM2.out _).mono ?_
                rintro _ w6 ⟨rfl, hb⟩
                replace H := H.below hb
                clear hb
                try clear C
                try simp only [World.size_alloc, List.nil_append, List.cons_append, List.append_assoc] at H
                try clear w2
                have C := H.cells
                try simp only [cellsOf, cellsM, apartOf, apartM, and_true] at C
                dsimp only
                go_wp2_with fail
                go_ret
                exact ⟨by rw [HNO.out]; rfl, H.done⟩
              case true =>
                rw [hE] at HEM2
                have HOK := Lib.hid (HSB.out.trans hE)
                clear hE
                skip
                go_wp2_with fail
                refine (HEM2.out _).mono ?_
                rintro _ w7 ⟨rfl, hb⟩
                replace H := H.below hb
                clear hb
                try clear C
                try simp only [World.size_alloc, List.nil_append, List.cons_append, List.append_assoc] at H
                try clear w2
                have C := H.cells
                try simp only [cellsOf, cellsM, apartOf, apartM, and_true] at C
                dsimp only
                go_wp2_with fail
                go_roundw
                case rel => exact ⟨i + 1, e1, e2, k1, k2, by go_num, by omega, (show Hid _ by rw [HM2.out]; exact HS1.out), (show Hid _ by rw [HM2.out]; exact HS2.out), (show Hid _ from fun t ht => by
                  by_cases e : t = i
                  · rw [e]; exact HOK.out
                  · exact HSA.out t (by omega)), HS.less H (by repeat (first | exact .slnil | refine .cons_cons _ ?_ | refine .cons _ ?_))⟩
                case measure => simp [intOf]; omega
          · obtain rfl : i = qs.length := by omega
            skip
            go_wp2_with fail
            go_ret
            exact ⟨by rw [show rightB sets size set m = true from decide_eq_true (fun t ht => HSA.out t (by rw [← HML.out]; exact ht))]; rfl, H.done⟩
end Go.Proofs.Ytfmcicmbehjdcaa
