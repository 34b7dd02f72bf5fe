/- memfaultref31.Valid: the same caches are valid. -/
import Derived.Test.YtfmcicmbehjdcaaLrE
namespace Go.Proofs.Ytfmcicmbehjdcaa
set_option linter.unusedSimpArgs false
set_option linter.unusedVariables false
open Go.RowKit
set_option maxRecDepth 100000
attribute [local go_sem] run_mkMap
attribute [local irreducible] wpX wpF Calls

set_option maxHeartbeats 32000000 in
theorem r31valid_any (sets ways size : Int) (x : Sv) (qs : List Sw) (hx : x.n = qs.length) (hcap : CapOk x) (hlen : qs.length ≤ 1000000) (hln : ∀ j, j < qs.length → (qs[j]!).x.n = (qs[j]!).s.ln.bs.length) (w : World) (hl : Lies w w.heap.size x.sa 6 qs.length (fun j => swC qs[j]!)) :
    Calls Try.prog 18 #[caV sets ways size x] w (Gives (.bool (validB sets ways size (qs.map Sw.s))) w) := by
  obtain ⟨sa, n, c⟩ := x
  dsimp only at hx hl
  subst hx
  have HT : Try.prog.underlying 65 = some (.map 3 4) := by kernel_rfl
  have HK : Try.prog.underlying 3 = some (.int .i64) := by kernel_rfl
  have HE : ∀ w, (zeroValue 4).run Try.prog w = .ok (.bool false) w := fun w => by rfl
  have HL := Lib.hid hl
  have HLN := Lib.hid hln
  have HCP := Lib.hid (show qs.length ≤ c from hcap.1)
  clear hl hln hcap
  show Calls Try.prog 18 #[.agg #[.int .i64 sets, .int .i64 ways, .int .i64 size, .slice sa qs.length c]] w _
  by_cases h1 : 1 ≤ sets
  · skip
    by_cases h2 : sets ≤ 8
    · skip
      by_cases h3 : 1 ≤ ways
      · skip
        by_cases h4 : ways ≤ 4
        · skip
          by_cases h5 : 1 ≤ size
          · skip
            by_cases h6 : size ≤ 32
            · skip
              have HSB := Lib.hid (show sizedB sets ways size = true from decide_eq_true (by omega))
              obtain ⟨S, rfl⟩ : ∃ S : Nat, sets = S := ⟨sets.toNat, by omega⟩
              obtain ⟨W, rfl⟩ : ∃ W : Nat, ways = W := ⟨ways.toNat, by omega⟩
              obtain ⟨N, hN⟩ : ∃ N, N = S * W := ⟨_, rfl⟩
              have hSW : (S : Int) * W = N := by rw [hN]; push_cast; rfl
              have hN32 : N ≤ 32 := by rw [hN]; exact Nat.le_trans (Nat.mul_le_mul (show S ≤ 8 by omega) (show W ≤ 4 by omega)) (by omega)
              have hwr : IntKind.i64.wrap ((S : Int) * W) = N := by rw [hSW]; exact IntWalk.i64_in _ (by omega)
              have HNN := Lib.hid hN
              have HSW := Lib.hid hSW
              clear hN hSW
              have hS1 : 1 ≤ S := by omega
              have hS8 : S ≤ 8 := by omega
              have hW1 : 1 ≤ W := by omega
              have hW4 : W ≤ 4 := by omega
              by_cases hnl : qs.length = N
              · have hnb : ((qs.length : Int) != (N : Int)) = false := by rw [hnl]; simp
                have HNL := Lib.hid hnl
                have hpos : 0 < qs.length := by
                  rw [hnl, HNN.out]; exact Nat.mul_pos (by omega) (by omega)
                clear hnl
                obtain ⟨b, o, rfl, hbw, -⟩ := HL.out.at hpos
                clear hbw
                go_enter Try.func18, Try.ntmps18
                have H := HS.start NoD w
                go_upto_region 1 with fail
                generalize hwb : w.alloc _ = w1
                replace H := HS.eqW hwb H.alloc
                try simp only [World.size_alloc, List.nil_append, List.cons_append, List.append_assoc] at H
                clear hwb
                generalize w.heap.size = bX at H ⊢
                try clear C
                have C := H.cells
                try simp only [cellsOf, cellsM, apartOf, apartM, and_true] at C
                go_wp2_with fail
                go_loopw [50] (fun cc wr => ∃ i : Nat, cc = .int .i64 i ∧ i ≤ S ∧ Hid (∀ t, t < i → rightB S size t (setOf W (qs.map Sw.s) t) = true) ∧ HS NoD w [.blk bX #[.int .i64 S, .int .i64 W, .int .i64 size, .slice (some ⟨b, o, none⟩) qs.length c] 24] wr) (fun cc _ => S - (intOf cc).toNat)
                case atStart => exact ⟨0, rfl, Nat.zero_le _, (show Hid _ from fun t ht => absurd ht (Nat.not_lt_zero _)), H⟩
                case round =>
                  clear H C
                  obtain ⟨i, rfl, hi, HRA, H⟩ := hrel
                  skip
                  try clear C
                  try simp only [World.size_alloc, List.nil_append, List.cons_append, List.append_assoc] at H
                  have C := H.cells
                  try simp only [cellsOf, cellsM, apartOf, apartM, and_true] at C
                  by_cases hlt : i < S
                  · have hli : (i : Int) < S := by omega
                    have hin := set_in hlt HNN.out
                    rw [← HNL.out] at hin
                    obtain ⟨lo, hlo⟩ : ∃ lo, lo = i * W := ⟨_, rfl⟩
                    have hlw : (i : Int) * W = lo := by rw [hlo]; push_cast; rfl
                    have hhw : ((i : Int) + 1) * W = ((lo + W : Nat) : Int) := by rw [Int.add_mul, Int.one_mul, hlw]; push_cast; rfl
                    rw [← hlo] at hin
                    have hcc := HCP.out
                    have hw1 : IntKind.i64.wrap ((i : Int) * W) = lo := by rw [hlw]; exact IntWalk.i64_in _ (by omega)
                    obtain ⟨hi2, hie⟩ : ∃ h, h = lo + W := ⟨_, rfl⟩
                    have hw2 : IntKind.i64.wrap (((i : Int) + 1) * W) = hi2 := by rw [hhw, hie]; exact IntWalk.i64_in _ (by omega)
                    have hd1 : hi2 - lo = W := by omega
                    have hd2 : (hi2 : Int) ≤ c := by omega
                    have hd3 : lo ≤ hi2 := by omega
                    have hd4 : (c = lo) = False := eq_false (by omega)
                    have HIE := Lib.hid hie
                    have HLO := Lib.hid hlo
                    have HL2 := Lib.hid (fun w (hl : Lies w w.heap.size (some ⟨b, o, none⟩) 6 qs.length (fun j => swC qs[j]!)) => hl.sub (lo := lo) (m := W) hin)
                    obtain ⟨m, hm⟩ : ∃ m, m = setOf W (qs.map Sw.s) i := ⟨_, rfl⟩
                    have HML := Lib.hid (show m.length = W by rw [hm, setOf_len (by rw [List.length_map, ← hlo]; exact hin)])
                    have HMQ := Lib.hid (show ∀ t, t < W → m[t]! = (qs[lo + t]!).s from fun t ht => by
                      rw [hm, setOf_get (by rw [List.length_map, ← hlo]; exact hin) ht, ← hlo, map_get _ _ _ (by omega)])
                    have HLI0 := Lib.hid (show ∀ t, t < W → (qs[lo + t]!).x.n = (qs[lo + t]!).s.ln.bs.length from fun t ht => HLN.out _ (by omega))
                    have HBAD := Lib.hid (show rightB S size i m = false → validB S W size (qs.map Sw.s) = false from fun hr => by
                      unfold validB
                      have hne : ¬ ∀ s, s < (S : Int).toNat → rightB S size s (setOf (W : Int).toNat (qs.map Sw.s) s) = true := fun hh => by
                        have h1 := hh i (by simpa using hlt)
                        simp only [Int.toNat_natCast] at h1
                        rw [← hm, hr] at h1
                        cases h1
                      rw [decide_eq_false hne, Bool.and_false])
                    have HGOOD := Lib.hid (show rightB S size i m = true → ∀ t, t < i + 1 → rightB S size t (setOf W (qs.map Sw.s) t) = true from fun hr t ht => by
                      by_cases e : t = i
                      · rw [e, ← hm]; exact hr
                      · exact HRA.out t (by omega))
                    clear hlo hlw hhw hie hm HRA
                    go_wp2_with fail
                    go_loopw [4] (fun jj wr => ∃ j : Nat, jj = .int .i64 j ∧ j ≤ W ∧ Hid (∀ i, i < j → (m[i]!).u = true) ∧ HS NoD w [.blk bX #[.int .i64 S, .int .i64 W, .int .i64 size, .slice (some ⟨b, o, none⟩) qs.length c] 24] wr) (fun jj _ => W - (intOf jj).toNat)
                    case atStart => exact ⟨0, rfl, Nat.zero_le _, (show Hid _ from fun i hi => absurd hi (Nat.not_lt_zero _)), H⟩
                    case round =>
                      clear H C
                      obtain ⟨j, rfl, hj, HU, H⟩ := hrel
                      skip
                      try clear C
                      try simp only [World.size_alloc, List.nil_append, List.cons_append, List.append_assoc] at H
                      have C := H.cells
                      try simp only [cellsOf, cellsM, apartOf, apartM, and_true] at C
                      go_upto_region 7 with fail
                      go_cut [69] from 53 to 71 (fun vv wx => ∃ bb : Bool, vv = .bool bb ∧ Hid (bb = true → j < W ∧ (m[j]!).u = true) ∧ Hid (bb = false → j = W ∨ (j < W ∧ (m[j]!).u = false)) ∧ HS NoD w [.blk bX #[.int .i64 S, .int .i64 W, .int .i64 size, .slice (some ⟨b, o, none⟩) qs.length c] 24] wx)
                      case first =>
                        by_cases hltj : j < W
                        · have hltji : (j : Int) < W := by omega
                          obtain ⟨e, he⟩ : ∃ e, e = lo + j := ⟨_, rfl⟩
                          have hew : IntKind.i64.wrap ((lo : Int) + j) = e := by rw [he]; push_cast; exact IntWalk.i64_in _ (by omega)
                          have hen : e < qs.length := by omega
                          have heni : (e : Int) < qs.length := by omega
                          obtain ⟨b', o', e9, hb, hc⟩ := (H.liesUp HL.out).at hen
                          obtain ⟨rfl, rfl⟩ : b = b' ∧ o = o' := by simpa using e9
                          clear e9
                          have hmj := HMQ.out j hltj
                          rw [← he] at hmj
                          obtain ⟨q, hqj⟩ : ∃ q, q = qs[e]! := ⟨_, rfl⟩
                          rw [← hqj] at hc hmj
                          have k0 : wr.cell? ⟨b, o + e * 6, none⟩ = some (.bool q.s.u) := hc 0 _ rfl
                          have HMJ := Lib.hid hmj
                          clear hc hmj hqj he
                          cases hu : q.s.u
                          case true =>
                            rw [hu] at k0
                            have HUQ := Lib.hid hu
                            clear hu
                            go_wp2_with fail
                            go_meet
                            case rel => exact ⟨true, rfl, (show Hid _ from fun _ => ⟨hltj, by rw [HMJ.out]; exact HUQ.out⟩), (show Hid _ from fun e => by cases e), H⟩
                          case false =>
                            rw [hu] at k0
                            have HUQ := Lib.hid hu
                            clear hu
                            go_wp2_with fail
                            go_meet
                            case rel => exact ⟨false, rfl, (show Hid _ from fun e => by cases e), (show Hid _ from fun _ => .inr ⟨hltj, by rw [HMJ.out]; exact HUQ.out⟩), H⟩
                        · have hltji : ¬ (j : Int) < W := by omega
                          go_wp2_with fail
                          go_meet
                          case rel => exact ⟨false, rfl, (show Hid _ from fun e => by cases e), (show Hid _ from fun _ => .inl (by omega)), H⟩
                      case rest =>
                        clear H C
                        obtain ⟨bb, rfl, HT1, HF1, H⟩ := hcut
                        skip
                        try clear C
                        try simp only [World.size_alloc, List.nil_append, List.cons_append, List.append_assoc] at H
                        have C := H.cells
                        try simp only [cellsOf, cellsM, apartOf, apartM, and_true] at C
                        cases bb
                        case true =>
                          have hltj := (HT1.out rfl).1
                          go_wp2_with fail
                          go_roundw
                          case rel => exact ⟨j + 1, by go_num, by omega, (show Hid _ from fun i hi => by
                            by_cases e : i = j
                            · rw [e]; exact (HT1.out rfl).2
                            · exact HU.out i (by omega)), H⟩
                          case measure => simp [intOf]; omega
                        case false =>
                          have HUN := Lib.hid (usedN_eq (m := m) (j := j) (by rw [HML.out]; exact hj) HU.out (by rw [HML.out]; exact HF1.out rfl))
                          clear HU HT1 HF1
                          go_upto_region 10 with fail
                          generalize hwb : wc.alloc _ = wm
                          replace H := HS.eqW hwb H.allocObj
                          try simp only [World.size_alloc, List.nil_append, List.cons_append, List.append_assoc] at H
                          clear hwb C
                          generalize wc.heap.size = b1 at H ⊢
                          clear wc
                          skip
                          try clear C
                          try simp only [World.size_alloc, List.nil_append, List.cons_append, List.append_assoc] at H
                          have C := H.cells
                          try simp only [cellsOf, cellsM, apartOf, apartM, and_true] at C
                          go_upto_region 11 with fail
                          generalize hwb : wm.alloc _ = wn
                          replace H := HS.eqW hwb H.allocObj
                          try simp only [World.size_alloc, List.nil_append, List.cons_append, List.append_assoc] at H
                          clear hwb C
                          generalize wm.heap.size = b2 at H ⊢
                          clear wm
                          skip
                          try clear C
                          try simp only [World.size_alloc, List.nil_append, List.cons_append, List.append_assoc] at H
                          have C := H.cells
                          try simp only [cellsOf, cellsM, apartOf, apartM, and_true] at C
                          go_wp2_with fail
                          go_loopw [87] (fun cc wr => ∃ (t : Nat) (e1 e2 : Array MapEntry) (k1 k2 : Nat), cc = .int .i64 t ∧ t ≤ W ∧ Hid (SetM e1 ((m.take (min t j)).map (·.age))) ∧ Hid (SetM e2 ((m.take (min t j)).map (·.ln.ad))) ∧ Hid (∀ s, s < t → slotB S size i m s = true) ∧ HS NoD w [.blk bX #[.int .i64 S, .int .i64 W, .int .i64 size, .slice (some ⟨b, o, none⟩) qs.length c] 24, .obj b1 (.map e1 k1), .obj b2 (.map e2 k2)] wr) (fun cc _ => W - (intOf cc).toNat)
                          case atStart => exact ⟨0, #[], #[], 0, 0, rfl, Nat.zero_le _, (show Hid _ by rw [Nat.zero_min, List.take_zero]; exact SetM.nil), (show Hid _ by rw [Nat.zero_min, List.take_zero]; exact SetM.nil), (show Hid _ from fun i hi => absurd hi (Nat.not_lt_zero _)), H⟩
                          case round =>
                            clear H C
                            obtain ⟨t, e1, e2, k1, k2, rfl, ht, HS1, HS2, HSA, H⟩ := hrel
                            skip
                            try clear C
                            try simp only [World.size_alloc, List.nil_append, List.cons_append, List.append_assoc] at H
                            have C := H.cells
                            try simp only [cellsOf, cellsM, apartOf, apartM, and_true] at C
                            by_cases hlt2 : t < W
                            · obtain ⟨b', o', e9, hb, hc⟩ := (HL2.out _ (H.liesUp HL.out)).at hlt2
                              obtain ⟨rfl, rfl⟩ : b = b' ∧ o + lo * 6 = o' := by simpa using e9
                              clear e9
                              replace hc : ∀ i u, (swC qs[lo + t]!)[i]? = some u → wr.cell? ⟨b, o + lo * 6 + t * 6 + i, none⟩ = some u := hc
                              have HMI := Lib.hid (HMQ.out t hlt2)
                              have HLI := Lib.hid (HLI0.out t hlt2)
                              generalize qs[lo + t]! = q at hc HMI HLI
                              obtain ⟨⟨u, age, ad, bs, d, p⟩, ⟨xa, xn, xc⟩⟩ := q
                              obtain ⟨o2, ho2⟩ : ∃ o2, o2 = o + lo * 6 := ⟨_, rfl⟩
                              have c0 : wr.cell? ⟨b, o + lo * 6 + t * 6, none⟩ = some (.bool u) := hc 0 _ rfl
                              have c1 : wr.cell? ⟨b, o + lo * 6 + t * 6 + 1, none⟩ = some (.int .i64 age) := hc 1 _ rfl
                              have c2 : wr.cell? ⟨b, o + lo * 6 + t * 6 + 2, none⟩ = some (.int .i64 ad) := hc 2 _ rfl
                              have c3 : wr.cell? ⟨b, o + lo * 6 + t * 6 + 3, none⟩ = some (.slice xa xn xc) := hc 3 _ rfl
                              have c4 : wr.cell? ⟨b, o + lo * 6 + t * 6 + 4, none⟩ = some (.bool d) := hc 4 _ rfl
                              have c5 : wr.cell? ⟨b, o + lo * 6 + t * 6 + 5, none⟩ = some (.bool p) := hc 5 _ rfl
                              clear ho2
                              have n1 : (b = wr.heap.size) = False := eq_false (by omega)
                              have n2 : (wr.heap.size = b) = False := eq_false (by omega)
                              clear hc
                              have hli2 : (t : Int) < W := by omega
                              go_upto_region 14 with fail
                              clear c0 c1 c2 c3 c4 c5 n1 n2
                              generalize hwb : wr.alloc _ = w2
                              replace H := HS.eqW hwb H.alloc
                              try simp only [World.size_alloc, List.nil_append, List.cons_append, List.append_assoc] at H
                              clear hwb
                              generalize wr.heap.size = bx at H ⊢
                              try clear C
                              try clear wr
                              have C := H.cells
                              try simp only [cellsOf, cellsM, apartOf, apartM, and_true] at C
                              by_cases hij : t < j
                              · have hiji : (t : Int) < j := by omega
                                have hmin : min t j = t := by omega
                                have hmin2 : min (t + 1) j = t + 1 := by omega
                                rw [hmin] at HS1 HS2
                                have HSB := Lib.hid (show slotB S size i m t = (decide (0 ≤ age) && decide (age < (j : Int)) && decide (age ∉ (m.take t).map (·.age)) && decide (ad ∉ (m.take t).map (·.ln.ad)) && lineB size ⟨ad, bs, d, p⟩ && decide (ad % (S : Int) = i)) by
                                  unfold slotB
                                  rw [if_pos (by rw [HUN.out]; exact hij), HUN.out, HMI.out])
                                have HP1 := Lib.hid (show (m.take (t + 1)).map (·.age) = (m.take t).map (·.age) ++ [age] by rw [take_snoc (by rw [HML.out]; exact hlt2), HMI.out])
                                have HP2 := Lib.hid (show (m.take (t + 1)).map (·.ln.ad) = (m.take t).map (·.ln.ad) ++ [ad] by rw [take_snoc (by rw [HML.out]; exact hlt2), HMI.out])
                                generalize (m.take t).map (·.age) = S1 at HS1 HSB HP1
                                generalize (m.take t).map (·.ln.ad) = S2 at HS2 HSB HP2
                                clear hmin
                                have HM2 := Lib.hid hmin2
                                clear hmin2
                                have HLV2 := Lib.hid (fun w => (show Calls Try.prog 37 #[.int .i64 size, .agg #[.int .i64 ad, .slice xa xn xc, .bool d, .bool p]] w (Gives (.bool (lineB size ⟨ad, bs, d, p⟩)) w) from l30valid_any size ⟨ad, bs, d, p⟩ ⟨xa, xn, xc⟩ HLI.out w))
                                skip
                                by_cases hA : 0 ≤ age
                                · have hA2 : ¬ age < 0 := by omega
                                  by_cases hB : age < j
                                  · have hB2 : ¬ (j : Int) ≤ age := by omega
                                    by_cases hC : age ∈ S1
                                    · have HA := Lib.hid (decide_eq_true hC)
                                      have HNO := Lib.hid (HBAD.out (rightB_no (show t < m.length by rw [HML.out]; exact hlt2) (show slotB S size i m t = false by rw [HSB.out]; simp [hC])))
                                      clear hC
                                      skip
                                      go_wp2_with (at_lookup; first | refine wpList_lookup_any (by rfl) (.tmp 108) (.tmp 110) rfl HT HK HE H 1 rfl HS1.out rfl rfl HA.out ?_)
                                      go_ret
                                      exact ⟨by rw [HNO.out]; rfl, H.done⟩
                                    · have HA := Lib.hid (decide_eq_false hC)
                                      have HN1 := Lib.hid hC
                                      clear hC
                                      cases hE : lineB size ⟨ad, bs, d, p⟩
                                      case false =>
                                        rw [hE] at HLV2
                                        have HNO := Lib.hid (HBAD.out (rightB_no (show t < m.length by rw [HML.out]; exact hlt2) (show slotB S size i m t = false by rw [HSB.out]; rw [hE]; simp)))
                                        clear hE
                                        skip
                                        go_wp2_with (at_lookup; first | refine wpList_lookup_any (by rfl) (.tmp 108) (.tmp 110) rfl HT HK HE H 1 rfl HS1.out rfl rfl HA.out ?_)
                                        refine (HLV2.out _).mono ?_
                                        rintro _ w3 ⟨rfl, hb⟩
                                        replace H := H.below hb
                                        clear hb
                                        try clear C
                                        try simp only [World.size_alloc, List.nil_append, List.cons_append, List.append_assoc] at H
                                        try clear w2
                                        have C := H.cells
                                        try simp only [cellsOf, cellsM, apartOf, apartM, and_true] at C
                                        dsimp only
                                        go_wp2_with fail
                                        go_ret
                                        exact ⟨by rw [HNO.out]; rfl, H.done⟩
                                      case true =>
                                        rw [hE] at HLV2
                                        have hle := of_decide_eq_true hE
                                        have had0 : 0 ≤ ad := hle.2.2.2.1
                                        have had1 : ad < 1048576 := hle.2.2.2.2
                                        clear hle
                                        obtain ⟨r, hr⟩ : ∃ r, r = ad % (S : Int) := ⟨_, rfl⟩
                                        have hr0 : 0 ≤ r := by rw [hr]; exact Int.emod_nonneg _ (by omega)
                                        have hr1 : r < S := by rw [hr]; exact Int.emod_lt_of_pos _ (by omega)
                                        have htm : ad.tmod S = r := by rw [hr]; exact Int.tmod_eq_emod_of_nonneg had0
                                        have hrw : IntKind.i64.wrap r = r := IntWalk.i64_in _ (by omega)
                                        have hs0 : ¬ S = 0 := by omega
                                        have hs0b : ((S : Int) == 0) = false := beq_eq_false_iff_ne.2 (by omega)
                                        by_cases hF : r = (i : Int)
                                        · have hFb : (r != (i : Int)) = false := by rw [hF]; simp
                                          by_cases hD : ad ∈ S2
                                          · have HB := Lib.hid (decide_eq_true hD)
                                            have HNO := Lib.hid (HBAD.out (rightB_no (show t < m.length by rw [HML.out]; exact hlt2) (show slotB S size i m t = false by rw [HSB.out]; simp [hD])))
                                            clear hD hE hF hr
                                            skip
                                            go_wp2_with (at_lookup; first | refine wpList_lookup_any (by rfl) (.tmp 108) (.tmp 110) rfl HT HK HE H 1 rfl HS1.out rfl rfl HA.out ?_)
                                            refine (HLV2.out _).mono ?_
                                            rintro _ w4 ⟨rfl, hb⟩
                                            replace H := H.below hb
                                            clear hb
                                            try clear C
                                            try simp only [World.size_alloc, List.nil_append, List.cons_append, List.append_assoc] at H
                                            try clear w2
                                            have C := H.cells
                                            try simp only [cellsOf, cellsM, apartOf, apartM, and_true] at C
                                            dsimp only
                                            go_wp2_with (at_lookup; first | refine wpList_lookup_any (by rfl) (.tmp 132) (.tmp 135) rfl HT HK HE H 2 rfl HS2.out rfl rfl HB.out ?_)
                                            go_ret
                                            exact ⟨by rw [HNO.out]; rfl, H.done⟩
                                          · have HB := Lib.hid (decide_eq_false hD)
                                            have HN2 := Lib.hid hD
                                            clear hD
                                            have HOK := Lib.hid (show slotB S size i m t = true by
                                              rw [HSB.out]; simp [hA, hB, HN1.out, HN2.out, hE, ← hr, hF])
                                            have HIN := Lib.hid (show ∀ e1' e2', SetM e1' (S1 ++ [age]) → SetM e2' (S2 ++ [ad]) → SetM e1' ((m.take (min (t + 1) j)).map (·.age)) ∧ SetM e2' ((m.take (min (t + 1) j)).map (·.ln.ad)) from fun _ _ h1 h2 => by rw [HM2.out, HP1.out, HP2.out]; exact ⟨h1, h2⟩)
                                            clear hE hF hr
                                            skip
                                            go_wp2_with (at_lookup; first | refine wpList_lookup_any (by rfl) (.tmp 108) (.tmp 110) rfl HT HK HE H 1 rfl HS1.out rfl rfl HA.out ?_)
                                            refine (HLV2.out _).mono ?_
                                            rintro _ w5 ⟨rfl, hb⟩
                                            replace H := H.below hb
                                            clear hb
                                            try clear C
                                            try simp only [World.size_alloc, List.nil_append, List.cons_append, List.append_assoc] at H
                                            try clear w2
                                            have C := H.cells
                                            try simp only [cellsOf, cellsM, apartOf, apartM, and_true] at C
                                            dsimp only
                                            go_upto_region 19 with (at_lookup; first | refine wpList_lookup_any (by rfl) (.tmp 132) (.tmp 135) rfl HT HK HE H 2 rfl HS2.out rfl rfl HB.out ?_)
                                            clear HLV2 hs0b hs0 hrw htm hr0 hr1 hFb
                                            obtain ⟨U1, x1, y1, r1, hx1, J1⟩ := HS.updSet HT HK H.drew 1 rfl HS1.out HN1.out
                                            obtain ⟨U2, x2, y2, r2, hx2, J2⟩ := HS.updSet HT HK H.drew 2 rfl HS2.out HN2.out
                                            simp only [List.set_cons_succ, List.set_cons_zero] at J1 J2
                                            obtain ⟨U12, x3, y3, r12, hx3, J12⟩ := HS.updSet HT HK J1 2 rfl HS2.out HN2.out
                                            obtain ⟨U21, x4, y4, r21, hx4, J21⟩ := HS.updSet HT HK J2 1 rfl HS1.out HN1.out
                                            simp only [List.set_cons_succ, List.set_cons_zero] at J12 J21
                                            have C1 := J1.cells
                                            have C2 := J2.cells
                                            simp only [cellsOf, cellsM, apartOf, apartM, and_true] at C1 C2
                                            have HOK2 := Lib.hid (show ∀ s, s < t + 1 → slotB S size i m s = true from fun s hs => by
                                              by_cases e : s = t
                                              · rw [e]; exact HOK.out
                                              · exact HSA.out s (by omega))
                                            go_region
                                            all_goals go_wp2_with fail
                                            all_goals go_roundw
                                            all_goals first
                                              | (simp [intOf]; omega; done)
                                              | exact ⟨t + 1, _, _, _, _, by go_num, by omega, (HIN.out _ _ hx1.out hx3.out).1, (HIN.out _ _ hx1.out hx3.out).2, HOK2, HS.less J12 (by repeat (first | exact .slnil | refine .cons_cons _ ?_ | refine .cons _ ?_))⟩
                                              | exact ⟨t + 1, _, _, _, _, by go_num, by omega, (HIN.out _ _ hx4.out hx2.out).1, (HIN.out _ _ hx4.out hx2.out).2, HOK2, HS.less J21 (by repeat (first | exact .slnil | refine .cons_cons _ ?_ | refine .cons _ ?_))⟩
                                        · have hFb : (r != (i : Int)) = true := bne_iff_ne.2 hF
                                          have HNO := Lib.hid (HBAD.out (rightB_no (show t < m.length by rw [HML.out]; exact hlt2) (show slotB S size i m t = false by rw [HSB.out]; rw [← hr]; simp [hF])))
                                          clear hE hF hr
                                          skip
                                          go_wp2_with (at_lookup; first | refine wpList_lookup_any (by rfl) (.tmp 108) (.tmp 110) rfl HT HK HE H 1 rfl HS1.out rfl rfl HA.out ?_)
                                          refine (HLV2.out _).mono ?_
                                          rintro _ w6 ⟨rfl, hb⟩
                                          replace H := H.below hb
                                          clear hb
                                          try clear C
                                          try simp only [World.size_alloc, List.nil_append, List.cons_append, List.append_assoc] at H
                                          try clear w2
                                          have C := H.cells
                                          try simp only [cellsOf, cellsM, apartOf, apartM, and_true] at C
                                          dsimp only
                                          go_wp2_with fail
                                          go_ret
                                          exact ⟨by rw [HNO.out]; rfl, H.done⟩
                                  · have hB2 : (j : Int) ≤ age := by omega
                                    have HNO := Lib.hid (HBAD.out (rightB_no (show t < m.length by rw [HML.out]; exact hlt2) (show slotB S size i m t = false by rw [HSB.out]; simp [hB])))
                                    skip
                                    go_wp2_with fail
                                    go_ret
                                    exact ⟨by rw [HNO.out]; rfl, H.done⟩
                                · have hA2 : age < 0 := by omega
                                  have HNO := Lib.hid (HBAD.out (rightB_no (show t < m.length by rw [HML.out]; exact hlt2) (show slotB S size i m t = false by rw [HSB.out]; simp [hA])))
                                  skip
                                  go_wp2_with fail
                                  go_ret
                                  exact ⟨by rw [HNO.out]; rfl, H.done⟩
                              · have hji : (j : Int) ≤ t := by omega
                                have HSB := Lib.hid (show slotB S size i m t = emptyB ⟨u, age, ⟨ad, bs, d, p⟩⟩ by
                                  unfold slotB
                                  rw [if_neg (by rw [HUN.out]; exact hij), HMI.out])
                                have HEM2 := Lib.hid (fun w => (show Calls Try.prog 36 #[.agg #[.bool u, .int .i64 age, .int .i64 ad, .slice xa xn xc, .bool d, .bool p]] w (Gives (.bool (emptyB ⟨u, age, ⟨ad, bs, d, p⟩⟩)) w) from r31empty_any ⟨⟨u, age, ⟨ad, bs, d, p⟩⟩, ⟨xa, xn, xc⟩⟩ HLI.out w))
                                have hmin : min t j = j := by omega
                                have hmin2 : min (t + 1) j = j := by omega
                                rw [hmin] at HS1 HS2
                                have HM2 := Lib.hid hmin2
                                clear hmin hmin2
                                skip
                                cases hE : emptyB ⟨u, age, ⟨ad, bs, d, p⟩⟩
                                case false =>
                                  rw [hE] at HEM2
                                  have HNO := Lib.hid (HBAD.out (rightB_no (show t < m.length by rw [HML.out]; exact hlt2) (show slotB S size i m t = false by rw [HSB.out]; exact hE)))
                                  clear hE
                                  skip
                                  go_wp2_with fail
                                  refine (HEM2.out _).mono ?_
                                  rintro _ w7 ⟨rfl, hb⟩
                                  replace H := H.below hb
                                  clear hb
                                  try clear C
                                  try simp only [World.size_alloc, List.nil_append, List.cons_append, List.append_assoc] at H
                                  try clear w2
                                  have C := H.cells
                                  try simp only [cellsOf, cellsM, apartOf, apartM, and_true] at C
                                  dsimp only
                                  go_wp2_with fail
                                  go_ret
                                  exact ⟨by rw [HNO.out]; rfl, H.done⟩
                                case true =>
                                  rw [hE] at HEM2
                                  have HOK := Lib.hid (HSB.out.trans hE)
                                  clear hE
                                  skip
                                  go_wp2_with fail
                                  refine (HEM2.out _).mono ?_
                                  rintro _ w8 ⟨rfl, hb⟩
                                  replace H := H.below hb
                                  clear hb
                                  try clear C
                                  try simp only [World.size_alloc, List.nil_append, List.cons_append, List.append_assoc] at H
                                  try clear w2
                                  have C := H.cells
                                  try simp only [cellsOf, cellsM, apartOf, apartM, and_true] at C
                                  dsimp only
                                  go_wp2_with fail
                                  go_roundw
                                  case rel => exact ⟨t + 1, e1, e2, k1, k2, by go_num, by omega, (show Hid _ by rw [HM2.out]; exact HS1.out), (show Hid _ by rw [HM2.out]; exact HS2.out), (show Hid _ from fun s hs => by
                                    by_cases e : s = t
                                    · rw [e]; exact HOK.out
                                    · exact HSA.out s (by omega)), HS.less H (by repeat (first | exact .slnil | refine .cons_cons _ ?_ | refine .cons _ ?_))⟩
                                  case measure => simp [intOf]; omega
                            · obtain rfl : t = W := by omega
                              have HG2 := Lib.hid (HGOOD.out (decide_eq_true (fun s hs => HSA.out s (by rw [← HML.out]; exact hs))))
                              skip
                              go_wp2_with fail
                              go_roundw
                              case rel => exact ⟨i + 1, by go_num, by omega, HG2, HS.less H (by repeat (first | exact .slnil | refine .cons_cons _ ?_ | refine .cons _ ?_))⟩
                              case measure => simp [intOf]; omega
                  · obtain rfl : i = S := by omega
                    have HYS := Lib.hid (show validB i W size (qs.map Sw.s) = true by
                      unfold validB
                      rw [HSB.out, List.length_map, HSW.out, HNL.out]
                      simp only [Int.toNat_natCast, decide_true, Bool.true_and]
                      exact decide_eq_true (fun t ht => HRA.out t ht))
                    skip
                    go_wp2_with fail
                    go_ret
                    exact ⟨by rw [HYS.out]; rfl, H.done⟩
              · have hnb : ((qs.length : Int) != (N : Int)) = true := bne_iff_ne.2 (by omega)
                have HNO := Lib.hid (show validB S W size (qs.map Sw.s) = false by
                  unfold validB
                  rw [List.length_map, HSW.out, decide_eq_false (show ¬ ((qs.length : Int) = N) by omega)]
                  simp)
                go_enter Try.func18, Try.ntmps18
                have H := HS.start NoD w
                go_upto_region 1 with fail
                generalize hwb : w.alloc _ = w1
                replace H := HS.eqW hwb H.alloc
                try simp only [World.size_alloc, List.nil_append, List.cons_append, List.append_assoc] at H
                clear hwb
                generalize w.heap.size = bX at H ⊢
                try clear C
                have C := H.cells
                try simp only [cellsOf, cellsM, apartOf, apartM, and_true] at C
                go_wp2_with fail
                go_ret
                exact ⟨by rw [HNO.out]; rfl, H.done⟩
            · skip
              have HNO := Lib.hid (show validB sets ways size (qs.map Sw.s) = false by
                unfold validB
                rw [show sizedB sets ways size = false from decide_eq_false (by omega)]
                simp)
              go_enter Try.func18, Try.ntmps18
              have H := HS.start NoD w
              go_upto_region 1 with fail
              generalize hwb : w.alloc _ = w1
              replace H := HS.eqW hwb H.alloc
              try simp only [World.size_alloc, List.nil_append, List.cons_append, List.append_assoc] at H
              clear hwb
              generalize w.heap.size = bX at H ⊢
              try clear C
              have C := H.cells
              try simp only [cellsOf, cellsM, apartOf, apartM, and_true] at C
              go_wp2_with fail
              go_ret
              exact ⟨by rw [HNO.out]; rfl, H.done⟩
          · skip
            have HNO := Lib.hid (show validB sets ways size (qs.map Sw.s) = false by
              unfold validB
              rw [show sizedB sets ways size = false from decide_eq_false (by omega)]
              simp)
            go_enter Try.func18, Try.ntmps18
            have H := HS.start NoD w
            go_upto_region 1 with fail
            generalize hwb : w.alloc _ = w1
            replace H := HS.eqW hwb H.alloc
            try simp only [World.size_alloc, List.nil_append, List.cons_append, List.append_assoc] at H
            clear hwb
            generalize w.heap.size = bX at H ⊢
            try clear C
            have C := H.cells
            try simp only [cellsOf, cellsM, apartOf, apartM, and_true] at C
            go_wp2_with fail
            go_ret
            exact ⟨by rw [HNO.out]; rfl, H.done⟩
        · skip
          have HNO := Lib.hid (show validB sets ways size (qs.map Sw.s) = false by
            unfold validB
            rw [show sizedB sets ways size = false from decide_eq_false (by omega)]
            simp)
          go_enter Try.func18, Try.ntmps18
          have H := HS.start NoD w
          go_upto_region 1 with fail
          generalize hwb : w.alloc _ = w1
          replace H := HS.eqW hwb H.alloc
          try simp only [World.size_alloc, List.nil_append, List.cons_append, List.append_assoc] at H
          clear hwb
          generalize w.heap.size = bX at H ⊢
          try clear C
          have C := H.cells
          try simp only [cellsOf, cellsM, apartOf, apartM, and_true] at C
          go_wp2_with fail
          go_ret
          exact ⟨by rw [HNO.out]; rfl, H.done⟩
      · skip
        have HNO := Lib.hid (show validB sets ways size (qs.map Sw.s) = false by
          unfold validB
          rw [show sizedB sets ways size = false from decide_eq_false (by omega)]
          simp)
        go_enter Try.func18, Try.ntmps18
        have H := HS.start NoD w
        go_upto_region 1 with fail
        generalize hwb : w.alloc _ = w1
        replace H := HS.eqW hwb H.alloc
        try simp only [World.size_alloc, List.nil_append, List.cons_append, List.append_assoc] at H
        clear hwb
        generalize w.heap.size = bX at H ⊢
        try clear C
        have C := H.cells
        try simp only [cellsOf, cellsM, apartOf, apartM, and_true] at C
        go_wp2_with fail
        go_ret
        exact ⟨by rw [HNO.out]; rfl, H.done⟩
    · skip
      have HNO := Lib.hid (show validB sets ways size (qs.map Sw.s) = false by
        unfold validB
        rw [show sizedB sets ways size = false from decide_eq_false (by omega)]
        simp)
      go_enter Try.func18, Try.ntmps18
      have H := HS.start NoD w
      go_upto_region 1 with fail
      generalize hwb : w.alloc _ = w1
      replace H := HS.eqW hwb H.alloc
      try simp only [World.size_alloc, List.nil_append, List.cons_append, List.append_assoc] at H
      clear hwb
      generalize w.heap.size = bX at H ⊢
      try clear C
      have C := H.cells
      try simp only [cellsOf, cellsM, apartOf, apartM, and_true] at C
      go_wp2_with fail
      go_ret
      exact ⟨by rw [HNO.out]; rfl, H.done⟩
  · skip
    have HNO := Lib.hid (show validB sets ways size (qs.map Sw.s) = false by
      unfold validB
      rw [show sizedB sets ways size = false from decide_eq_false (by omega)]
      simp)
    go_enter Try.func18, Try.ntmps18
    have H := HS.start NoD w
    go_upto_region 1 with fail
    generalize hwb : w.alloc _ = w1
    replace H := HS.eqW hwb H.alloc
    try simp only [World.size_alloc, List.nil_append, List.cons_append, List.append_assoc] at H
    clear hwb
    generalize w.heap.size = bX at H ⊢
    try clear C
    have C := H.cells
    try simp only [cellsOf, cellsM, apartOf, apartM, and_true] at C
    go_wp2_with fail
    go_ret
    exact ⟨by rw [HNO.out]; rfl, H.done⟩
end Go.Proofs.Ytfmcicmbehjdcaa
