/- memfaultref33.Decide, whatever the frames and programs. -/
import Derived.Test.YtmnddnlabdafcaaVal
import Derived.Test.YtmnddnlabdafcaaC7
namespace Go.Proofs.Ytmnddnlabdafcaa
set_option linter.unusedSimpArgs false
set_option linter.unusedVariables false
open Go.RowKit
set_option maxRecDepth 100000
attribute [local go_sem] lt_more ne_more ne_more'
attribute [local irreducible] wpX wpF Calls

set_option maxHeartbeats 32000000 in
theorem rdecide_any {F : List Fr} (hx : F.length ≤ 1000) {ps : List Pr} (hsm : SmallP ps) (hok : okB F ps = true) (f tq : Int) {sa : Option Addr} (c : Nat) {v : Value} (w : World) (hl : Lies w w.heap.size sa 2 F.length (fun j => frC F[j]!)) (hp : Ps w w.heap.size v ps) :
    Calls Try.prog 47 #[.slice sa F.length c, v, .int .i64 f, .int .i64 tq] w (GivesD (decP true F ps f tq) w) := by
  have hgg : GoodP F.length ps := by
    have hb' : (frB F && goodB F.length ps) = true := hok
    rw [Bool.and_eq_true] at hb'
    exact goodB_iff.1 hb'.2
  have HV := Lib.hid (right_gen hx hsm c w hl hp)
  rw [hok] at HV
  have HUS := Lib.hid (fun w h => rusers_any f hsm (v := v) w h)
  have hml := users_short hgg f
  have HL := Lib.hid hl
  have HPS := Lib.hid hp
  obtain ⟨us, hus⟩ : ∃ us, us = usersL ps f := ⟨_, rfl⟩
  have HUV := Lib.hid (show us.map (ddOf ps f) = vicP ps f by rw [hus]; rfl)
  rw [← hus] at HUS hml
  clear hus hgg hok
  obtain ⟨qs, hqs, ⟨sp, cp, rfl, hcp, hlp⟩, hip⟩ := hp
  have hx1 : qs.length ≤ 1000 := by have := hsm.1; rw [← hqs] at this; simpa using this
  have HQS := Lib.hid hqs
  have HI := Lib.hid hip
  have HLP := Lib.hid hlp
  clear hl hsm hqs hip hlp hcp
  by_cases hf0 : f < 0
  · rw [show decP true F ps f tq = (43, []) by unfold decP; rw [if_neg (by decide), if_pos (.inl hf0)]]
    go_enter Try.func47, Try.ntmps47
    have H := HS.start NoD w
    go_wp2_with fail
    refine (HV.out).mono ?_
    rintro _ w1 ⟨rfl, hb⟩
    replace H := H.below hb
    clear hb
    try clear C
    try simp only [World.size_alloc, List.nil_append, List.cons_append, List.append_assoc] at H
    have C := H.cells
    try simp only [cellsOf, cellsM, apartOf, apartM, and_true] at C
    dsimp only
    go_wp2_with fail
    refine bodyPost_ret (by simp [results, Try.results47, go_sem, C]; try rfl) rfl ?_
    exact givesD_nil H 43
  by_cases hf1 : (F.length : Int) ≤ f
  · rw [show decP true F ps f tq = (43, []) by unfold decP; rw [if_neg (by decide), if_pos (.inr hf1)]]
    go_enter Try.func47, Try.ntmps47
    have H := HS.start NoD w
    go_wp2_with fail
    refine (HV.out).mono ?_
    rintro _ w1 ⟨rfl, hb⟩
    replace H := H.below hb
    clear hb
    try clear C
    try simp only [World.size_alloc, List.nil_append, List.cons_append, List.append_assoc] at H
    have C := H.cells
    try simp only [cellsOf, cellsM, apartOf, apartM, and_true] at C
    dsimp only
    go_wp2_with fail
    refine bodyPost_ret (by simp [results, Try.results47, go_sem, C]; try rfl) rfl ?_
    exact givesD_nil H 43
  have e1 : ¬ (f < 0 ∨ (F.length : Int) ≤ f) := by omega
  obtain ⟨k, rfl⟩ : ∃ k : Nat, f = k := ⟨f.toNat, by omega⟩
  have hkl : k < F.length := by omega
  have HLF := HL
  obtain ⟨b, o, rfl, hb, hc⟩ := HL.out.at hkl
  obtain ⟨s, hs⟩ : ∃ s, s = (F[k]!).st := ⟨_, rfl⟩
  have hc0 : w.cell? ⟨b, o + k * 2, none⟩ = some (.int .i64 s) := by rw [hs]; exact hc 0 _ rfl
  have HC0 := Lib.hid hc0
  have HB := Lib.hid hb
  obtain ⟨R, hR⟩ : ∃ R, R = decP true F ps k tq := ⟨_, rfl⟩
  rw [← hR]
  have hRS : R = _ := hR
  unfold decP at hRS
  rw [if_neg (by decide), if_neg e1] at hRS
  have e3 : (F[((k : Nat) : Int).toNat]!).st = s := hs.symm
  rw [e3] at hRS
  dsimp only at hRS
  clear e3 hs hc hc0 hb e1 hR
  have HL0 := HL
  clear HL
  have HL := HLP
  clear HLP
  by_cases ht : tq = -1
  · subst ht
    rw [if_neg (fun h => h.1 rfl)] at hRS
    by_cases h5 : s = 5
    · subst h5
      have HR := Lib.hid (show R = (0, []) by rw [hRS]; try (rfl))
      clear hRS
      rw [HR.out]
      go_enter Try.func47, Try.ntmps47
      have H := HS.start NoD w
      go_wp2_with fail
      refine (HV.out).mono ?_
      rintro _ w1 ⟨rfl, hb⟩
      replace H := H.below hb
      clear hb
      try clear C
      try simp only [World.size_alloc, List.nil_append, List.cons_append, List.append_assoc] at H
      have C := H.cells
      try simp only [cellsOf, cellsM, apartOf, apartM, and_true] at C
      dsimp only
      have c0 : w1.cell? ⟨b, o + k * 2, none⟩ = some (.int .i64 5) := (H.was (p := ⟨b, o + k * 2, none⟩) HB.out id).trans HC0.out
      go_upto_region 8 with fail
      clear c0
      generalize hwb : w1.alloc _ = w2
      replace H := HS.eqW hwb H.alloc
      try simp only [World.size_alloc, List.nil_append, List.cons_append, List.append_assoc] at H
      clear hwb
      generalize w1.heap.size = bR at H ⊢
      try clear C
      try clear w1
      have C := H.cells
      try simp only [cellsOf, cellsM, apartOf, apartM, and_true] at C
      have c0 : w2.cell? ⟨b, o + k * 2, none⟩ = some (.int .i64 5) := (H.was (p := ⟨b, o + k * 2, none⟩) HB.out id).trans HC0.out
      go_wp2_with fail
      refine bodyPost_ret (by simp [results, Try.results47, go_sem, C]; try rfl) rfl ?_
      exact givesD_nil H 0
    have h5b : (s == 5) = false := beq_eq_false_iff_ne.2 h5
    rw [if_neg h5] at hRS
    by_cases h0 : s = 0
    · subst h0
      have HR := Lib.hid (show R = (0, [⟨1, k, 0, 0, 0⟩]) by rw [hRS]; try (rfl))
      clear hRS
      rw [HR.out]
      go_enter Try.func47, Try.ntmps47
      have H := HS.start NoD w
      go_wp2_with fail
      refine (HV.out).mono ?_
      rintro _ w1 ⟨rfl, hb⟩
      replace H := H.below hb
      clear hb
      try clear C
      try simp only [World.size_alloc, List.nil_append, List.cons_append, List.append_assoc] at H
      have C := H.cells
      try simp only [cellsOf, cellsM, apartOf, apartM, and_true] at C
      dsimp only
      have c0 : w1.cell? ⟨b, o + k * 2, none⟩ = some (.int .i64 0) := (H.was (p := ⟨b, o + k * 2, none⟩) HB.out id).trans HC0.out
      go_upto_region 8 with fail
      clear c0
      generalize hwb : w1.alloc _ = w2
      replace H := HS.eqW hwb H.alloc
      try simp only [World.size_alloc, List.nil_append, List.cons_append, List.append_assoc] at H
      clear hwb
      generalize w1.heap.size = bR at H ⊢
      try clear C
      try clear w1
      have C := H.cells
      try simp only [cellsOf, cellsM, apartOf, apartM, and_true] at C
      have c0 : w2.cell? ⟨b, o + k * 2, none⟩ = some (.int .i64 0) := (H.was (p := ⟨b, o + k * 2, none⟩) HB.out id).trans HC0.out
      go_wp2_with fail
      refine bodyPost_ret (by simp [results, Try.results47, go_sem, C]; try rfl) rfl ?_
      exact givesD_lit H.alloc 1 _ rfl (by simp) rfl
    have h0b : (s == 0) = false := beq_eq_false_iff_ne.2 h0
    rw [if_neg h0] at hRS
    by_cases h4 : s = 4
    · subst h4
      have HR := Lib.hid (show R = (0, [⟨6, k, 0, 0, 0⟩]) by rw [hRS]; try (rw [if_pos (.inl rfl)]))
      clear hRS
      rw [HR.out]
      go_enter Try.func47, Try.ntmps47
      have H := HS.start NoD w
      go_wp2_with fail
      refine (HV.out).mono ?_
      rintro _ w1 ⟨rfl, hb⟩
      replace H := H.below hb
      clear hb
      try clear C
      try simp only [World.size_alloc, List.nil_append, List.cons_append, List.append_assoc] at H
      have C := H.cells
      try simp only [cellsOf, cellsM, apartOf, apartM, and_true] at C
      dsimp only
      have c0 : w1.cell? ⟨b, o + k * 2, none⟩ = some (.int .i64 4) := (H.was (p := ⟨b, o + k * 2, none⟩) HB.out id).trans HC0.out
      go_upto_region 8 with fail
      clear c0
      generalize hwb : w1.alloc _ = w2
      replace H := HS.eqW hwb H.alloc
      try simp only [World.size_alloc, List.nil_append, List.cons_append, List.append_assoc] at H
      clear hwb
      generalize w1.heap.size = bR at H ⊢
      try clear C
      try clear w1
      have C := H.cells
      try simp only [cellsOf, cellsM, apartOf, apartM, and_true] at C
      have c0 : w2.cell? ⟨b, o + k * 2, none⟩ = some (.int .i64 4) := (H.was (p := ⟨b, o + k * 2, none⟩) HB.out id).trans HC0.out
      go_wp2_with fail
      refine bodyPost_ret (by simp [results, Try.results47, go_sem, C]; try rfl) rfl ?_
      exact givesD_lit H.alloc 1 _ rfl (by simp) rfl
    have h4b : (s == 4) = false := beq_eq_false_iff_ne.2 h4
    by_cases h3 : s = 3
    · subst h3
      have HR := Lib.hid (show R = (0, [⟨6, k, 0, 0, 0⟩]) by rw [hRS]; try (rw [if_pos (.inr ⟨rfl, rfl⟩)]))
      clear hRS
      rw [HR.out]
      go_enter Try.func47, Try.ntmps47
      have H := HS.start NoD w
      go_wp2_with fail
      refine (HV.out).mono ?_
      rintro _ w1 ⟨rfl, hb⟩
      replace H := H.below hb
      clear hb
      try clear C
      try simp only [World.size_alloc, List.nil_append, List.cons_append, List.append_assoc] at H
      have C := H.cells
      try simp only [cellsOf, cellsM, apartOf, apartM, and_true] at C
      dsimp only
      have c0 : w1.cell? ⟨b, o + k * 2, none⟩ = some (.int .i64 3) := (H.was (p := ⟨b, o + k * 2, none⟩) HB.out id).trans HC0.out
      go_upto_region 8 with fail
      clear c0
      generalize hwb : w1.alloc _ = w2
      replace H := HS.eqW hwb H.alloc
      try simp only [World.size_alloc, List.nil_append, List.cons_append, List.append_assoc] at H
      clear hwb
      generalize w1.heap.size = bR at H ⊢
      try clear C
      try clear w1
      have C := H.cells
      try simp only [cellsOf, cellsM, apartOf, apartM, and_true] at C
      have c0 : w2.cell? ⟨b, o + k * 2, none⟩ = some (.int .i64 3) := (H.was (p := ⟨b, o + k * 2, none⟩) HB.out id).trans HC0.out
      go_wp2_with fail
      refine bodyPost_ret (by simp [results, Try.results47, go_sem, C]; try rfl) rfl ?_
      exact givesD_lit H.alloc 1 _ rfl (by simp) rfl
    have h3b : (s == 3) = false := beq_eq_false_iff_ne.2 h3
    rw [if_neg (fun h => h.elim h4 (fun h => h3 h.1)), if_neg h3] at hRS
    rw [if_neg (fun h => h.2 rfl)] at hRS
    by_cases h1 : s = 1
    · subst h1
      have HR := Lib.hid (show R = (0, vicP ps k ++ [⟨1, k, 0, 0, 0⟩]) by rw [hRS]; try (rfl))
      clear hRS
      rw [HR.out]
      go_enter Try.func47, Try.ntmps47
      have H := HS.start NoD w
      go_wp2_with fail
      refine (HV.out).mono ?_
      rintro _ w1 ⟨rfl, hb⟩
      replace H := H.below hb
      clear hb
      try clear C
      try simp only [World.size_alloc, List.nil_append, List.cons_append, List.append_assoc] at H
      have C := H.cells
      try simp only [cellsOf, cellsM, apartOf, apartM, and_true] at C
      dsimp only
      have c0 : w1.cell? ⟨b, o + k * 2, none⟩ = some (.int .i64 1) := (H.was (p := ⟨b, o + k * 2, none⟩) HB.out id).trans HC0.out
      go_upto_region 8 with fail
      clear c0
      generalize hwb : w1.alloc _ = w2
      replace H := HS.eqW hwb H.alloc
      try simp only [World.size_alloc, List.nil_append, List.cons_append, List.append_assoc] at H
      clear hwb
      generalize w1.heap.size = bR at H ⊢
      try clear C
      try clear w1
      have C := H.cells
      try simp only [cellsOf, cellsM, apartOf, apartM, and_true] at C
      have c0 : w2.cell? ⟨b, o + k * 2, none⟩ = some (.int .i64 1) := (H.was (p := ⟨b, o + k * 2, none⟩) HB.out id).trans HC0.out
      go_upto_region 19 with fail
      clear c0
      go_wp2_with fail
      refine (HUS.out _ (H.psUp HPS.out)).mono ?_
      rintro _ w3 ⟨su, cu, rfl, hr, hb⟩
      replace H := (H).getsRow hb hr
      clear hb hr
      try clear C
      try simp only [World.size_alloc, List.nil_append, List.cons_append, List.append_assoc] at H
      try clear w2
      have C := H.cells
      try simp only [cellsOf, cellsM, apartOf, apartM, and_true] at C
      dsimp only
      have hn := H.nilRow 76 5
      clear H
      have H := hn
      clear hn
      simp only [List.nil_append, List.cons_append] at H
      try clear C
      try simp only [World.size_alloc, List.nil_append, List.cons_append, List.append_assoc] at H
      have C := H.cells
      try simp only [cellsOf, cellsM, apartOf, apartM, and_true] at C
      go_wp2_with fail
      go_loopw [12, 111] (fun u i wr => ∃ (n : Nat) (ds : List Dd) (sv : Option Addr) (cv : Nat), i = .int .i64 n ∧ u = .slice sv ds.length cv ∧ n ≤ us.length ∧ ds.length = n ∧ Hid (ds = (us.take n).map (ddOf ps k)) ∧ HS NoD w [.blk bR #[.int .i64 1, .int .i64 k, .int .i64 0, .int .i64 0, .int .i64 0] 76, .row (.slice su us.length cu) 61 2 us.length (us.flatMap uC), .row (.slice sv ds.length cv) 76 5 ds.length (ds.flatMap ddC)] wr) (fun _ i _ => us.length - (intOf i).toNat)
      case atStart => exact ⟨0, [], none, 0, rfl, rfl, Nat.zero_le _, rfl, rfl, H⟩
      case round =>
        clear H C
        obtain ⟨n, ds, sv, cv, rfl, rfl, hk, hdl, HD, H⟩ := hrel
        have hdl2 : ds.length ≤ 100000 := by omega
        have HDL := Lib.hid hdl
        clear hdl
        skip
        try clear C
        try simp only [World.size_alloc, List.nil_append, List.cons_append, List.append_assoc] at H
        have C := H.cells
        try simp only [cellsOf, cellsM, apartOf, apartM, and_true] at C
        by_cases hlt : n < us.length
        · have HSU := Lib.hid (ddOf_succ ps k hlt)
          obtain ⟨b', o', rfl, hb', hc⟩ := (H.rowLies 1 uC_len rfl rfl).at hlt
          obtain ⟨x, hx⟩ : ∃ x, x = us[n]! := ⟨_, rfl⟩
          rw [← hx] at hc
          have HX0 := Lib.hid hx
          obtain ⟨xp, xn⟩ := x
          have c0 : wr.cell? ⟨b', o' + n * 2, none⟩ = some (.int .i64 xp) := hc 0 _ rfl
          have c1 : wr.cell? ⟨b', o' + n * 2 + 1, none⟩ = some (.int .i64 xn) := hc 1 _ rfl
          clear hc hx
          go_upto_region 23 with fail
          clear c0 c1
          generalize hwb : wr.alloc _ = w4
          replace H := HS.eqW hwb H.alloc
          try simp only [World.size_alloc, List.nil_append, List.cons_append, List.append_assoc] at H
          clear hwb
          generalize wr.heap.size = bU at H ⊢
          try clear C
          try clear wr
          have C := H.cells
          try simp only [cellsOf, cellsM, apartOf, apartM, and_true] at C
          obtain ⟨T, hT⟩ : ∃ T : Nat → Int, T = fun i => if (ps.take i).any (fun p => decide (p.id = xp) && p.tells) = true then 4 else 5 := ⟨_, rfl⟩
          have HTT := Lib.hid hT
          have hT0 : T 0 = 5 := by rw [hT]; rfl
          clear hT
          go_wp2_with fail
          go_loopw [15, 117] (fun kk i wr => ∃ (j : Nat), i = .int .i64 j ∧ j ≤ qs.length ∧ kk = .int .i64 (T j) ∧ HS NoD w [.blk bR #[.int .i64 1, .int .i64 k, .int .i64 0, .int .i64 0, .int .i64 0] 76, .row (.slice (some ⟨b', o', none⟩) us.length cu) 61 2 us.length (us.flatMap uC), .row (.slice sv ds.length cv) 76 5 ds.length (ds.flatMap ddC), .blk bU #[.int .i64 xp, .int .i64 xn] 61] wr) (fun _ i _ => qs.length - (intOf i).toNat)
          case atStart => exact ⟨0, rfl, Nat.zero_le _, by rw [hT0], H⟩
          case round =>
            clear H C
            obtain ⟨j, rfl, hj, rfl, H⟩ := hrel
            skip
            try clear C
            try simp only [World.size_alloc, List.nil_append, List.cons_append, List.append_assoc] at H
            have C := H.cells
            try simp only [cellsOf, cellsM, apartOf, apartM, and_true] at C
            by_cases hlj : j < qs.length
            · have hlt' := hlt
              clear hlt
              have hlt : j < qs.length := hlj
              obtain ⟨b, o, e0, hb, hc⟩ := (H.lies HL.out).at hlt
              cases e0
              have HM := Lib.hid (map_at hlt)
              have hpv := HI.out _ (mem_at hlt)
              obtain ⟨q, hxj⟩ : ∃ q, q = qs[j]! := ⟨_, rfl⟩
              rw [← hxj] at hc hpv
              have HX := Lib.hid hxj
              obtain ⟨⟨pi, pt, pd, pg, td⟩, pa, ta⟩ := q
              obtain ⟨⟨pb, pc, e1, hpc, hpl⟩, ⟨tb, tc, e2, htc, htl⟩⟩ := hpv
              have f1 : pa = .slice pb pg.length pc := e1
              have f2 : ta = .slice tb td.length tc := e2
              clear e1 e2
              subst f1 f2
              have HPG : Hid (Lies w w.heap.size pb 3 pg.length (fun j => pgC pg[j]!)) := hpl
              have HTD : Hid (Lies w w.heap.size tb 1 td.length (fun j => iC td[j]!)) := htl
              have HPC : Hid (pg.length ≤ pc ∧ (pb = none → pc = 0)) := hpc
              have HTC : Hid (td.length ≤ tc ∧ (tb = none → tc = 0)) := htc
              clear hpc htc
              clear hpl htl
              have c0 : wr.cell? ⟨b, o + j * 5, none⟩ = some (.int .i64 pi) := hc 0 _ rfl
              have c1 : wr.cell? ⟨b, o + j * 5 + 1, none⟩ = some (.bool pt) := hc 1 _ rfl
              have c2 : wr.cell? ⟨b, o + j * 5 + 2, none⟩ = some (.bool pd) := hc 2 _ rfl
              have c3 : wr.cell? ⟨b, o + j * 5 + 3, none⟩ = some (.slice pb pg.length pc) := hc 3 _ rfl
              have c4 : wr.cell? ⟨b, o + j * 5 + 4, none⟩ = some (.slice tb td.length tc) := hc 4 _ rfl
              clear hc hxj
              have HTS : Hid (T (j + 1) = if (decide (pi = xp) && pt) = true then 4 else T j) := by
                show _ = _
                have hpe : ps[j]! = ⟨pi, pt, pd, pg, td⟩ := by rw [← HQS.out, HM.out, ← HX.out]
                have hjp : j < ps.length := by rw [← HQS.out]; simpa using hlj
                rw [HTT.out]
                dsimp only
                rw [take_snoc hjp, List.any_append, hpe]
                simp only [List.any_cons, List.any_nil, Bool.or_false]
                cases (ps.take j).any (fun p => decide (p.id = xp) && p.tells) <;> cases (decide (pi = xp) && pt) <;> rfl
              go_upto_region 27 with fail
              clear c0 c1 c2 c3 c4
              generalize hwb : wr.alloc _ = w5
              replace H := HS.eqW hwb H.alloc
              try simp only [World.size_alloc, List.nil_append, List.cons_append, List.append_assoc] at H
              clear hwb
              generalize wr.heap.size = bP at H ⊢
              try clear C
              try clear wr
              have C := H.cells
              try simp only [cellsOf, cellsM, apartOf, apartM, and_true] at C
              by_cases hid : pi = xp
              · subst hid
                cases pt with
                | true =>
                  have HT2 : Hid (T (j + 1) = 4) := by show _ = _; rw [HTS.out]; simp
                  go_wp2_with fail
                  go_roundw
                  case rel => exact ⟨j + 1, by go_num, by omega, by rw [HT2.out], HS.less H (by repeat (first | exact .slnil | refine .cons_cons _ ?_ | refine .cons _ ?_))⟩
                  case measure => simp [intOf]; omega
                | false =>
                  have HT2 : Hid (T (j + 1) = T j) := by show _ = _; rw [HTS.out]; simp
                  go_wp2_with fail
                  go_roundw
                  case rel => exact ⟨j + 1, by go_num, by omega, by rw [HT2.out], HS.less H (by repeat (first | exact .slnil | refine .cons_cons _ ?_ | refine .cons _ ?_))⟩
                  case measure => simp [intOf]; omega
              · have hidb : (pi == xp) = false := beq_eq_false_iff_ne.2 hid
                have HT2 : Hid (T (j + 1) = T j) := by show _ = _; rw [HTS.out]; simp [hid]
                go_wp2_with fail
                go_roundw
                case rel => exact ⟨j + 1, by go_num, by omega, by rw [HT2.out], HS.less H (by repeat (first | exact .slnil | refine .cons_cons _ ?_ | refine .cons _ ?_))⟩
                case measure => simp [intOf]; omega
            · have hje : j = ps.length := by have : ps.length = qs.length := by rw [← HQS.out]; simp
                                             omega
              have HDO : Hid (ddOf ps k (xp, xn) = ⟨T j, k, 0, xp, xn⟩) := by
                show _ = _
                unfold ddOf
                rw [HTT.out]
                dsimp only
                rw [hje, List.take_length]
              clear hje hT0
              generalize T j = tk at HDO ⊢
              clear HTT
              skip
              go_upto_region 30 with fail
              go_wp2_with (at_builtin; refine wpList_append_H rfl (.tmp 131) (.tmp 139) 70 rfl elemDd H.alloc 2 rfl rfl 4 rfl rfl rfl rfl (by decide) (by unfold maxLen; omega) (by omega) (fun g9 c9 wz HZ => ?_); clear H C)
              simp only [List.nil_append, List.cons_append, List.append_assoc, List.set_cons_succ, List.set_cons_zero] at HZ
              go_roundw
              case rel =>
                refine ⟨_, _, _, _, _, ⟨n + 1, (by go_num), ds ++ [⟨tk, k, 0, xp, xn⟩], _, _, (show Value.slice (some ⟨g9, 0, none⟩) (ds.length + 1) c9 = _ by rw [List.length_append]; rfl), by omega, by rw [List.length_append, HDL.out]; rfl, (show Hid _ from ?_), ?_⟩, rfl, rfl, rfl, rfl, rfl⟩
                · show _ = _
                  first
                    | rw [HSU.out, ← HX0.out, HDO.out, ← HD.out]
                    | rw [← List.map_take, HSU.out, ← HX0.out, HDO.out, ← HD.out]
                    | rw [← List.map_take, HSU.out, ← HX0.out, HDO.out, List.map_take, ← HD.out]
                · rw [List.length_append, ddC_snoc]
                  exact HS.less HZ (by repeat (first | exact .slnil | refine .cons_cons _ ?_ | refine .cons _ ?_))
              case measure => simp [intOf]; omega
        · have hne : n = us.length := by omega
          have HDV : Hid (ds = vicP ps k) := by
            show _ = _
            rw [HD.out, hne, List.take_length, HUV.out]
          clear hne
          skip
          go_upto_region 32 with fail
          go_wp2_with (at_builtin; refine wpList_append_H rfl (.tmp 142) (.tmp 144) 70 rfl elemDd H.alloc 2 rfl rfl 3 rfl rfl rfl rfl (by decide) (by unfold maxLen; omega) (by omega) (fun g9 c9 wz HZ => ?_); clear H C)
          simp only [List.nil_append, List.cons_append, List.append_assoc, List.set_cons_succ, List.set_cons_zero] at HZ
          have C := HZ.cells
          try simp only [cellsOf, cellsM, apartOf, apartM, and_true] at C
          refine bodyPost_ret (by simp [results, Try.results47, go_sem, C]; try rfl) rfl ?_
          rw [← HDV.out]
          exact givesD_app HZ 2 rfl
    have h1b : (s == 1) = false := beq_eq_false_iff_ne.2 h1
    have HR := Lib.hid (show R = (0, vicP ps k ++ [⟨1, k, 0, 0, 0⟩]) by rw [hRS]; try (rfl))
    clear hRS
    rw [HR.out]
    go_enter Try.func47, Try.ntmps47
    have H := HS.start NoD w
    go_wp2_with fail
    refine (HV.out).mono ?_
    rintro _ w1 ⟨rfl, hb⟩
    replace H := H.below hb
    clear hb
    try clear C
    try simp only [World.size_alloc, List.nil_append, List.cons_append, List.append_assoc] at H
    have C := H.cells
    try simp only [cellsOf, cellsM, apartOf, apartM, and_true] at C
    dsimp only
    have c0 : w1.cell? ⟨b, o + k * 2, none⟩ = some (.int .i64 s) := (H.was (p := ⟨b, o + k * 2, none⟩) HB.out id).trans HC0.out
    go_upto_region 8 with fail
    clear c0
    generalize hwb : w1.alloc _ = w2
    replace H := HS.eqW hwb H.alloc
    try simp only [World.size_alloc, List.nil_append, List.cons_append, List.append_assoc] at H
    clear hwb
    generalize w1.heap.size = bR at H ⊢
    try clear C
    try clear w1
    have C := H.cells
    try simp only [cellsOf, cellsM, apartOf, apartM, and_true] at C
    have c0 : w2.cell? ⟨b, o + k * 2, none⟩ = some (.int .i64 s) := (H.was (p := ⟨b, o + k * 2, none⟩) HB.out id).trans HC0.out
    go_upto_region 19 with fail
    clear c0
    go_wp2_with fail
    refine (HUS.out _ (H.psUp HPS.out)).mono ?_
    rintro _ w3 ⟨su, cu, rfl, hr, hb⟩
    replace H := (H).getsRow hb hr
    clear hb hr
    try clear C
    try simp only [World.size_alloc, List.nil_append, List.cons_append, List.append_assoc] at H
    try clear w2
    have C := H.cells
    try simp only [cellsOf, cellsM, apartOf, apartM, and_true] at C
    dsimp only
    have hn := H.nilRow 76 5
    clear H
    have H := hn
    clear hn
    simp only [List.nil_append, List.cons_append] at H
    try clear C
    try simp only [World.size_alloc, List.nil_append, List.cons_append, List.append_assoc] at H
    have C := H.cells
    try simp only [cellsOf, cellsM, apartOf, apartM, and_true] at C
    go_wp2_with fail
    go_loopw [12, 111] (fun u i wr => ∃ (n : Nat) (ds : List Dd) (sv : Option Addr) (cv : Nat), i = .int .i64 n ∧ u = .slice sv ds.length cv ∧ n ≤ us.length ∧ ds.length = n ∧ Hid (ds = (us.take n).map (ddOf ps k)) ∧ HS NoD w [.blk bR #[.int .i64 1, .int .i64 k, .int .i64 0, .int .i64 0, .int .i64 0] 76, .row (.slice su us.length cu) 61 2 us.length (us.flatMap uC), .row (.slice sv ds.length cv) 76 5 ds.length (ds.flatMap ddC)] wr) (fun _ i _ => us.length - (intOf i).toNat)
    case atStart => exact ⟨0, [], none, 0, rfl, rfl, Nat.zero_le _, rfl, rfl, H⟩
    case round =>
      clear H C
      obtain ⟨n, ds, sv, cv, rfl, rfl, hk, hdl, HD, H⟩ := hrel
      have hdl2 : ds.length ≤ 100000 := by omega
      have HDL := Lib.hid hdl
      clear hdl
      skip
      try clear C
      try simp only [World.size_alloc, List.nil_append, List.cons_append, List.append_assoc] at H
      have C := H.cells
      try simp only [cellsOf, cellsM, apartOf, apartM, and_true] at C
      by_cases hlt : n < us.length
      · have HSU := Lib.hid (ddOf_succ ps k hlt)
        obtain ⟨b', o', rfl, hb', hc⟩ := (H.rowLies 1 uC_len rfl rfl).at hlt
        obtain ⟨x, hx⟩ : ∃ x, x = us[n]! := ⟨_, rfl⟩
        rw [← hx] at hc
        have HX0 := Lib.hid hx
        obtain ⟨xp, xn⟩ := x
        have c0 : wr.cell? ⟨b', o' + n * 2, none⟩ = some (.int .i64 xp) := hc 0 _ rfl
        have c1 : wr.cell? ⟨b', o' + n * 2 + 1, none⟩ = some (.int .i64 xn) := hc 1 _ rfl
        clear hc hx
        go_upto_region 23 with fail
        clear c0 c1
        generalize hwb : wr.alloc _ = w4
        replace H := HS.eqW hwb H.alloc
        try simp only [World.size_alloc, List.nil_append, List.cons_append, List.append_assoc] at H
        clear hwb
        generalize wr.heap.size = bU at H ⊢
        try clear C
        try clear wr
        have C := H.cells
        try simp only [cellsOf, cellsM, apartOf, apartM, and_true] at C
        obtain ⟨T, hT⟩ : ∃ T : Nat → Int, T = fun i => if (ps.take i).any (fun p => decide (p.id = xp) && p.tells) = true then 4 else 5 := ⟨_, rfl⟩
        have HTT := Lib.hid hT
        have hT0 : T 0 = 5 := by rw [hT]; rfl
        clear hT
        go_wp2_with fail
        go_loopw [15, 117] (fun kk i wr => ∃ (j : Nat), i = .int .i64 j ∧ j ≤ qs.length ∧ kk = .int .i64 (T j) ∧ HS NoD w [.blk bR #[.int .i64 1, .int .i64 k, .int .i64 0, .int .i64 0, .int .i64 0] 76, .row (.slice (some ⟨b', o', none⟩) us.length cu) 61 2 us.length (us.flatMap uC), .row (.slice sv ds.length cv) 76 5 ds.length (ds.flatMap ddC), .blk bU #[.int .i64 xp, .int .i64 xn] 61] wr) (fun _ i _ => qs.length - (intOf i).toNat)
        case atStart => exact ⟨0, rfl, Nat.zero_le _, by rw [hT0], H⟩
        case round =>
          clear H C
          obtain ⟨j, rfl, hj, rfl, H⟩ := hrel
          skip
          try clear C
          try simp only [World.size_alloc, List.nil_append, List.cons_append, List.append_assoc] at H
          have C := H.cells
          try simp only [cellsOf, cellsM, apartOf, apartM, and_true] at C
          by_cases hlj : j < qs.length
          · have hlt' := hlt
            clear hlt
            have hlt : j < qs.length := hlj
            obtain ⟨b, o, e0, hb, hc⟩ := (H.lies HL.out).at hlt
            cases e0
            have HM := Lib.hid (map_at hlt)
            have hpv := HI.out _ (mem_at hlt)
            obtain ⟨q, hxj⟩ : ∃ q, q = qs[j]! := ⟨_, rfl⟩
            rw [← hxj] at hc hpv
            have HX := Lib.hid hxj
            obtain ⟨⟨pi, pt, pd, pg, td⟩, pa, ta⟩ := q
            obtain ⟨⟨pb, pc, e1, hpc, hpl⟩, ⟨tb, tc, e2, htc, htl⟩⟩ := hpv
            have f1 : pa = .slice pb pg.length pc := e1
            have f2 : ta = .slice tb td.length tc := e2
            clear e1 e2
            subst f1 f2
            have HPG : Hid (Lies w w.heap.size pb 3 pg.length (fun j => pgC pg[j]!)) := hpl
            have HTD : Hid (Lies w w.heap.size tb 1 td.length (fun j => iC td[j]!)) := htl
            have HPC : Hid (pg.length ≤ pc ∧ (pb = none → pc = 0)) := hpc
            have HTC : Hid (td.length ≤ tc ∧ (tb = none → tc = 0)) := htc
            clear hpc htc
            clear hpl htl
            have c0 : wr.cell? ⟨b, o + j * 5, none⟩ = some (.int .i64 pi) := hc 0 _ rfl
            have c1 : wr.cell? ⟨b, o + j * 5 + 1, none⟩ = some (.bool pt) := hc 1 _ rfl
            have c2 : wr.cell? ⟨b, o + j * 5 + 2, none⟩ = some (.bool pd) := hc 2 _ rfl
            have c3 : wr.cell? ⟨b, o + j * 5 + 3, none⟩ = some (.slice pb pg.length pc) := hc 3 _ rfl
            have c4 : wr.cell? ⟨b, o + j * 5 + 4, none⟩ = some (.slice tb td.length tc) := hc 4 _ rfl
            clear hc hxj
            have HTS : Hid (T (j + 1) = if (decide (pi = xp) && pt) = true then 4 else T j) := by
              show _ = _
              have hpe : ps[j]! = ⟨pi, pt, pd, pg, td⟩ := by rw [← HQS.out, HM.out, ← HX.out]
              have hjp : j < ps.length := by rw [← HQS.out]; simpa using hlj
              rw [HTT.out]
              dsimp only
              rw [take_snoc hjp, List.any_append, hpe]
              simp only [List.any_cons, List.any_nil, Bool.or_false]
              cases (ps.take j).any (fun p => decide (p.id = xp) && p.tells) <;> cases (decide (pi = xp) && pt) <;> rfl
            go_upto_region 27 with fail
            clear c0 c1 c2 c3 c4
            generalize hwb : wr.alloc _ = w5
            replace H := HS.eqW hwb H.alloc
            try simp only [World.size_alloc, List.nil_append, List.cons_append, List.append_assoc] at H
            clear hwb
            generalize wr.heap.size = bP at H ⊢
            try clear C
            try clear wr
            have C := H.cells
            try simp only [cellsOf, cellsM, apartOf, apartM, and_true] at C
            by_cases hid : pi = xp
            · subst hid
              cases pt with
              | true =>
                have HT2 : Hid (T (j + 1) = 4) := by show _ = _; rw [HTS.out]; simp
                go_wp2_with fail
                go_roundw
                case rel => exact ⟨j + 1, by go_num, by omega, by rw [HT2.out], HS.less H (by repeat (first | exact .slnil | refine .cons_cons _ ?_ | refine .cons _ ?_))⟩
                case measure => simp [intOf]; omega
              | false =>
                have HT2 : Hid (T (j + 1) = T j) := by show _ = _; rw [HTS.out]; simp
                go_wp2_with fail
                go_roundw
                case rel => exact ⟨j + 1, by go_num, by omega, by rw [HT2.out], HS.less H (by repeat (first | exact .slnil | refine .cons_cons _ ?_ | refine .cons _ ?_))⟩
                case measure => simp [intOf]; omega
            · have hidb : (pi == xp) = false := beq_eq_false_iff_ne.2 hid
              have HT2 : Hid (T (j + 1) = T j) := by show _ = _; rw [HTS.out]; simp [hid]
              go_wp2_with fail
              go_roundw
              case rel => exact ⟨j + 1, by go_num, by omega, by rw [HT2.out], HS.less H (by repeat (first | exact .slnil | refine .cons_cons _ ?_ | refine .cons _ ?_))⟩
              case measure => simp [intOf]; omega
          · have hje : j = ps.length := by have : ps.length = qs.length := by rw [← HQS.out]; simp
                                           omega
            have HDO : Hid (ddOf ps k (xp, xn) = ⟨T j, k, 0, xp, xn⟩) := by
              show _ = _
              unfold ddOf
              rw [HTT.out]
              dsimp only
              rw [hje, List.take_length]
            clear hje hT0
            generalize T j = tk at HDO ⊢
            clear HTT
            skip
            go_upto_region 30 with fail
            go_wp2_with (at_builtin; refine wpList_append_H rfl (.tmp 131) (.tmp 139) 70 rfl elemDd H.alloc 2 rfl rfl 4 rfl rfl rfl rfl (by decide) (by unfold maxLen; omega) (by omega) (fun g9 c9 wz HZ => ?_); clear H C)
            simp only [List.nil_append, List.cons_append, List.append_assoc, List.set_cons_succ, List.set_cons_zero] at HZ
            go_roundw
            case rel =>
              refine ⟨_, _, _, _, _, ⟨n + 1, (by go_num), ds ++ [⟨tk, k, 0, xp, xn⟩], _, _, (show Value.slice (some ⟨g9, 0, none⟩) (ds.length + 1) c9 = _ by rw [List.length_append]; rfl), by omega, by rw [List.length_append, HDL.out]; rfl, (show Hid _ from ?_), ?_⟩, rfl, rfl, rfl, rfl, rfl⟩
              · show _ = _
                first
                  | rw [HSU.out, ← HX0.out, HDO.out, ← HD.out]
                  | rw [← List.map_take, HSU.out, ← HX0.out, HDO.out, ← HD.out]
                  | rw [← List.map_take, HSU.out, ← HX0.out, HDO.out, List.map_take, ← HD.out]
              · rw [List.length_append, ddC_snoc]
                exact HS.less HZ (by repeat (first | exact .slnil | refine .cons_cons _ ?_ | refine .cons _ ?_))
            case measure => simp [intOf]; omega
      · have hne : n = us.length := by omega
        have HDV : Hid (ds = vicP ps k) := by
          show _ = _
          rw [HD.out, hne, List.take_length, HUV.out]
        clear hne
        skip
        go_upto_region 32 with fail
        go_wp2_with (at_builtin; refine wpList_append_H rfl (.tmp 142) (.tmp 144) 70 rfl elemDd H.alloc 2 rfl rfl 3 rfl rfl rfl rfl (by decide) (by unfold maxLen; omega) (by omega) (fun g9 c9 wz HZ => ?_); clear H C)
        simp only [List.nil_append, List.cons_append, List.append_assoc, List.set_cons_succ, List.set_cons_zero] at HZ
        have C := HZ.cells
        try simp only [cellsOf, cellsM, apartOf, apartM, and_true] at C
        refine bodyPost_ret (by simp [results, Try.results47, go_sem, C]; try rfl) rfl ?_
        rw [← HDV.out]
        exact givesD_app HZ 2 rfl
  have htb : (tq == -1) = false := beq_eq_false_iff_ne.2 ht
  have htn : (tq != -1) = true := bne_iff_ne.2 ht
  by_cases t0 : tq < 0
  · rw [if_pos ⟨ht, .inr (by unfold freeAtF; simp; omega)⟩] at hRS
    have HR := Lib.hid hRS
    clear hRS
    rw [HR.out]
    go_enter Try.func47, Try.ntmps47
    have H := HS.start NoD w
    go_wp2_with fail
    refine (HV.out).mono ?_
    rintro _ w1 ⟨rfl, hb⟩
    replace H := H.below hb
    clear hb
    try clear C
    try simp only [World.size_alloc, List.nil_append, List.cons_append, List.append_assoc] at H
    have C := H.cells
    try simp only [cellsOf, cellsM, apartOf, apartM, and_true] at C
    dsimp only
    go_wp2_with fail
    refine bodyPost_ret (by simp [results, Try.results47, go_sem, C]; try rfl) rfl ?_
    exact givesD_nil H 40
  by_cases t1 : (F.length : Int) ≤ tq
  · rw [if_pos ⟨ht, .inr (by unfold freeAtF; simp; omega)⟩] at hRS
    have HR := Lib.hid hRS
    clear hRS
    rw [HR.out]
    go_enter Try.func47, Try.ntmps47
    have H := HS.start NoD w
    go_wp2_with fail
    refine (HV.out).mono ?_
    rintro _ w1 ⟨rfl, hb⟩
    replace H := H.below hb
    clear hb
    try clear C
    try simp only [World.size_alloc, List.nil_append, List.cons_append, List.append_assoc] at H
    have C := H.cells
    try simp only [cellsOf, cellsM, apartOf, apartM, and_true] at C
    dsimp only
    go_wp2_with fail
    refine bodyPost_ret (by simp [results, Try.results47, go_sem, C]; try rfl) rfl ?_
    exact givesD_nil H 40
  obtain ⟨t, rfl⟩ : ∃ t : Nat, tq = t := ⟨tq.toNat, by omega⟩
  have htl : t < F.length := by omega
  obtain ⟨b2, o2, e2, -, hc2⟩ := HLF.out.at htl
  obtain ⟨rfl, rfl⟩ : b = b2 ∧ o = o2 := by simpa using e2
  obtain ⟨st, hst⟩ : ∃ s, s = (F[t]!).st := ⟨_, rfl⟩
  have hct : w.cell? ⟨b, o + t * 2, none⟩ = some (.int .i64 st) := by rw [hst]; exact hc2 0 _ rfl
  have HFA := Lib.hid (show freeAtF F (t : Int) = decide (st = 0) by unfold freeAtF; rw [hst]; simp [htl])
  have HCT := Lib.hid hct
  clear hst hct hc2 e2 HLF
  by_cases hs0 : st = 0
  · subst hs0
    by_cases htf : t = k
    · subst htf
      rw [if_pos ⟨ht, .inl rfl⟩] at hRS
      have HR := Lib.hid hRS
      clear hRS
      rw [HR.out]
      go_enter Try.func47, Try.ntmps47
      have H := HS.start NoD w
      go_wp2_with fail
      refine (HV.out).mono ?_
      rintro _ w1 ⟨rfl, hb⟩
      replace H := H.below hb
      clear hb
      try clear C
      try simp only [World.size_alloc, List.nil_append, List.cons_append, List.append_assoc] at H
      have C := H.cells
      try simp only [cellsOf, cellsM, apartOf, apartM, and_true] at C
      dsimp only
      have ct : w1.cell? ⟨b, o + t * 2, none⟩ = some (.int .i64 0) := (H.was (p := ⟨b, o + t * 2, none⟩) HB.out id).trans HCT.out
      go_wp2_with fail
      refine bodyPost_ret (by simp [results, Try.results47, go_sem, C]; try rfl) rfl ?_
      exact givesD_nil H 40
    have htfb : ((t : Int) == (k : Int)) = false := beq_eq_false_iff_ne.2 (by omega)
    rw [if_neg (fun h => h.2.elim (by omega) (fun h => by rw [HFA.out] at h; simp at h))] at hRS
    by_cases h5 : s = 5
    · subst h5
      have HR := Lib.hid (show R = (0, []) by rw [hRS]; try (rfl))
      clear hRS
      rw [HR.out]
      go_enter Try.func47, Try.ntmps47
      have H := HS.start NoD w
      go_wp2_with fail
      refine (HV.out).mono ?_
      rintro _ w1 ⟨rfl, hb⟩
      replace H := H.below hb
      clear hb
      try clear C
      try simp only [World.size_alloc, List.nil_append, List.cons_append, List.append_assoc] at H
      have C := H.cells
      try simp only [cellsOf, cellsM, apartOf, apartM, and_true] at C
      dsimp only
      have c0 : w1.cell? ⟨b, o + k * 2, none⟩ = some (.int .i64 5) := (H.was (p := ⟨b, o + k * 2, none⟩) HB.out id).trans HC0.out
      have ct : w1.cell? ⟨b, o + t * 2, none⟩ = some (.int .i64 0) := (H.was (p := ⟨b, o + t * 2, none⟩) HB.out id).trans HCT.out
      go_upto_region 8 with fail
      clear c0
      clear ct
      generalize hwb : w1.alloc _ = w2
      replace H := HS.eqW hwb H.alloc
      try simp only [World.size_alloc, List.nil_append, List.cons_append, List.append_assoc] at H
      clear hwb
      generalize w1.heap.size = bR at H ⊢
      try clear C
      try clear w1
      have C := H.cells
      try simp only [cellsOf, cellsM, apartOf, apartM, and_true] at C
      have c0 : w2.cell? ⟨b, o + k * 2, none⟩ = some (.int .i64 5) := (H.was (p := ⟨b, o + k * 2, none⟩) HB.out id).trans HC0.out
      go_wp2_with fail
      refine bodyPost_ret (by simp [results, Try.results47, go_sem, C]; try rfl) rfl ?_
      exact givesD_nil H 0
    have h5b : (s == 5) = false := beq_eq_false_iff_ne.2 h5
    rw [if_neg h5] at hRS
    by_cases h0 : s = 0
    · subst h0
      have HR := Lib.hid (show R = (0, [⟨1, k, 0, 0, 0⟩]) by rw [hRS]; try (rfl))
      clear hRS
      rw [HR.out]
      go_enter Try.func47, Try.ntmps47
      have H := HS.start NoD w
      go_wp2_with fail
      refine (HV.out).mono ?_
      rintro _ w1 ⟨rfl, hb⟩
      replace H := H.below hb
      clear hb
      try clear C
      try simp only [World.size_alloc, List.nil_append, List.cons_append, List.append_assoc] at H
      have C := H.cells
      try simp only [cellsOf, cellsM, apartOf, apartM, and_true] at C
      dsimp only
      have c0 : w1.cell? ⟨b, o + k * 2, none⟩ = some (.int .i64 0) := (H.was (p := ⟨b, o + k * 2, none⟩) HB.out id).trans HC0.out
      have ct : w1.cell? ⟨b, o + t * 2, none⟩ = some (.int .i64 0) := (H.was (p := ⟨b, o + t * 2, none⟩) HB.out id).trans HCT.out
      go_upto_region 8 with fail
      clear c0
      clear ct
      generalize hwb : w1.alloc _ = w2
      replace H := HS.eqW hwb H.alloc
      try simp only [World.size_alloc, List.nil_append, List.cons_append, List.append_assoc] at H
      clear hwb
      generalize w1.heap.size = bR at H ⊢
      try clear C
      try clear w1
      have C := H.cells
      try simp only [cellsOf, cellsM, apartOf, apartM, and_true] at C
      have c0 : w2.cell? ⟨b, o + k * 2, none⟩ = some (.int .i64 0) := (H.was (p := ⟨b, o + k * 2, none⟩) HB.out id).trans HC0.out
      go_wp2_with fail
      refine bodyPost_ret (by simp [results, Try.results47, go_sem, C]; try rfl) rfl ?_
      exact givesD_lit H.alloc 1 _ rfl (by simp) rfl
    have h0b : (s == 0) = false := beq_eq_false_iff_ne.2 h0
    rw [if_neg h0] at hRS
    by_cases h4 : s = 4
    · subst h4
      have HR := Lib.hid (show R = (0, [⟨6, k, 0, 0, 0⟩]) by rw [hRS]; try (rw [if_pos (.inl rfl)]))
      clear hRS
      rw [HR.out]
      go_enter Try.func47, Try.ntmps47
      have H := HS.start NoD w
      go_wp2_with fail
      refine (HV.out).mono ?_
      rintro _ w1 ⟨rfl, hb⟩
      replace H := H.below hb
      clear hb
      try clear C
      try simp only [World.size_alloc, List.nil_append, List.cons_append, List.append_assoc] at H
      have C := H.cells
      try simp only [cellsOf, cellsM, apartOf, apartM, and_true] at C
      dsimp only
      have c0 : w1.cell? ⟨b, o + k * 2, none⟩ = some (.int .i64 4) := (H.was (p := ⟨b, o + k * 2, none⟩) HB.out id).trans HC0.out
      have ct : w1.cell? ⟨b, o + t * 2, none⟩ = some (.int .i64 0) := (H.was (p := ⟨b, o + t * 2, none⟩) HB.out id).trans HCT.out
      go_upto_region 8 with fail
      clear c0
      clear ct
      generalize hwb : w1.alloc _ = w2
      replace H := HS.eqW hwb H.alloc
      try simp only [World.size_alloc, List.nil_append, List.cons_append, List.append_assoc] at H
      clear hwb
      generalize w1.heap.size = bR at H ⊢
      try clear C
      try clear w1
      have C := H.cells
      try simp only [cellsOf, cellsM, apartOf, apartM, and_true] at C
      have c0 : w2.cell? ⟨b, o + k * 2, none⟩ = some (.int .i64 4) := (H.was (p := ⟨b, o + k * 2, none⟩) HB.out id).trans HC0.out
      go_wp2_with fail
      refine bodyPost_ret (by simp [results, Try.results47, go_sem, C]; try rfl) rfl ?_
      exact givesD_lit H.alloc 1 _ rfl (by simp) rfl
    have h4b : (s == 4) = false := beq_eq_false_iff_ne.2 h4
    by_cases h3 : s = 3
    · subst h3
      have HR := Lib.hid (show R = (0, [⟨3, k, t, 0, 0⟩, ⟨1, k, 0, 0, 0⟩]) by rw [hRS]; try (rw [if_neg (fun h => h.elim (by decide) (fun h => ht h.2)), if_pos rfl]))
      clear hRS
      rw [HR.out]
      go_enter Try.func47, Try.ntmps47
      have H := HS.start NoD w
      go_wp2_with fail
      refine (HV.out).mono ?_
      rintro _ w1 ⟨rfl, hb⟩
      replace H := H.below hb
      clear hb
      try clear C
      try simp only [World.size_alloc, List.nil_append, List.cons_append, List.append_assoc] at H
      have C := H.cells
      try simp only [cellsOf, cellsM, apartOf, apartM, and_true] at C
      dsimp only
      have c0 : w1.cell? ⟨b, o + k * 2, none⟩ = some (.int .i64 3) := (H.was (p := ⟨b, o + k * 2, none⟩) HB.out id).trans HC0.out
      have ct : w1.cell? ⟨b, o + t * 2, none⟩ = some (.int .i64 0) := (H.was (p := ⟨b, o + t * 2, none⟩) HB.out id).trans HCT.out
      go_upto_region 8 with fail
      clear c0
      clear ct
      generalize hwb : w1.alloc _ = w2
      replace H := HS.eqW hwb H.alloc
      try simp only [World.size_alloc, List.nil_append, List.cons_append, List.append_assoc] at H
      clear hwb
      generalize w1.heap.size = bR at H ⊢
      try clear C
      try clear w1
      have C := H.cells
      try simp only [cellsOf, cellsM, apartOf, apartM, and_true] at C
      have c0 : w2.cell? ⟨b, o + k * 2, none⟩ = some (.int .i64 3) := (H.was (p := ⟨b, o + k * 2, none⟩) HB.out id).trans HC0.out
      go_wp2_with fail
      refine bodyPost_ret (by simp [results, Try.results47, go_sem, C]; try rfl) rfl ?_
      exact givesD_lit H.alloc 1 _ rfl (by simp) rfl
    have h3b : (s == 3) = false := beq_eq_false_iff_ne.2 h3
    rw [if_neg (fun h => h.elim h4 (fun h => h3 h.1)), if_neg h3] at hRS
    by_cases h1 : s = 1
    · subst h1
      have HR := Lib.hid (show R = (0, [⟨2, k, t, 0, 0⟩, ⟨1, k, 0, 0, 0⟩]) by rw [hRS]; try (rw [if_pos ⟨rfl, ht⟩]))
      clear hRS
      rw [HR.out]
      go_enter Try.func47, Try.ntmps47
      have H := HS.start NoD w
      go_wp2_with fail
      refine (HV.out).mono ?_
      rintro _ w1 ⟨rfl, hb⟩
      replace H := H.below hb
      clear hb
      try clear C
      try simp only [World.size_alloc, List.nil_append, List.cons_append, List.append_assoc] at H
      have C := H.cells
      try simp only [cellsOf, cellsM, apartOf, apartM, and_true] at C
      dsimp only
      have c0 : w1.cell? ⟨b, o + k * 2, none⟩ = some (.int .i64 1) := (H.was (p := ⟨b, o + k * 2, none⟩) HB.out id).trans HC0.out
      have ct : w1.cell? ⟨b, o + t * 2, none⟩ = some (.int .i64 0) := (H.was (p := ⟨b, o + t * 2, none⟩) HB.out id).trans HCT.out
      go_upto_region 8 with fail
      clear c0
      clear ct
      generalize hwb : w1.alloc _ = w2
      replace H := HS.eqW hwb H.alloc
      try simp only [World.size_alloc, List.nil_append, List.cons_append, List.append_assoc] at H
      clear hwb
      generalize w1.heap.size = bR at H ⊢
      try clear C
      try clear w1
      have C := H.cells
      try simp only [cellsOf, cellsM, apartOf, apartM, and_true] at C
      have c0 : w2.cell? ⟨b, o + k * 2, none⟩ = some (.int .i64 1) := (H.was (p := ⟨b, o + k * 2, none⟩) HB.out id).trans HC0.out
      go_wp2_with fail
      refine bodyPost_ret (by simp [results, Try.results47, go_sem, C]; try rfl) rfl ?_
      exact givesD_lit H.alloc 1 _ rfl (by simp) rfl
    have h1b : (s == 1) = false := beq_eq_false_iff_ne.2 h1
    rw [if_neg (fun h => h1 h.1)] at hRS
    have HR := Lib.hid (show R = (0, vicP ps k ++ [⟨1, k, 0, 0, 0⟩]) by rw [hRS]; try (rfl))
    clear hRS
    rw [HR.out]
    go_enter Try.func47, Try.ntmps47
    have H := HS.start NoD w
    go_wp2_with fail
    refine (HV.out).mono ?_
    rintro _ w1 ⟨rfl, hb⟩
    replace H := H.below hb
    clear hb
    try clear C
    try simp only [World.size_alloc, List.nil_append, List.cons_append, List.append_assoc] at H
    have C := H.cells
    try simp only [cellsOf, cellsM, apartOf, apartM, and_true] at C
    dsimp only
    have c0 : w1.cell? ⟨b, o + k * 2, none⟩ = some (.int .i64 s) := (H.was (p := ⟨b, o + k * 2, none⟩) HB.out id).trans HC0.out
    have ct : w1.cell? ⟨b, o + t * 2, none⟩ = some (.int .i64 0) := (H.was (p := ⟨b, o + t * 2, none⟩) HB.out id).trans HCT.out
    go_upto_region 8 with fail
    clear c0
    clear ct
    generalize hwb : w1.alloc _ = w2
    replace H := HS.eqW hwb H.alloc
    try simp only [World.size_alloc, List.nil_append, List.cons_append, List.append_assoc] at H
    clear hwb
    generalize w1.heap.size = bR at H ⊢
    try clear C
    try clear w1
    have C := H.cells
    try simp only [cellsOf, cellsM, apartOf, apartM, and_true] at C
    have c0 : w2.cell? ⟨b, o + k * 2, none⟩ = some (.int .i64 s) := (H.was (p := ⟨b, o + k * 2, none⟩) HB.out id).trans HC0.out
    go_upto_region 19 with fail
    clear c0
    go_wp2_with fail
    refine (HUS.out _ (H.psUp HPS.out)).mono ?_
    rintro _ w3 ⟨su, cu, rfl, hr, hb⟩
    replace H := (H).getsRow hb hr
    clear hb hr
    try clear C
    try simp only [World.size_alloc, List.nil_append, List.cons_append, List.append_assoc] at H
    try clear w2
    have C := H.cells
    try simp only [cellsOf, cellsM, apartOf, apartM, and_true] at C
    dsimp only
    have hn := H.nilRow 76 5
    clear H
    have H := hn
    clear hn
    simp only [List.nil_append, List.cons_append] at H
    try clear C
    try simp only [World.size_alloc, List.nil_append, List.cons_append, List.append_assoc] at H
    have C := H.cells
    try simp only [cellsOf, cellsM, apartOf, apartM, and_true] at C
    go_wp2_with fail
    go_loopw [12, 111] (fun u i wr => ∃ (n : Nat) (ds : List Dd) (sv : Option Addr) (cv : Nat), i = .int .i64 n ∧ u = .slice sv ds.length cv ∧ n ≤ us.length ∧ ds.length = n ∧ Hid (ds = (us.take n).map (ddOf ps k)) ∧ HS NoD w [.blk bR #[.int .i64 1, .int .i64 k, .int .i64 0, .int .i64 0, .int .i64 0] 76, .row (.slice su us.length cu) 61 2 us.length (us.flatMap uC), .row (.slice sv ds.length cv) 76 5 ds.length (ds.flatMap ddC)] wr) (fun _ i _ => us.length - (intOf i).toNat)
    case atStart => exact ⟨0, [], none, 0, rfl, rfl, Nat.zero_le _, rfl, rfl, H⟩
    case round =>
      clear H C
      obtain ⟨n, ds, sv, cv, rfl, rfl, hk, hdl, HD, H⟩ := hrel
      have hdl2 : ds.length ≤ 100000 := by omega
      have HDL := Lib.hid hdl
      clear hdl
      skip
      try clear C
      try simp only [World.size_alloc, List.nil_append, List.cons_append, List.append_assoc] at H
      have C := H.cells
      try simp only [cellsOf, cellsM, apartOf, apartM, and_true] at C
      by_cases hlt : n < us.length
      · have HSU := Lib.hid (ddOf_succ ps k hlt)
        obtain ⟨b', o', rfl, hb', hc⟩ := (H.rowLies 1 uC_len rfl rfl).at hlt
        obtain ⟨x, hx⟩ : ∃ x, x = us[n]! := ⟨_, rfl⟩
        rw [← hx] at hc
        have HX0 := Lib.hid hx
        obtain ⟨xp, xn⟩ := x
        have c0 : wr.cell? ⟨b', o' + n * 2, none⟩ = some (.int .i64 xp) := hc 0 _ rfl
        have c1 : wr.cell? ⟨b', o' + n * 2 + 1, none⟩ = some (.int .i64 xn) := hc 1 _ rfl
        clear hc hx
        go_upto_region 23 with fail
        clear c0 c1
        generalize hwb : wr.alloc _ = w4
        replace H := HS.eqW hwb H.alloc
        try simp only [World.size_alloc, List.nil_append, List.cons_append, List.append_assoc] at H
        clear hwb
        generalize wr.heap.size = bU at H ⊢
        try clear C
        try clear wr
        have C := H.cells
        try simp only [cellsOf, cellsM, apartOf, apartM, and_true] at C
        obtain ⟨T, hT⟩ : ∃ T : Nat → Int, T = fun i => if (ps.take i).any (fun p => decide (p.id = xp) && p.tells) = true then 4 else 5 := ⟨_, rfl⟩
        have HTT := Lib.hid hT
        have hT0 : T 0 = 5 := by rw [hT]; rfl
        clear hT
        go_wp2_with fail
        go_loopw [15, 117] (fun kk i wr => ∃ (j : Nat), i = .int .i64 j ∧ j ≤ qs.length ∧ kk = .int .i64 (T j) ∧ HS NoD w [.blk bR #[.int .i64 1, .int .i64 k, .int .i64 0, .int .i64 0, .int .i64 0] 76, .row (.slice (some ⟨b', o', none⟩) us.length cu) 61 2 us.length (us.flatMap uC), .row (.slice sv ds.length cv) 76 5 ds.length (ds.flatMap ddC), .blk bU #[.int .i64 xp, .int .i64 xn] 61] wr) (fun _ i _ => qs.length - (intOf i).toNat)
        case atStart => exact ⟨0, rfl, Nat.zero_le _, by rw [hT0], H⟩
        case round =>
          clear H C
          obtain ⟨j, rfl, hj, rfl, H⟩ := hrel
          skip
          try clear C
          try simp only [World.size_alloc, List.nil_append, List.cons_append, List.append_assoc] at H
          have C := H.cells
          try simp only [cellsOf, cellsM, apartOf, apartM, and_true] at C
          by_cases hlj : j < qs.length
          · have hlt' := hlt
            clear hlt
            have hlt : j < qs.length := hlj
            obtain ⟨b, o, e0, hb, hc⟩ := (H.lies HL.out).at hlt
            cases e0
            have HM := Lib.hid (map_at hlt)
            have hpv := HI.out _ (mem_at hlt)
            obtain ⟨q, hxj⟩ : ∃ q, q = qs[j]! := ⟨_, rfl⟩
            rw [← hxj] at hc hpv
            have HX := Lib.hid hxj
            obtain ⟨⟨pi, pt, pd, pg, td⟩, pa, ta⟩ := q
            obtain ⟨⟨pb, pc, e1, hpc, hpl⟩, ⟨tb, tc, e2, htc, htl⟩⟩ := hpv
            have f1 : pa = .slice pb pg.length pc := e1
            have f2 : ta = .slice tb td.length tc := e2
            clear e1 e2
            subst f1 f2
            have HPG : Hid (Lies w w.heap.size pb 3 pg.length (fun j => pgC pg[j]!)) := hpl
            have HTD : Hid (Lies w w.heap.size tb 1 td.length (fun j => iC td[j]!)) := htl
            have HPC : Hid (pg.length ≤ pc ∧ (pb = none → pc = 0)) := hpc
            have HTC : Hid (td.length ≤ tc ∧ (tb = none → tc = 0)) := htc
            clear hpc htc
            clear hpl htl
            have c0 : wr.cell? ⟨b, o + j * 5, none⟩ = some (.int .i64 pi) := hc 0 _ rfl
            have c1 : wr.cell? ⟨b, o + j * 5 + 1, none⟩ = some (.bool pt) := hc 1 _ rfl
            have c2 : wr.cell? ⟨b, o + j * 5 + 2, none⟩ = some (.bool pd) := hc 2 _ rfl
            have c3 : wr.cell? ⟨b, o + j * 5 + 3, none⟩ = some (.slice pb pg.length pc) := hc 3 _ rfl
            have c4 : wr.cell? ⟨b, o + j * 5 + 4, none⟩ = some (.slice tb td.length tc) := hc 4 _ rfl
            clear hc hxj
            have HTS : Hid (T (j + 1) = if (decide (pi = xp) && pt) = true then 4 else T j) := by
              show _ = _
              have hpe : ps[j]! = ⟨pi, pt, pd, pg, td⟩ := by rw [← HQS.out, HM.out, ← HX.out]
              have hjp : j < ps.length := by rw [← HQS.out]; simpa using hlj
              rw [HTT.out]
              dsimp only
              rw [take_snoc hjp, List.any_append, hpe]
              simp only [List.any_cons, List.any_nil, Bool.or_false]
              cases (ps.take j).any (fun p => decide (p.id = xp) && p.tells) <;> cases (decide (pi = xp) && pt) <;> rfl
            go_upto_region 27 with fail
            clear c0 c1 c2 c3 c4
            generalize hwb : wr.alloc _ = w5
            replace H := HS.eqW hwb H.alloc
            try simp only [World.size_alloc, List.nil_append, List.cons_append, List.append_assoc] at H
            clear hwb
            generalize wr.heap.size = bP at H ⊢
            try clear C
            try clear wr
            have C := H.cells
            try simp only [cellsOf, cellsM, apartOf, apartM, and_true] at C
            by_cases hid : pi = xp
            · subst hid
              cases pt with
              | true =>
                have HT2 : Hid (T (j + 1) = 4) := by show _ = _; rw [HTS.out]; simp
                go_wp2_with fail
                go_roundw
                case rel => exact ⟨j + 1, by go_num, by omega, by rw [HT2.out], HS.less H (by repeat (first | exact .slnil | refine .cons_cons _ ?_ | refine .cons _ ?_))⟩
                case measure => simp [intOf]; omega
              | false =>
                have HT2 : Hid (T (j + 1) = T j) := by show _ = _; rw [HTS.out]; simp
                go_wp2_with fail
                go_roundw
                case rel => exact ⟨j + 1, by go_num, by omega, by rw [HT2.out], HS.less H (by repeat (first | exact .slnil | refine .cons_cons _ ?_ | refine .cons _ ?_))⟩
                case measure => simp [intOf]; omega
            · have hidb : (pi == xp) = false := beq_eq_false_iff_ne.2 hid
              have HT2 : Hid (T (j + 1) = T j) := by show _ = _; rw [HTS.out]; simp [hid]
              go_wp2_with fail
              go_roundw
              case rel => exact ⟨j + 1, by go_num, by omega, by rw [HT2.out], HS.less H (by repeat (first | exact .slnil | refine .cons_cons _ ?_ | refine .cons _ ?_))⟩
              case measure => simp [intOf]; omega
          · have hje : j = ps.length := by have : ps.length = qs.length := by rw [← HQS.out]; simp
                                           omega
            have HDO : Hid (ddOf ps k (xp, xn) = ⟨T j, k, 0, xp, xn⟩) := by
              show _ = _
              unfold ddOf
              rw [HTT.out]
              dsimp only
              rw [hje, List.take_length]
            clear hje hT0
            generalize T j = tk at HDO ⊢
            clear HTT
            skip
            go_upto_region 30 with fail
            go_wp2_with (at_builtin; refine wpList_append_H rfl (.tmp 131) (.tmp 139) 70 rfl elemDd H.alloc 2 rfl rfl 4 rfl rfl rfl rfl (by decide) (by unfold maxLen; omega) (by omega) (fun g9 c9 wz HZ => ?_); clear H C)
            simp only [List.nil_append, List.cons_append, List.append_assoc, List.set_cons_succ, List.set_cons_zero] at HZ
            go_roundw
            case rel =>
              refine ⟨_, _, _, _, _, ⟨n + 1, (by go_num), ds ++ [⟨tk, k, 0, xp, xn⟩], _, _, (show Value.slice (some ⟨g9, 0, none⟩) (ds.length + 1) c9 = _ by rw [List.length_append]; rfl), by omega, by rw [List.length_append, HDL.out]; rfl, (show Hid _ from ?_), ?_⟩, rfl, rfl, rfl, rfl, rfl⟩
              · show _ = _
                first
                  | rw [HSU.out, ← HX0.out, HDO.out, ← HD.out]
                  | rw [← List.map_take, HSU.out, ← HX0.out, HDO.out, ← HD.out]
                  | rw [← List.map_take, HSU.out, ← HX0.out, HDO.out, List.map_take, ← HD.out]
              · rw [List.length_append, ddC_snoc]
                exact HS.less HZ (by repeat (first | exact .slnil | refine .cons_cons _ ?_ | refine .cons _ ?_))
            case measure => simp [intOf]; omega
      · have hne : n = us.length := by omega
        have HDV : Hid (ds = vicP ps k) := by
          show _ = _
          rw [HD.out, hne, List.take_length, HUV.out]
        clear hne
        skip
        go_upto_region 32 with fail
        go_wp2_with (at_builtin; refine wpList_append_H rfl (.tmp 142) (.tmp 144) 70 rfl elemDd H.alloc 2 rfl rfl 3 rfl rfl rfl rfl (by decide) (by unfold maxLen; omega) (by omega) (fun g9 c9 wz HZ => ?_); clear H C)
        simp only [List.nil_append, List.cons_append, List.append_assoc, List.set_cons_succ, List.set_cons_zero] at HZ
        have C := HZ.cells
        try simp only [cellsOf, cellsM, apartOf, apartM, and_true] at C
        refine bodyPost_ret (by simp [results, Try.results47, go_sem, C]; try rfl) rfl ?_
        rw [← HDV.out]
        exact givesD_app HZ 2 rfl
  · have hsb : (st == 0) = false := beq_eq_false_iff_ne.2 hs0
    rw [if_pos ⟨ht, .inr (by rw [HFA.out]; exact decide_eq_false hs0)⟩] at hRS
    have HR := Lib.hid hRS
    clear hRS
    rw [HR.out]
    go_enter Try.func47, Try.ntmps47
    have H := HS.start NoD w
    go_wp2_with fail
    refine (HV.out).mono ?_
    rintro _ w1 ⟨rfl, hb⟩
    replace H := H.below hb
    clear hb
    try clear C
    try simp only [World.size_alloc, List.nil_append, List.cons_append, List.append_assoc] at H
    have C := H.cells
    try simp only [cellsOf, cellsM, apartOf, apartM, and_true] at C
    dsimp only
    have ct : w1.cell? ⟨b, o + t * 2, none⟩ = some (.int .i64 st) := (H.was (p := ⟨b, o + t * 2, none⟩) HB.out id).trans HCT.out
    go_wp2_with fail
    refine bodyPost_ret (by simp [results, Try.results47, go_sem, C]; try rfl) rfl ?_
    exact givesD_nil H 40
theorem rdecide_gen {F : List Fr} (hx : F.length ≤ 1000) {ps : List Pr} (hsm : SmallP ps) (f tq : Int) {sa : Option Addr} (c : Nat) {v : Value} (w : World) (hl : Lies w w.heap.size sa 2 F.length (fun j => frC F[j]!)) (hp : Ps w w.heap.size v ps) :
    Calls Try.prog 47 #[.slice sa F.length c, v, .int .i64 f, .int .i64 tq] w (GivesD (decP (okB F ps) F ps f tq) w) := by
  cases hb : okB F ps with
  | true => exact rdecide_any hx hsm hb f tq c w hl hp
  | false =>
    have HV := Lib.hid (right_gen hx hsm c w hl hp)
    rw [hb] at HV
    rw [show decP false F ps f tq = (1, []) from rfl]
    clear hb hl hp
    go_enter Try.func47, Try.ntmps47
    have H := HS.start NoD w
    go_wp2_with fail
    refine (HV.out).mono ?_
    rintro _ w1 ⟨rfl, hb⟩
    replace H := H.below hb
    clear hb
    try clear C
    try simp only [World.size_alloc, List.nil_append, List.cons_append, List.append_assoc] at H
    have C := H.cells
    try simp only [cellsOf, cellsM, apartOf, apartM, and_true] at C
    dsimp only
    go_wp2_with fail
    refine bodyPost_ret (by simp [results, Try.results47, go_sem, C]; try rfl) rfl ?_
    exact givesD_nil H 1
end Go.Proofs.Ytmnddnlabdafcaa
