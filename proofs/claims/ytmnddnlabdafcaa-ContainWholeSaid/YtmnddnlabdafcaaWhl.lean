/- The statement ContainWhole: its walk. -/
import Derived.Test.YtmnddnlabdafcaaWhLaw3
import Derived.Test.YtmnddnlabdafcaaVal
namespace Go.Proofs.Ytmnddnlabdafcaa
set_option linter.unusedSimpArgs false
set_option linter.unusedVariables false
open Go.RowKit
set_option maxRecDepth 100000
attribute [local go_sem] lt_more ne_more ne_more'
attribute [local irreducible] wpX wpF Calls

theorem users_any {F : Int} {ps : List Pr} (g : GoodP F ps) {i : Nat} (hi : i < ps.length) (f : Int) : (usersL ps f).any (fun u => decide (u.1 = (ps[i]!).id)) = hasF f ps[i]! := by
  rw [Bool.eq_iff_iff, List.any_eq_true]
  unfold hasF
  rw [List.any_eq_true]
  constructor
  · rintro ⟨u, hu, e⟩
    rw [usersL_eq] at hu
    obtain ⟨p, hp, hu⟩ := List.mem_flatMap.1 hu
    obtain ⟨x, hx, rfl⟩ := List.mem_map.1 hu
    have e1 : p.id = (ps[i]!).id := of_decide_eq_true e
    obtain ⟨j, hj, rfl⟩ := List.getElem_of_mem hp
    have e2 : j = i := by
      rw [getElem!_pos ps i hi] at e1
      rcases Nat.lt_trichotomy j i with h | h | h
      · have := List.pairwise_iff_getElem.1 g.asc j i hj hi h; omega
      · exact h
      · have := List.pairwise_iff_getElem.1 g.asc i j hi hj h; omega
    subst e2
    rw [getElem!_pos ps j hj]
    exact ⟨x, (List.mem_filter.1 hx).1, (List.mem_filter.1 hx).2⟩
  · rintro ⟨x, hx, e⟩
    refine ⟨((ps[i]!).id, x.n), ?_, by simp⟩
    rw [usersL_eq]
    exact List.mem_flatMap.2 ⟨ps[i]!, at_mem hi, List.mem_map.2 ⟨x, List.mem_filter.2 ⟨hx, e⟩, rfl⟩⟩
theorem any_snoc {α : Type} [Inhabited α] {l : List α} {j : Nat} (h : j < l.length) (p : α → Bool) : (l.take (j + 1)).any p = ((l.take j).any p || p l[j]!) := by
  rw [take_snoc h, List.any_append]; simp
theorem runs_nil {F a : List Fr} {ps b : List Pr} (h : RunsD [] F ps a b) : a = F ∧ b = ps := by
  cases h; exact ⟨rfl, rfl⟩
theorem dec_shortW {F : List Fr} {ps : List Pr} (hg : GoodP F.length ps) (f tq : Int) : (decP true F ps f tq).2.length ≤ 200000 := by
  have h1 := users_short hg f
  unfold decP
  have h2 : (vicP ps f ++ [(⟨1, f, 0, 0, 0⟩ : Dd)]).length ≤ 200000 := by
    rw [List.length_append]
    unfold vicP
    rw [List.length_map]
    simp
    omega
  dsimp only
  repeat' split
  all_goals first
    | exact h2
    | exact Nat.zero_le _
    | (simp; done)
set_option maxHeartbeats 32000000 in
theorem whl_walk (sa : Option Addr) (len cap : Nat) (hl : len ≤ maxLen) (f : Int) (none' : Bool) (w : World) (hI : Ints w sa len) :
    Calls Try.prog 10 #[.slice sa len cap, .int .i64 f, .bool none'] w (Gives (.bool true) w) := by
  have HI := Lib.hid hI
  clear hI
  have hli := light_any sa len cap hl
  clear hl
  have HAW := Lib.hid awake33_any
  by_cases h400 : len ≤ 400
  · rw [decide_eq_true h400] at hli
    have HLI := Lib.hid hli
    clear hli
    go_enter Try.func10, Try.ntmps10
    have H := HS.start NoD w
    go_wp2_with fail
    refine (gives_of (HLI.out _)).mono ?_
    rintro _ w1 ⟨rfl, hb⟩
    replace H := H.below hb
    clear hb
    try clear C
    try simp only [World.size_alloc, List.nil_append, List.cons_append, List.append_assoc] at H
    have C := H.cells
    try simp only [cellsOf, cellsM, apartOf, apartM, and_true] at C
    dsimp only
    go_wp2_with fail
    refine (roll_at w.heap.size _ _ _ h400 _ H.size (H.ints HI.out)).mono ?_
    rintro _ w2 ⟨bd, rfl, hd, hb, hbb⟩
    replace H := H.getsDice hb hd hbb (Nat.le_refl _)
    clear hb hd hbb
    try clear C
    try simp only [World.size_alloc, List.nil_append, List.cons_append, List.append_assoc] at H
    try clear w1
    have C := H.cells
    try simp only [cellsOf, cellsM, apartOf, apartM, and_true] at C
    dsimp only
    go_wp2_with fail
    refine (mheld_any w.heap.size bd _ (H.at 0 rfl) H.size).mono ?_
    rintro _ w2 ⟨v1, F, u, qs, rfl, hhe, K⟩
    replace H := HS.joinDice H 0 rfl K (fun A hA => by simp only [List.mem_cons, List.mem_nil_iff, or_false] at hA; rcases hA with rfl | rfl <;> rfl)
    clear K
    simp only [List.nil_append, List.cons_append] at H
    have hF1 := hhe.fr.low
    have hF2 := hhe.fr.high
    obtain ⟨sf, cf, rfl⟩ := ownsRow_slice (H.at 1 rfl)
    obtain ⟨gf, rfl, hgs, hcapf⟩ := ownsRow_ptr (H.at 1 rfl) (by omega)
    have h3 := hhe.pr.three
    have hgl := hhe.pr.good.len
    rw [List.length_map] at h3 hgl
    obtain ⟨ps, hps⟩ : ∃ ps, ps = qs.map (·.p) := ⟨_, rfl⟩
    have hpl : ps.length = qs.length := by rw [hps]; simp
    rw [← hps] at hhe
    have HPS := Lib.hid hps.symm
    have HHE := Lib.hid hhe
    clear hhe hgs hcapf hps
    obtain ⟨g, d, rfl, hcap, H⟩ := H.openPs 2 rfl (by omega)
    simp only [List.eraseIdx_cons_succ, List.eraseIdx_cons_zero, List.nil_append, List.cons_append] at H
    skip
    try clear C
    try simp only [World.size_alloc, List.nil_append, List.cons_append, List.append_assoc] at H
    have C := H.cells
    try simp only [cellsOf, cellsM, apartOf, apartM, and_true] at C
    dsimp only
    obtain ⟨md, hmd⟩ : ∃ md, md = modF f F.length := ⟨_, rfl⟩
    have hmc : ∀ w, Calls Try.prog 17 #[.int .i64 f, .int .i64 F.length] w (Gives (.int .i64 md) w) := fun w => by rw [hmd]; exact gives_of (mod_any _ _ _)
    have hmb := modF_in (n := f) (m := F.length) (by omega) (by omega)
    rw [← hmd] at hmb
    clear hmd
    obtain ⟨k, rfl⟩ : ∃ k : Nat, md = k := ⟨md.toNat, by omega⟩
    have hk : k < F.length := by omega
    have HMC := Lib.hid hmc
    clear hmc hmb
    go_wp2_with fail
    refine (HMC.out _).mono ?_
    rintro _ w3 ⟨rfl, hb⟩
    replace H := H.below hb
    clear hb
    try clear C
    try simp only [World.size_alloc, List.nil_append, List.cons_append, List.append_assoc] at H
    try clear w2
    have C := H.cells
    try simp only [cellsOf, cellsM, apartOf, apartM, and_true] at C
    dsimp only
    clear HMC
    go_wp2_with fail
    have HFI := Lib.hid (freeI_or F)
    have hfr := r28free_any (F := F) (by omega) cf w3 (H.rowLies 1 frC_len rfl rfl)
    generalize freeI F = fi at HFI hfr
    refine (hfr).mono ?_
    rintro _ w4 ⟨rfl, hb⟩
    replace H := H.below hb
    clear hb
    try clear C
    try simp only [World.size_alloc, List.nil_append, List.cons_append, List.append_assoc] at H
    try clear w3
    have C := H.cells
    try simp only [cellsOf, cellsM, apartOf, apartM, and_true] at C
    dsimp only
    clear hfr
    go_upto_region 6 with fail
    have hfi : -1 ≤ fi := by rcases HFI.out with e | e; omega; unfold freeAtF at e; simp at e; omega
    go_cut [48] from 43 to 47 (fun y wx => ∃ bb : Bool, y = .bool bb ∧ Hid (bb = false → fi ≠ k) ∧ HS NoD w [.dice w.heap.size bd, .row (.slice (some ⟨gf, 0, none⟩) F.length cf) 66 2 F.length (F.flatMap frC), .row (.slice (some ⟨g, 0, none⟩) qs.length d) 31 5 qs.length (qs.flatMap pvC), Item.many (qs.flatMap innerR)] wx)
    case first =>
      skip
      cases none' with
      | true =>
        go_wp2_with fail
        go_meet
        case rel => exact ⟨true, rfl, (fun h => by cases h), H⟩
      | false =>
        by_cases hfk : fi = k
        · have hfb : (fi == (k : Int)) = true := by simp [hfk]
          skip
          go_wp2_with fail
          go_meet
          case rel => exact ⟨true, rfl, (fun h => by cases h), H⟩
        · have hfb : (fi == (k : Int)) = false := beq_eq_false_iff_ne.2 hfk
          skip
          go_wp2_with fail
          go_meet
          case rel => exact ⟨false, rfl, (fun _ => hfk), H⟩
    case rest =>
      clear H C
      obtain ⟨bb, rfl, HBB, H⟩ := hcut
      skip
      try clear C
      try simp only [World.size_alloc, List.nil_append, List.cons_append, List.append_assoc] at H
      have C := H.cells
      try simp only [cellsOf, cellsM, apartOf, apartM, and_true] at C
      go_step
      go_cut [9, 48] from 9 to 9 (fun y _ wx => ∃ tq : Int, y = .int .i64 tq ∧ -1 ≤ tq ∧ Hid (tq = -1 ∨ freeAtF F tq = true ∧ tq ≠ k) ∧ HS NoD w [.dice w.heap.size bd, .row (.slice (some ⟨gf, 0, none⟩) F.length cf) 66 2 F.length (F.flatMap frC), .row (.slice (some ⟨g, 0, none⟩) qs.length d) 31 5 qs.length (qs.flatMap pvC), Item.many (qs.flatMap innerR)] wx)
      case first =>
        cases bb with
        | true =>
          go_wp2_with fail
          go_meet
          case rel => exact ⟨-1, rfl, by omega, .inl rfl, H⟩
        | false =>
          have HT := Lib.hid (show fi = -1 ∨ freeAtF F fi = true ∧ fi ≠ k from HFI.out.imp id fun e => ⟨e, HBB.out rfl⟩)
          skip
          go_wp2_with fail
          go_meet
          case rel => exact ⟨fi, rfl, hfi, HT.out, H⟩
      case rest =>
      clear H C HFI HBB hfi
      obtain ⟨tq, rfl, htq1, HTQ, H⟩ := hcut
      obtain ⟨l, a, b, hdec, hfin⟩ := whole_law HHE.out hk tq HTQ.out
      obtain ⟨s, hs⟩ : ∃ s, s = (F[k]!).st := ⟨_, rfl⟩
      rw [← hs] at hfin
      have HS0 := Lib.hid hs
      have HFN := Lib.hid hfin
      have HDE := Lib.hid (fun w hl hp => cdecide_any HHE.out.fr HHE.out.pr.good (k : Int) tq (sa := some ⟨gf, 0, none⟩) cf (v := .slice (some ⟨g, 0, none⟩) qs.length d) w hl hp)
      rw [hdec] at HDE
      have hll : l.length ≤ 200000 := by have := dec_shortW HHE.out.pr.good (F := F) (k : Int) tq; rw [hdec] at this; exact this
      clear hdec hfin hs HTQ
      skip
      try clear C
      try simp only [World.size_alloc, List.nil_append, List.cons_append, List.append_assoc] at H
      have C := H.cells
      try simp only [cellsOf, cellsM, apartOf, apartM, and_true] at C
      go_wp2_with fail
      refine (HDE.out _ (H.rowLies 1 frC_len rfl rfl) (by have := H.ownPs2 2 3 rfl rfl rfl; rw [HPS.out] at this; exact this)).mono ?_
      rintro _ w5 ⟨sl, cl, rfl, hr, hb⟩
      replace H := (H).getsRow hb hr
      clear hb hr
      try clear C
      try simp only [World.size_alloc, List.nil_append, List.cons_append, List.append_assoc] at H
      try clear wc
      have C := H.cells
      try simp only [cellsOf, cellsM, apartOf, apartM, and_true] at C
      dsimp only
      clear HDE
      try dsimp only at H
      try dsimp only
      try clear C
      try simp only [World.size_alloc, List.nil_append, List.cons_append, List.append_assoc] at H
      have C := H.cells
      try simp only [cellsOf, cellsM, apartOf, apartM, and_true] at C
      have HUS := Lib.hid (fun w h => rusers_any k (v := .slice (some ⟨g, 0, none⟩) qs.length d) HHE.out.pr.good.smallP w h)
      have hul := users_short HHE.out.pr.good k
      have HUA := Lib.hid (fun (i : Nat) (hi : i < ps.length) => users_any HHE.out.pr.good hi k)
      generalize usersL ps k = us at HUS hul HUA
      go_wp2_with fail
      refine (HUS.out _ (by have := H.ownPs2 2 3 rfl rfl rfl; rw [HPS.out] at this; exact this)).mono ?_
      rintro _ w6 ⟨su, cu, rfl, hr, hb⟩
      replace H := (H).getsRow hb hr
      clear hb hr
      try clear C
      try simp only [World.size_alloc, List.nil_append, List.cons_append, List.append_assoc] at H
      try clear w5
      have C := H.cells
      try simp only [cellsOf, cellsM, apartOf, apartM, and_true] at C
      dsimp only
      clear HUS
      go_wp2_with fail
      have hst0 : (l.take 0).any (fun d => decide (d.k = 6)) = false := rfl
      go_loopw [13, 14, 15, 66] (fun st va vb jj wr => ∃ (j : Nat) (Fj : List Fr) (bj : List Pr) (sj : Option Addr) (cj nj dj : Nat) (tj : Option Addr), jj = .int .i64 j ∧ j ≤ l.length ∧ st = .bool ((l.take j).any (fun d => decide (d.k = 6))) ∧ va = .slice sj F.length cj ∧ vb = .slice tj qs.length dj ∧ Hid (Fj.length = F.length) ∧ Hid (bj.length = qs.length) ∧ Hid (RunsD (l.drop j) Fj bj a b) ∧ Hid (Lies wr wr.heap.size sj 2 F.length (fun j => frC Fj[j]!)) ∧ Hid (Ps wr wr.heap.size (.slice tj qs.length dj) bj) ∧ HS NoD w [.dice w.heap.size bd, .row (.slice (some ⟨gf, 0, none⟩) F.length cf) 66 2 F.length (F.flatMap frC), .row (.slice (some ⟨g, 0, none⟩) qs.length d) 31 5 qs.length (qs.flatMap pvC), Item.many (qs.flatMap innerR), .row (.slice sl l.length cl) 76 5 l.length (l.flatMap ddC), .row (.slice su us.length cu) 61 2 us.length (us.flatMap uC)] wr) (fun _ _ _ jj _ => l.length - (intOf jj).toNat)
      case atStart => exact ⟨0, F, ps, some ⟨gf, 0, none⟩, cf, 0, d, some ⟨g, 0, none⟩, rfl, Nat.zero_le _, rfl, rfl, rfl, rfl, hpl, HFN.out.runs, H.rowLies 1 frC_len rfl rfl, (by have := H.ownPs2 2 3 rfl rfl rfl; rw [HPS.out] at this; exact this), H⟩
      case round =>
        clear H C hst0
        obtain ⟨j, Fj, bj, sj, cj, nj, dj, tj, rfl, hj, rfl, rfl, rfl, hfl, hbl, HR, HLJ, HPJ, H⟩ := hrel
        skip
        try clear C
        try simp only [World.size_alloc, List.nil_append, List.cons_append, List.append_assoc] at H
        have C := H.cells
        try simp only [cellsOf, cellsM, apartOf, apartM, and_true] at C
        by_cases hlt : j < l.length
        · obtain ⟨b0, o0, rfl, hb0, hc0⟩ := (H.rowLies 4 ddC_len rfl rfl).at hlt
          obtain ⟨dd, hdd⟩ : ∃ x, x = l[j]! := ⟨_, rfl⟩
          have hrun := HR.out
          rw [List.drop_eq_getElem_cons hlt, ← getElem!_pos l j hlt, ← hdd] at hrun
          have HAS := Lib.hid (any_snoc hlt (fun d => decide (d.k = 6)))
          rw [← hdd] at HAS hc0
          clear hdd
          obtain ⟨F', p', hF', hg', happ, hn1, hn2, hrest⟩ : ∃ F' p', FrV Fj ∧ GoodP Fj.length bj ∧ applyP Fj bj dd = (0, F', p') ∧ F'.length = Fj.length ∧ p'.length = bj.length ∧ RunsD (l.drop (j + 1)) F' p' a b := by
            cases hrun with
            | cons h1 h2 h3 h4 h5 h6 => exact ⟨_, _, h1, h2, h3, h4, h5, h6⟩
          have HAP := Lib.hid (fun w hl hp => capply_any hF' hg' dd (sa := sj) cj (v := .slice tj qs.length dj) w hl hp)
          rw [happ, hfl.out] at HAP
          have HFL := Lib.hid hfl.out
          have HBL := Lib.hid hbl.out
          clear hfl hbl
          have HRE := Lib.hid hrest
          clear hF' hg' happ hrest hrun HR
          obtain ⟨x0, x1, x2, x3, x4⟩ := dd
          have c0 : wr.cell? ⟨b0, o0 + j * 5, none⟩ = some (.int .i64 x0) := hc0 0 _ rfl
          have c1 : wr.cell? ⟨b0, o0 + j * 5 + 1, none⟩ = some (.int .i64 x1) := hc0 1 _ rfl
          have c2 : wr.cell? ⟨b0, o0 + j * 5 + 2, none⟩ = some (.int .i64 x2) := hc0 2 _ rfl
          have c3 : wr.cell? ⟨b0, o0 + j * 5 + 3, none⟩ = some (.int .i64 x3) := hc0 3 _ rfl
          have c4 : wr.cell? ⟨b0, o0 + j * 5 + 4, none⟩ = some (.int .i64 x4) := hc0 4 _ rfl
          clear hc0
          go_upto_region 16 with fail
          clear c0 c1 c2 c3 c4
          generalize hwb : World.alloc _ _ = w9
          have HB1 := Lib.hid (show Below wr.heap.size wr w9 by rw [← hwb]; exact (Below.refl _ _).alloc (Nat.le_refl _) _)
          replace H := HS.eqW hwb H.alloc
          try simp only [World.size_alloc, List.nil_append, List.cons_append, List.append_assoc] at H
          clear hwb
          generalize wr.heap.size = bD at H ⊢
          skip
          try clear C
          try simp only [World.size_alloc, List.nil_append, List.cons_append, List.append_assoc] at H
          have C := H.cells
          try simp only [cellsOf, cellsM, apartOf, apartM, and_true] at C
          go_wp2_with fail
          refine (HAP.out _ (((HS.start NoD wr).below HB1.out).liesUp HLJ.out) (((HS.start NoD wr).below HB1.out).psUp HPJ.out)).mono ?_
          rintro _ w7 ⟨fv, pv, rs, rfl, hrs, K⟩
          have HRS := Lib.hid (show rs.map (·.p) = p' from hrs)
          have hrl : rs.length = p'.length := by rw [← HRS.out]; simp
          clear hrs HAP HB1 HLJ HPJ
          replace H := H.join K (fun A hA => by simp only [List.mem_cons, List.mem_nil_iff, or_false] at hA; rcases hA with rfl | rfl <;> rfl)
          clear K
          simp only [List.nil_append, List.cons_append] at H
          obtain ⟨sx, cx, rfl⟩ := ownsRow_slice (H.at 7 rfl)
          obtain ⟨tx, dx, rfl⟩ : ∃ sb d, pv = .slice sb rs.length d := by
            have H' := H.manyCons 8 rfl
            simp only [List.eraseIdx_cons_succ, List.eraseIdx_cons_zero, List.nil_append, List.cons_append, outerR] at H'
            exact ownsRow_slice (H'.at 8 rfl)
          have HF' : Hid (F'.length = F.length) := Lib.hid (hn1.trans HFL.out)
          have HP' : Hid (p'.length = qs.length) := Lib.hid (hn2.trans HBL.out)
          rw [HF'.out] at H ⊢
          rw [hrl, HP'.out] at H ⊢
          skip
          try clear C
          try simp only [World.size_alloc, List.nil_append, List.cons_append, List.append_assoc] at H
          have C := H.cells
          try simp only [cellsOf, cellsM, apartOf, apartM, and_true] at C
          dsimp only
          obtain ⟨st, hst⟩ : ∃ st, st = (l.take j).any (fun d => decide (d.k = 6)) := ⟨_, rfl⟩
          rw [← hst] at HAS ⊢
          clear hst
          cases st with
          | true =>
            go_wp2_with fail
            go_roundw
            case rel => exact ⟨j + 1, F', p', sx, cx, 0, dx, tx, by go_num, by omega, (by rw [HAS.out]; simp [*]), rfl, rfl, HF'.out, HP'.out, HRE.out, H.rowLies 7 frC_len rfl HF'.out.symm, (by have := H.ownPs 8 rfl; rw [HRS.out] at this; exact this), HS.less (L' := [.dice w.heap.size bd, .row (.slice (some ⟨gf, 0, none⟩) F.length cf) 66 2 F.length (F.flatMap frC), .row (.slice (some ⟨g, 0, none⟩) qs.length d) 31 5 qs.length (qs.flatMap pvC), Item.many (qs.flatMap innerR), .row (.slice (some ⟨b0, o0, none⟩) l.length cl) 76 5 l.length (l.flatMap ddC), .row (.slice su us.length cu) 61 2 us.length (us.flatMap uC)]) H (by repeat (first | exact .slnil | refine .cons_cons _ ?_ | refine .cons _ ?_))⟩
            case measure => simp [intOf]; omega
          | false =>
            by_cases h6 : x0 = 6
            · subst h6
              go_wp2_with fail
              go_roundw
              case rel => exact ⟨j + 1, F', p', sx, cx, 0, dx, tx, by go_num, by omega, (by rw [HAS.out]; simp [*]), rfl, rfl, HF'.out, HP'.out, HRE.out, H.rowLies 7 frC_len rfl HF'.out.symm, (by have := H.ownPs 8 rfl; rw [HRS.out] at this; exact this), HS.less (L' := [.dice w.heap.size bd, .row (.slice (some ⟨gf, 0, none⟩) F.length cf) 66 2 F.length (F.flatMap frC), .row (.slice (some ⟨g, 0, none⟩) qs.length d) 31 5 qs.length (qs.flatMap pvC), Item.many (qs.flatMap innerR), .row (.slice (some ⟨b0, o0, none⟩) l.length cl) 76 5 l.length (l.flatMap ddC), .row (.slice su us.length cu) 61 2 us.length (us.flatMap uC)]) H (by repeat (first | exact .slnil | refine .cons_cons _ ?_ | refine .cons _ ?_))⟩
              case measure => simp [intOf]; omega
            · have h6b : (x0 == 6) = false := beq_eq_false_iff_ne.2 h6
              have h6d : decide (x0 = 6) = false := decide_eq_false h6
              go_wp2_with fail
              go_roundw
              case rel => exact ⟨j + 1, F', p', sx, cx, 0, dx, tx, by go_num, by omega, (by rw [HAS.out]; simp [*]), rfl, rfl, HF'.out, HP'.out, HRE.out, H.rowLies 7 frC_len rfl HF'.out.symm, (by have := H.ownPs 8 rfl; rw [HRS.out] at this; exact this), HS.less (L' := [.dice w.heap.size bd, .row (.slice (some ⟨gf, 0, none⟩) F.length cf) 66 2 F.length (F.flatMap frC), .row (.slice (some ⟨g, 0, none⟩) qs.length d) 31 5 qs.length (qs.flatMap pvC), Item.many (qs.flatMap innerR), .row (.slice (some ⟨b0, o0, none⟩) l.length cl) 76 5 l.length (l.flatMap ddC), .row (.slice su us.length cu) 61 2 us.length (us.flatMap uC)]) H (by repeat (first | exact .slnil | refine .cons_cons _ ?_ | refine .cons _ ?_))⟩
              case measure => simp [intOf]; omega
        · have hje : j = l.length := by omega
          obtain ⟨eF, eb⟩ := runs_nil (by have hrun := HR.out; rw [hje, List.drop_length] at hrun; exact hrun)
          subst eF eb
          have hsto : (l.take j).any (fun d => decide (d.k = 6)) = l.any (fun d => decide (d.k = 6)) := by rw [hje, List.take_length]
          rw [hsto]
          obtain ⟨st, hst⟩ : ∃ st, st = l.any (fun d => decide (d.k = 6)) := ⟨_, rfl⟩
          have HMU : Hid (st = true ↔ s = 4 ∨ s = 3 ∧ decide (tq ≠ -1) = false) := Lib.hid (by
            rw [hst, ← HFN.out.stop, List.any_eq_true]
            exact ⟨fun ⟨d, h1, h2⟩ => ⟨d, h1, of_decide_eq_true h2⟩, fun ⟨d, h1, h2⟩ => ⟨d, h1, decide_eq_true h2⟩⟩)
          rw [← hst]
          have HFL := Lib.hid hfl.out
          have HBL := Lib.hid hbl.out
          clear hst hsto HR hje hfl hbl
          have HV1 := Lib.hid (fun w hl => r28valid_gen (F := a) (by rw [HFL.out]; omega) (sa := sj) cj w hl)
          rw [frB_t HFN.out.fr, HFL.out] at HV1
          have HV2 := Lib.hid (fun w h => rvalid_gen (F := F.length) (v := .slice tj qs.length dj) HFN.out.good.smallP w h)
          rw [goodB_t (by have := HFN.out.good; rw [HFL.out] at this; exact this)] at HV2
          have HU2 := Lib.hid (fun w h => rusers_any k (v := .slice tj qs.length dj) HFN.out.good.smallP w h)
          obtain ⟨ba, oa, esj, hba, hca⟩ := HLJ.out.at hk
          subst esj
          have HCA := Lib.hid (show wr.cell? ⟨ba, oa + k * 2, none⟩ = some (.int .i64 (a[k]!).st) from hca 0 _ rfl)
          have HBA := Lib.hid hba
          clear hca hba
          have G := HS.start NoD wr
          have f0 : wr.cell? ⟨gf, k * 2, none⟩ = some (.int .i64 s) := (H.rowCells 1 rfl (k * 2) (by omega)).1.trans (flat_get frC_len F k 0 (.int .i64 s) hk (by rw [HS0.out]; rfl))
          have HF0 := Lib.hid f0
          clear f0
          go_upto_region 22 with fail
          go_cut [151] from 101 to 150 (fun y wx => y = .bool false ∧ Hid (Ps wx wx.heap.size (.slice tj qs.length dj) b) ∧ HS NoD w [.dice w.heap.size bd, .row (.slice (some ⟨gf, 0, none⟩) F.length cf) 66 2 F.length (F.flatMap frC), .row (.slice (some ⟨g, 0, none⟩) qs.length d) 31 5 qs.length (qs.flatMap pvC), Item.many (qs.flatMap innerR), .row (.slice sl l.length cl) 76 5 l.length (l.flatMap ddC), .row (.slice su us.length cu) 61 2 us.length (us.flatMap uC)] wx)
          case first =>
            go_wp2_with fail
            refine (HV1.out _ HLJ.out).mono ?_
            rintro _ wa ⟨rfl, hb⟩
            replace H := H.below hb
            replace G := G.below hb
            clear hb
            dsimp only
            skip
            try clear C
            try simp only [World.size_alloc, List.nil_append, List.cons_append, List.append_assoc] at H
            have C := H.cells
            try simp only [cellsOf, cellsM, apartOf, apartM, and_true] at C
            go_wp2_with fail
            refine (HV2.out _ (G.psUp HPJ.out)).mono ?_
            rintro _ wb ⟨rfl, hb⟩
            replace H := H.below hb
            replace G := G.below hb
            clear hb
            dsimp only
            skip
            try clear C
            try simp only [World.size_alloc, List.nil_append, List.cons_append, List.append_assoc] at H
            have C := H.cells
            try simp only [cellsOf, cellsM, apartOf, apartM, and_true] at C
            have hmu : s = 4 ∨ (s = 3 ∧ tq < 0) ∨ (s = 3 ∧ ¬ tq < 0) ∨ (s ≠ 4 ∧ s ≠ 3) := by omega
            skip
            rcases hmu with rfl | ⟨rfl, ht0⟩ | ⟨rfl, ht0⟩ | ⟨hs4, hs3⟩
            · obtain rfl : st = true := HMU.out.2 (.inl rfl)
              skip
              have f0 : wb.cell? ⟨gf, k * 2, none⟩ = some (.int .i64 4) := (H.rowCells 1 rfl (k * 2) (by omega)).1.trans (flat_get frC_len F k 0 (.int .i64 4) hk (by show some (Value.int .i64 (F[k]!).st) = _; rw [← HS0.out]))
              go_wp2_with fail
              go_meet
              exact ⟨rfl, G.psUp HPJ.out, H⟩
            · have htd : decide (tq < 0) = true := decide_eq_true ht0
              obtain rfl : st = true := HMU.out.2 (.inr ⟨rfl, by simp; omega⟩)
              skip
              have f0 : wb.cell? ⟨gf, k * 2, none⟩ = some (.int .i64 3) := (H.rowCells 1 rfl (k * 2) (by omega)).1.trans (flat_get frC_len F k 0 (.int .i64 3) hk (by show some (Value.int .i64 (F[k]!).st) = _; rw [← HS0.out]))
              go_wp2_with fail
              go_meet
              exact ⟨rfl, G.psUp HPJ.out, H⟩
            · have htd : decide (tq < 0) = false := decide_eq_false ht0
              obtain rfl : st = false := by
                cases st with
                | false => rfl
                | true => have := HMU.out.1 rfl; simp at this; omega
              have hcl := HFN.out.clear (by simp; omega)
              rw [hcl.1] at HU2
              have H5 := Lib.hid hcl.2
              clear hcl
              skip
              go_wp2_with fail
              refine (HU2.out _ (G.psUp HPJ.out)).mono ?_
              rintro _ wd ⟨s9, c9, rfl, hr, hb⟩
              replace H := H.below hb
              replace G := G.below hb
              clear hr hb
              dsimp only
              skip
              try clear C
              try simp only [World.size_alloc, List.nil_append, List.cons_append, List.append_assoc] at H
              have C := H.cells
              try simp only [cellsOf, cellsM, apartOf, apartM, and_true] at C
              have f0 : wd.cell? ⟨gf, k * 2, none⟩ = some (.int .i64 3) := (H.rowCells 1 rfl (k * 2) (by omega)).1.trans (flat_get frC_len F k 0 (.int .i64 3) hk (by show some (Value.int .i64 (F[k]!).st) = _; rw [← HS0.out]))
              have f5 : wd.cell? ⟨ba, oa + k * 2, none⟩ = some (.int .i64 5) := by rw [← H5.out]; exact (G.was HBA.out id).trans HCA.out
              go_wp2_with fail
              go_meet
              exact ⟨rfl, G.psUp HPJ.out, H⟩
            · obtain rfl : st = false := by
                cases st with
                | false => rfl
                | true => have := HMU.out.1 rfl; omega
              have hcl := HFN.out.clear (by omega)
              have hs4b : (s == 4) = false := beq_eq_false_iff_ne.2 hs4
              have hs3b : (s == 3) = false := beq_eq_false_iff_ne.2 hs3
              rw [hcl.1] at HU2
              have H5 := Lib.hid hcl.2
              clear hcl
              skip
              go_wp2_with fail
              refine (HU2.out _ (G.psUp HPJ.out)).mono ?_
              rintro _ wd ⟨s9, c9, rfl, hr, hb⟩
              replace H := H.below hb
              replace G := G.below hb
              clear hr hb
              dsimp only
              skip
              try clear C
              try simp only [World.size_alloc, List.nil_append, List.cons_append, List.append_assoc] at H
              have C := H.cells
              try simp only [cellsOf, cellsM, apartOf, apartM, and_true] at C
              have f0 : wd.cell? ⟨gf, k * 2, none⟩ = some (.int .i64 s) := (H.rowCells 1 rfl (k * 2) (by omega)).1.trans (flat_get frC_len F k 0 (.int .i64 s) hk (by show some (Value.int .i64 (F[k]!).st) = _; rw [← HS0.out]))
              have f5 : wd.cell? ⟨ba, oa + k * 2, none⟩ = some (.int .i64 5) := by rw [← H5.out]; exact (G.was HBA.out id).trans HCA.out
              go_wp2_with fail
              go_meet
              exact ⟨rfl, G.psUp HPJ.out, H⟩
          case rest =>
            clear H C G HV1 HV2 HU2 HLJ HPJ
            obtain ⟨rfl, HPJ, H⟩ := hcut
            skip
            try clear C
            try simp only [World.size_alloc, List.nil_append, List.cons_append, List.append_assoc] at H
            have C := H.cells
            try simp only [cellsOf, cellsM, apartOf, apartM, and_true] at C
            go_wp2_with fail
            go_loopw [154] (fun ii wr => ∃ (i : Nat), ii = .int .i64 i ∧ i ≤ qs.length ∧ Hid (Ps wr wr.heap.size (.slice tj qs.length dj) b) ∧ HS NoD w [.dice w.heap.size bd, .row (.slice (some ⟨gf, 0, none⟩) F.length cf) 66 2 F.length (F.flatMap frC), .row (.slice (some ⟨g, 0, none⟩) qs.length d) 31 5 qs.length (qs.flatMap pvC), Item.many (qs.flatMap innerR), .row (.slice sl l.length cl) 76 5 l.length (l.flatMap ddC), .row (.slice su us.length cu) 61 2 us.length (us.flatMap uC)] wr) (fun ii _ => qs.length - (intOf ii).toNat)
            case atStart => exact ⟨0, rfl, Nat.zero_le _, HPJ.out, H⟩
            case round =>
              clear H C HPJ
              obtain ⟨i, rfl, hi, HPJ, H⟩ := hrel
              skip
              try clear C
              try simp only [World.size_alloc, List.nil_append, List.cons_append, List.append_assoc] at H
              have C := H.cells
              try simp only [cellsOf, cellsM, apartOf, apartM, and_true] at C
              by_cases hlt : i < qs.length
              · skip
                have hpf := H.pvForm 3 rfl hlt
                obtain ⟨pb, pc, tb, tc, hpf⟩ := hpf
                have hmap := map_at hlt
                rw [HPS.out] at hmap
                obtain ⟨p, hp⟩ : ∃ p, p = (qs[i]!).p := ⟨_, rfl⟩
                rw [← hp] at hpf hmap
                clear hp
                have HPF := Lib.hid hpf
                have HPE := Lib.hid hmap
                have hip : i < ps.length := by omega
                have HOUT := Lib.hid (HFN.out.out i hip)
                have HUI := Lib.hid (HUA.out i hip)
                rw [HPE.out] at HOUT HUI
                clear hpf hmap
                obtain ⟨pi, pt, pd, pg, td⟩ := p
                dsimp only at HPF HUI
                have hps9 := HHE.out.pr.good.smallP.2 _ (at_mem hip)
                rw [HPE.out] at hps9
                have hpg9 : pg.length ≤ 1000 := hps9.1
                have htd9 : td.length ≤ 1000 := hps9.2
                clear hps9
                have k0 : wr.cell? ⟨g, i * 5, none⟩ = some (.int .i64 pi) := (H.outerCell 2 rfl rfl hlt (m := 0) (by decide) (by rw [HPF.out]; rfl)).1
                have k1 := (H.outerCell 2 rfl rfl hlt (m := 1) (u := .bool pt) (by decide) (by rw [HPF.out]; rfl)).1
                have k2 := (H.outerCell 2 rfl rfl hlt (m := 2) (u := .bool pd) (by decide) (by rw [HPF.out]; rfl)).1
                have k3 := (H.outerCell 2 rfl rfl hlt (m := 3) (u := .slice pb pg.length pc) (by decide) (by rw [HPF.out]; rfl)).1
                have k4 := (H.outerCell 2 rfl rfl hlt (m := 4) (u := .slice tb td.length tc) (by decide) (by rw [HPF.out]; rfl)).1
                go_upto_region 27 with fail
                clear k0 k1 k2 k3 k4
                generalize hwb : World.alloc _ _ = w9
                have HB1 := Lib.hid (show Below wr.heap.size wr w9 by rw [← hwb]; exact (Below.refl _ _).alloc (Nat.le_refl _) _)
                replace H := HS.eqW hwb H.alloc
                try simp only [World.size_alloc, List.nil_append, List.cons_append, List.append_assoc] at H
                clear hwb
                generalize wr.heap.size = bP at H ⊢
                replace HPJ := Lib.hid (((HS.start NoD wr).below HB1.out).psUp HPJ.out)
                clear HB1
                skip
                try clear C
                try simp only [World.size_alloc, List.nil_append, List.cons_append, List.append_assoc] at H
                have C := H.cells
                try simp only [cellsOf, cellsM, apartOf, apartM, and_true] at C
                go_wp2_with fail
                go_loopw [21, 161] (fun hd mm wr => ∃ (m : Nat), mm = .int .i64 m ∧ m ≤ us.length ∧ hd = .bool ((us.take m).any (fun u => decide (u.1 = pi))) ∧ Hid (Ps wr wr.heap.size (.slice tj qs.length dj) b) ∧ HS NoD w [.dice w.heap.size bd, .row (.slice (some ⟨gf, 0, none⟩) F.length cf) 66 2 F.length (F.flatMap frC), .row (.slice (some ⟨g, 0, none⟩) qs.length d) 31 5 qs.length (qs.flatMap pvC), Item.many (qs.flatMap innerR), .row (.slice sl l.length cl) 76 5 l.length (l.flatMap ddC), .row (.slice su us.length cu) 61 2 us.length (us.flatMap uC), .blk bP #[.int .i64 pi, .bool pt, .bool pd, .slice pb pg.length pc, .slice tb td.length tc] 31] wr) (fun _ mm _ => us.length - (intOf mm).toNat)
                case atStart => exact ⟨0, rfl, Nat.zero_le _, rfl, HPJ.out, H⟩
                case round =>
                  clear H C HPJ
                  obtain ⟨m, rfl, hm, rfl, HPJ, H⟩ := hrel
                  skip
                  try clear C
                  try simp only [World.size_alloc, List.nil_append, List.cons_append, List.append_assoc] at H
                  have C := H.cells
                  try simp only [cellsOf, cellsM, apartOf, apartM, and_true] at C
                  by_cases hlm : m < us.length
                  · obtain ⟨b0, o0, e0, hb0, hc0⟩ := (H.rowLies 5 uC_len rfl rfl).at hlm
                    subst e0
                    obtain ⟨x, hx⟩ : ∃ x, x = us[m]! := ⟨_, rfl⟩
                    have HAS := Lib.hid (any_snoc hlm (fun u : Int × Int => decide (u.1 = pi)))
                    rw [← hx] at HAS hc0
                    clear hx
                    obtain ⟨u0, u1⟩ := x
                    have c0 : wr.cell? ⟨b0, o0 + m * 2, none⟩ = some (.int .i64 u0) := hc0 0 _ rfl
                    have c1 : wr.cell? ⟨b0, o0 + m * 2 + 1, none⟩ = some (.int .i64 u1) := hc0 1 _ rfl
                    clear hc0
                    obtain ⟨hv, hhv⟩ : ∃ b, b = (us.take m).any (fun u => decide (u.1 = pi)) := ⟨_, rfl⟩
                    rw [← hhv] at HAS ⊢
                    clear hhv
                    go_upto_region 31 with fail
                    clear c0 c1
                    generalize hwb : World.alloc _ _ = w9
                    have HB1 := Lib.hid (show Below wr.heap.size wr w9 by rw [← hwb]; exact (Below.refl _ _).alloc (Nat.le_refl _) _)
                    replace H := HS.eqW hwb H.alloc
                    try simp only [World.size_alloc, List.nil_append, List.cons_append, List.append_assoc] at H
                    clear hwb
                    generalize wr.heap.size = bU at H ⊢
                    replace HPJ := Lib.hid (((HS.start NoD wr).below HB1.out).psUp HPJ.out)
                    clear HB1
                    skip
                    try clear C
                    try simp only [World.size_alloc, List.nil_append, List.cons_append, List.append_assoc] at H
                    have C := H.cells
                    try simp only [cellsOf, cellsM, apartOf, apartM, and_true] at C
                    skip
                    cases hv with
                    | true =>
                      skip
                      go_wp2_with fail
                      go_roundw
                      case rel => exact ⟨m + 1, by go_num, by omega, (by rw [HAS.out]; simp [*]), HPJ.out, HS.less (L' := [.dice w.heap.size bd, .row (.slice (some ⟨gf, 0, none⟩) F.length cf) 66 2 F.length (F.flatMap frC), .row (.slice (some ⟨g, 0, none⟩) qs.length d) 31 5 qs.length (qs.flatMap pvC), Item.many (qs.flatMap innerR), .row (.slice sl l.length cl) 76 5 l.length (l.flatMap ddC), .row (.slice (some ⟨b0, o0, none⟩) us.length cu) 61 2 us.length (us.flatMap uC), .blk bP #[.int .i64 pi, .bool pt, .bool pd, .slice pb pg.length pc, .slice tb td.length tc] 31]) H (by repeat (first | exact .slnil | refine .cons_cons _ ?_ | refine .cons _ ?_))⟩
                      case measure => simp [intOf]; omega
                    | false =>
                      by_cases hu : u0 = pi
                      · have hub : (u0 == pi) = true := by simp [hu]
                        have hud : decide (u0 = pi) = true := decide_eq_true hu
                        clear hu
                        skip
                        go_wp2_with fail
                        go_roundw
                        case rel => exact ⟨m + 1, by go_num, by omega, (by rw [HAS.out]; simp [*]), HPJ.out, HS.less (L' := [.dice w.heap.size bd, .row (.slice (some ⟨gf, 0, none⟩) F.length cf) 66 2 F.length (F.flatMap frC), .row (.slice (some ⟨g, 0, none⟩) qs.length d) 31 5 qs.length (qs.flatMap pvC), Item.many (qs.flatMap innerR), .row (.slice sl l.length cl) 76 5 l.length (l.flatMap ddC), .row (.slice (some ⟨b0, o0, none⟩) us.length cu) 61 2 us.length (us.flatMap uC), .blk bP #[.int .i64 pi, .bool pt, .bool pd, .slice pb pg.length pc, .slice tb td.length tc] 31]) H (by repeat (first | exact .slnil | refine .cons_cons _ ?_ | refine .cons _ ?_))⟩
                        case measure => simp [intOf]; omega
                      · have hub : (u0 == pi) = false := beq_eq_false_iff_ne.2 hu
                        have hud : decide (u0 = pi) = false := decide_eq_false hu
                        skip
                        go_wp2_with fail
                        go_roundw
                        case rel => exact ⟨m + 1, by go_num, by omega, (by rw [HAS.out]; simp [*]), HPJ.out, HS.less (L' := [.dice w.heap.size bd, .row (.slice (some ⟨gf, 0, none⟩) F.length cf) 66 2 F.length (F.flatMap frC), .row (.slice (some ⟨g, 0, none⟩) qs.length d) 31 5 qs.length (qs.flatMap pvC), Item.many (qs.flatMap innerR), .row (.slice sl l.length cl) 76 5 l.length (l.flatMap ddC), .row (.slice (some ⟨b0, o0, none⟩) us.length cu) 61 2 us.length (us.flatMap uC), .blk bP #[.int .i64 pi, .bool pt, .bool pd, .slice pb pg.length pc, .slice tb td.length tc] 31]) H (by repeat (first | exact .slnil | refine .cons_cons _ ?_ | refine .cons _ ?_))⟩
                        case measure => simp [intOf]; omega
                  · skip
                    skip
                    have hme : us.take m = us := List.take_of_length_le (by omega)
                    rw [hme, HUI.out]
                    clear hme
                    obtain ⟨qz, hqz, ⟨sz, cz, ez, hcz, hlz⟩, hiz⟩ := HPJ.out
                    have hzl : qz.length = b.length := by rw [← hqz]; simp
                    injection ez with ez1 ez2 ez3
                    subst ez1 ez3
                    have hlz9 : i < qz.length := by rw [hzl, HBL.out]; exact hlt
                    obtain ⟨b3, o3, e3, hb3, hc3⟩ := hlz.at hlz9
                    subst e3
                    have hqv := hiz _ (mem_at hlz9)
                    have hbe : b[i]! = (qz[i]!).p := by rw [← hqz, map_at hlz9]
                    rw [hbe] at HOUT
                    obtain ⟨q, hq⟩ : ∃ q, q = qz[i]! := ⟨_, rfl⟩
                    rw [← hq] at hc3 hqv HOUT
                    clear hq hbe hlz9 hzl
                    obtain ⟨⟨qi, qt, qd, qpg, qtd⟩, qa, qb⟩ := q
                    obtain ⟨⟨xb, xc, ex1, hxc, -⟩, ⟨yb, yc, ex2, hyc, -⟩⟩ := hqv
                    have fx1 : qa = .slice xb qpg.length xc := ex1
                    have fx2 : qb = .slice yb qtd.length yc := ex2
                    clear ex1 ex2 hxc hyc hlz hiz hqz hcz
                    subst fx1 fx2
                    have r2 : wr.cell? ⟨b3, o3 + i * 5 + 2, none⟩ = some (.bool qd) := hc3 2 _ rfl
                    have r3 : wr.cell? ⟨b3, o3 + i * 5 + 3, none⟩ = some (.slice xb qpg.length xc) := hc3 3 _ rfl
                    have r4 : wr.cell? ⟨b3, o3 + i * 5 + 4, none⟩ = some (.slice yb qtd.length yc) := hc3 4 _ rfl
                    clear hc3
                    have f0 : wr.cell? ⟨gf, k * 2, none⟩ = some (.int .i64 s) := (H.rowCells 1 rfl (k * 2) (by omega)).1.trans (flat_get frC_len F k 0 (.int .i64 s) hk (by rw [HS0.out]; rfl))
                    obtain ⟨hv, hhv⟩ : ∃ b, b = hasF k ⟨pi, pt, pd, pg, td⟩ := ⟨_, rfl⟩
                    have hout := HOUT.out
                    unfold OutP at hout
                    rw [← hhv] at hout ⊢
                    dsimp only at hout
                    clear hhv HOUT HUI
                    have hc9 : i < qs.length := hlt
                    skip
                    rcases hout with ⟨v1, v2, v3, v4⟩ | ⟨v0, v1, v2, v3, v4, v5, v6, v7⟩ | ⟨v0, v1, v2, v3, v4, v5⟩
                    · subst v2
                      have n1 : ((qtd.length : Int) != (td.length : Int)) = false := by simp [v1]
                      have n3 : IntKind.i64.wrap ((pg.length : Int) - (qpg.length : Int)) = 0 := by rw [IntWalk.i64_in _ (by omega)]; omega
                      clear v1 v3
                      have hno := Lib.hid v4
                      clear v4
                      cases qd with
                      | true =>
                        skip
                        go_upto_region 33 with fail
                        go_region
                        go_upto_region 35 with fail
                        go_region
                        skip
                        cases hv with
                        | true =>
                          by_cases z1 : s = 1
                          · subst z1
                            by_cases z0 : 0 ≤ tq
                            · skip
                              as_aux_lemma =>
                                skip
                                go_wp2_with fail
                                go_roundw
                                case rel => exact ⟨i + 1, by go_num, by omega, HPJ.out, HS.less (L' := [.dice w.heap.size bd, .row (.slice (some ⟨gf, 0, none⟩) F.length cf) 66 2 F.length (F.flatMap frC), .row (.slice (some ⟨g, 0, none⟩) qs.length d) 31 5 qs.length (qs.flatMap pvC), Item.many (qs.flatMap innerR), .row (.slice sl l.length cl) 76 5 l.length (l.flatMap ddC), .row (.slice su us.length cu) 61 2 us.length (us.flatMap uC)]) H.drew.drew (by repeat (first | exact .slnil | refine .cons_cons _ ?_ | refine .cons _ ?_))⟩
                                case measure => simp [intOf]; omega
                            · skip
                              as_aux_lemma =>
                                skip
                                go_wp2_with fail
                                go_roundw
                                case rel => exact ⟨i + 1, by go_num, by omega, HPJ.out, HS.less (L' := [.dice w.heap.size bd, .row (.slice (some ⟨gf, 0, none⟩) F.length cf) 66 2 F.length (F.flatMap frC), .row (.slice (some ⟨g, 0, none⟩) qs.length d) 31 5 qs.length (qs.flatMap pvC), Item.many (qs.flatMap innerR), .row (.slice sl l.length cl) 76 5 l.length (l.flatMap ddC), .row (.slice su us.length cu) 61 2 us.length (us.flatMap uC)]) H.drew.drew (by repeat (first | exact .slnil | refine .cons_cons _ ?_ | refine .cons _ ?_))⟩
                                case measure => simp [intOf]; omega
                          · have z1b : (s == 1) = false := beq_eq_false_iff_ne.2 z1
                            by_cases z2 : s = 2
                            · exact absurd z2 (hno.out rfl)
                            · have z2b : (s == 2) = false := beq_eq_false_iff_ne.2 z2
                              as_aux_lemma =>
                                skip
                                go_wp2_with fail
                                go_roundw
                                case rel => exact ⟨i + 1, by go_num, by omega, HPJ.out, HS.less (L' := [.dice w.heap.size bd, .row (.slice (some ⟨gf, 0, none⟩) F.length cf) 66 2 F.length (F.flatMap frC), .row (.slice (some ⟨g, 0, none⟩) qs.length d) 31 5 qs.length (qs.flatMap pvC), Item.many (qs.flatMap innerR), .row (.slice sl l.length cl) 76 5 l.length (l.flatMap ddC), .row (.slice su us.length cu) 61 2 us.length (us.flatMap uC)]) H.drew.drew (by repeat (first | exact .slnil | refine .cons_cons _ ?_ | refine .cons _ ?_))⟩
                                case measure => simp [intOf]; omega
                        | false =>
                          by_cases z1 : s = 1
                          · subst z1
                            by_cases z0 : 0 ≤ tq
                            · skip
                              as_aux_lemma =>
                                skip
                                go_wp2_with fail
                                go_roundw
                                case rel => exact ⟨i + 1, by go_num, by omega, HPJ.out, HS.less (L' := [.dice w.heap.size bd, .row (.slice (some ⟨gf, 0, none⟩) F.length cf) 66 2 F.length (F.flatMap frC), .row (.slice (some ⟨g, 0, none⟩) qs.length d) 31 5 qs.length (qs.flatMap pvC), Item.many (qs.flatMap innerR), .row (.slice sl l.length cl) 76 5 l.length (l.flatMap ddC), .row (.slice su us.length cu) 61 2 us.length (us.flatMap uC)]) H.drew.drew (by repeat (first | exact .slnil | refine .cons_cons _ ?_ | refine .cons _ ?_))⟩
                                case measure => simp [intOf]; omega
                            · skip
                              as_aux_lemma =>
                                skip
                                go_wp2_with fail
                                go_roundw
                                case rel => exact ⟨i + 1, by go_num, by omega, HPJ.out, HS.less (L' := [.dice w.heap.size bd, .row (.slice (some ⟨gf, 0, none⟩) F.length cf) 66 2 F.length (F.flatMap frC), .row (.slice (some ⟨g, 0, none⟩) qs.length d) 31 5 qs.length (qs.flatMap pvC), Item.many (qs.flatMap innerR), .row (.slice sl l.length cl) 76 5 l.length (l.flatMap ddC), .row (.slice su us.length cu) 61 2 us.length (us.flatMap uC)]) H.drew.drew (by repeat (first | exact .slnil | refine .cons_cons _ ?_ | refine .cons _ ?_))⟩
                                case measure => simp [intOf]; omega
                          · have z1b : (s == 1) = false := beq_eq_false_iff_ne.2 z1
                            by_cases z2 : s = 2
                            · subst z2
                              as_aux_lemma =>
                                skip
                                go_wp2_with fail
                                go_roundw
                                case rel => exact ⟨i + 1, by go_num, by omega, HPJ.out, HS.less (L' := [.dice w.heap.size bd, .row (.slice (some ⟨gf, 0, none⟩) F.length cf) 66 2 F.length (F.flatMap frC), .row (.slice (some ⟨g, 0, none⟩) qs.length d) 31 5 qs.length (qs.flatMap pvC), Item.many (qs.flatMap innerR), .row (.slice sl l.length cl) 76 5 l.length (l.flatMap ddC), .row (.slice su us.length cu) 61 2 us.length (us.flatMap uC)]) H.drew.drew (by repeat (first | exact .slnil | refine .cons_cons _ ?_ | refine .cons _ ?_))⟩
                                case measure => simp [intOf]; omega
                            · have z2b : (s == 2) = false := beq_eq_false_iff_ne.2 z2
                              as_aux_lemma =>
                                skip
                                go_wp2_with fail
                                go_roundw
                                case rel => exact ⟨i + 1, by go_num, by omega, HPJ.out, HS.less (L' := [.dice w.heap.size bd, .row (.slice (some ⟨gf, 0, none⟩) F.length cf) 66 2 F.length (F.flatMap frC), .row (.slice (some ⟨g, 0, none⟩) qs.length d) 31 5 qs.length (qs.flatMap pvC), Item.many (qs.flatMap innerR), .row (.slice sl l.length cl) 76 5 l.length (l.flatMap ddC), .row (.slice su us.length cu) 61 2 us.length (us.flatMap uC)]) H.drew.drew (by repeat (first | exact .slnil | refine .cons_cons _ ?_ | refine .cons _ ?_))⟩
                                case measure => simp [intOf]; omega
                      | false =>
                        skip
                        go_upto_region 33 with fail
                        go_region
                        go_upto_region 35 with fail
                        go_region
                        skip
                        cases hv with
                        | true =>
                          by_cases z1 : s = 1
                          · subst z1
                            by_cases z0 : 0 ≤ tq
                            · skip
                              as_aux_lemma =>
                                skip
                                go_wp2_with fail
                                go_roundw
                                case rel => exact ⟨i + 1, by go_num, by omega, HPJ.out, HS.less (L' := [.dice w.heap.size bd, .row (.slice (some ⟨gf, 0, none⟩) F.length cf) 66 2 F.length (F.flatMap frC), .row (.slice (some ⟨g, 0, none⟩) qs.length d) 31 5 qs.length (qs.flatMap pvC), Item.many (qs.flatMap innerR), .row (.slice sl l.length cl) 76 5 l.length (l.flatMap ddC), .row (.slice su us.length cu) 61 2 us.length (us.flatMap uC)]) H.drew.drew (by repeat (first | exact .slnil | refine .cons_cons _ ?_ | refine .cons _ ?_))⟩
                                case measure => simp [intOf]; omega
                            · skip
                              as_aux_lemma =>
                                skip
                                go_wp2_with fail
                                go_roundw
                                case rel => exact ⟨i + 1, by go_num, by omega, HPJ.out, HS.less (L' := [.dice w.heap.size bd, .row (.slice (some ⟨gf, 0, none⟩) F.length cf) 66 2 F.length (F.flatMap frC), .row (.slice (some ⟨g, 0, none⟩) qs.length d) 31 5 qs.length (qs.flatMap pvC), Item.many (qs.flatMap innerR), .row (.slice sl l.length cl) 76 5 l.length (l.flatMap ddC), .row (.slice su us.length cu) 61 2 us.length (us.flatMap uC)]) H.drew.drew (by repeat (first | exact .slnil | refine .cons_cons _ ?_ | refine .cons _ ?_))⟩
                                case measure => simp [intOf]; omega
                          · have z1b : (s == 1) = false := beq_eq_false_iff_ne.2 z1
                            by_cases z2 : s = 2
                            · exact absurd z2 (hno.out rfl)
                            · have z2b : (s == 2) = false := beq_eq_false_iff_ne.2 z2
                              as_aux_lemma =>
                                skip
                                go_wp2_with fail
                                go_roundw
                                case rel => exact ⟨i + 1, by go_num, by omega, HPJ.out, HS.less (L' := [.dice w.heap.size bd, .row (.slice (some ⟨gf, 0, none⟩) F.length cf) 66 2 F.length (F.flatMap frC), .row (.slice (some ⟨g, 0, none⟩) qs.length d) 31 5 qs.length (qs.flatMap pvC), Item.many (qs.flatMap innerR), .row (.slice sl l.length cl) 76 5 l.length (l.flatMap ddC), .row (.slice su us.length cu) 61 2 us.length (us.flatMap uC)]) H.drew.drew (by repeat (first | exact .slnil | refine .cons_cons _ ?_ | refine .cons _ ?_))⟩
                                case measure => simp [intOf]; omega
                        | false =>
                          by_cases z1 : s = 1
                          · subst z1
                            by_cases z0 : 0 ≤ tq
                            · skip
                              as_aux_lemma =>
                                skip
                                go_wp2_with fail
                                go_roundw
                                case rel => exact ⟨i + 1, by go_num, by omega, HPJ.out, HS.less (L' := [.dice w.heap.size bd, .row (.slice (some ⟨gf, 0, none⟩) F.length cf) 66 2 F.length (F.flatMap frC), .row (.slice (some ⟨g, 0, none⟩) qs.length d) 31 5 qs.length (qs.flatMap pvC), Item.many (qs.flatMap innerR), .row (.slice sl l.length cl) 76 5 l.length (l.flatMap ddC), .row (.slice su us.length cu) 61 2 us.length (us.flatMap uC)]) H.drew.drew (by repeat (first | exact .slnil | refine .cons_cons _ ?_ | refine .cons _ ?_))⟩
                                case measure => simp [intOf]; omega
                            · skip
                              as_aux_lemma =>
                                skip
                                go_wp2_with fail
                                go_roundw
                                case rel => exact ⟨i + 1, by go_num, by omega, HPJ.out, HS.less (L' := [.dice w.heap.size bd, .row (.slice (some ⟨gf, 0, none⟩) F.length cf) 66 2 F.length (F.flatMap frC), .row (.slice (some ⟨g, 0, none⟩) qs.length d) 31 5 qs.length (qs.flatMap pvC), Item.many (qs.flatMap innerR), .row (.slice sl l.length cl) 76 5 l.length (l.flatMap ddC), .row (.slice su us.length cu) 61 2 us.length (us.flatMap uC)]) H.drew.drew (by repeat (first | exact .slnil | refine .cons_cons _ ?_ | refine .cons _ ?_))⟩
                                case measure => simp [intOf]; omega
                          · have z1b : (s == 1) = false := beq_eq_false_iff_ne.2 z1
                            by_cases z2 : s = 2
                            · subst z2
                              as_aux_lemma =>
                                skip
                                go_wp2_with fail
                                go_roundw
                                case rel => exact ⟨i + 1, by go_num, by omega, HPJ.out, HS.less (L' := [.dice w.heap.size bd, .row (.slice (some ⟨gf, 0, none⟩) F.length cf) 66 2 F.length (F.flatMap frC), .row (.slice (some ⟨g, 0, none⟩) qs.length d) 31 5 qs.length (qs.flatMap pvC), Item.many (qs.flatMap innerR), .row (.slice sl l.length cl) 76 5 l.length (l.flatMap ddC), .row (.slice su us.length cu) 61 2 us.length (us.flatMap uC)]) H.drew.drew (by repeat (first | exact .slnil | refine .cons_cons _ ?_ | refine .cons _ ?_))⟩
                                case measure => simp [intOf]; omega
                            · have z2b : (s == 2) = false := beq_eq_false_iff_ne.2 z2
                              as_aux_lemma =>
                                skip
                                go_wp2_with fail
                                go_roundw
                                case rel => exact ⟨i + 1, by go_num, by omega, HPJ.out, HS.less (L' := [.dice w.heap.size bd, .row (.slice (some ⟨gf, 0, none⟩) F.length cf) 66 2 F.length (F.flatMap frC), .row (.slice (some ⟨g, 0, none⟩) qs.length d) 31 5 qs.length (qs.flatMap pvC), Item.many (qs.flatMap innerR), .row (.slice sl l.length cl) 76 5 l.length (l.flatMap ddC), .row (.slice su us.length cu) 61 2 us.length (us.flatMap uC)]) H.drew.drew (by repeat (first | exact .slnil | refine .cons_cons _ ?_ | refine .cons _ ?_))⟩
                                case measure => simp [intOf]; omega
                    · subst v0 v1 v2 v3
                      have n1 : ((qtd.length : Int) != (td.length : Int)) = true := bne_iff_ne.2 (by omega)
                      have n3 : IntKind.i64.wrap ((pg.length : Int) - (qpg.length : Int)) = 1 := by rw [IntWalk.i64_in _ (by omega)]; omega
                      have hno := Lib.hid v7
                      clear v4 v5 v6 v7
                      skip
                      go_upto_region 33 with fail
                      go_region
                      go_upto_region 35 with fail
                      go_region
                      skip
                      by_cases z1 : s = 1
                      · subst z1
                        by_cases z0 : 0 ≤ tq
                        · exact absurd ⟨rfl, decide_eq_true (by omega)⟩ hno.out
                        · skip
                          as_aux_lemma =>
                            skip
                            go_wp2_with fail
                            go_roundw
                            case rel => exact ⟨i + 1, by go_num, by omega, HPJ.out, HS.less (L' := [.dice w.heap.size bd, .row (.slice (some ⟨gf, 0, none⟩) F.length cf) 66 2 F.length (F.flatMap frC), .row (.slice (some ⟨g, 0, none⟩) qs.length d) 31 5 qs.length (qs.flatMap pvC), Item.many (qs.flatMap innerR), .row (.slice sl l.length cl) 76 5 l.length (l.flatMap ddC), .row (.slice su us.length cu) 61 2 us.length (us.flatMap uC)]) H.drew.drew (by repeat (first | exact .slnil | refine .cons_cons _ ?_ | refine .cons _ ?_))⟩
                            case measure => simp [intOf]; omega
                      · have z1b : (s == 1) = false := beq_eq_false_iff_ne.2 z1
                        by_cases z2 : s = 2
                        · subst z2
                          as_aux_lemma =>
                            skip
                            go_wp2_with fail
                            go_roundw
                            case rel => exact ⟨i + 1, by go_num, by omega, HPJ.out, HS.less (L' := [.dice w.heap.size bd, .row (.slice (some ⟨gf, 0, none⟩) F.length cf) 66 2 F.length (F.flatMap frC), .row (.slice (some ⟨g, 0, none⟩) qs.length d) 31 5 qs.length (qs.flatMap pvC), Item.many (qs.flatMap innerR), .row (.slice sl l.length cl) 76 5 l.length (l.flatMap ddC), .row (.slice su us.length cu) 61 2 us.length (us.flatMap uC)]) H.drew.drew (by repeat (first | exact .slnil | refine .cons_cons _ ?_ | refine .cons _ ?_))⟩
                            case measure => simp [intOf]; omega
                        · have z2b : (s == 2) = false := beq_eq_false_iff_ne.2 z2
                          as_aux_lemma =>
                            skip
                            go_wp2_with fail
                            go_roundw
                            case rel => exact ⟨i + 1, by go_num, by omega, HPJ.out, HS.less (L' := [.dice w.heap.size bd, .row (.slice (some ⟨gf, 0, none⟩) F.length cf) 66 2 F.length (F.flatMap frC), .row (.slice (some ⟨g, 0, none⟩) qs.length d) 31 5 qs.length (qs.flatMap pvC), Item.many (qs.flatMap innerR), .row (.slice sl l.length cl) 76 5 l.length (l.flatMap ddC), .row (.slice su us.length cu) 61 2 us.length (us.flatMap uC)]) H.drew.drew (by repeat (first | exact .slnil | refine .cons_cons _ ?_ | refine .cons _ ?_))⟩
                            case measure => simp [intOf]; omega
                    · subst v0 v1 v2 v3
                      have n1 : ((qtd.length : Int) != (td.length : Int)) = false := by simp [v4]
                      have hno := Lib.hid v5
                      clear v4 v5
                      obtain ⟨lz, hlz⟩ : ∃ z, z = IntKind.i64.wrap ((pg.length : Int) - (qpg.length : Int)) := ⟨_, rfl⟩
                      have n3 : IntKind.i64.wrap ((pg.length : Int) - (qpg.length : Int)) = lz := hlz.symm
                      clear hlz
                      skip
                      go_upto_region 33 with fail
                      go_region
                      go_upto_region 35 with fail
                      go_region
                      skip
                      by_cases z1 : s = 1
                      · subst z1
                        by_cases z0 : 0 ≤ tq
                        · exact absurd ⟨rfl, decide_eq_true (by omega)⟩ hno.out
                        · skip
                          as_aux_lemma =>
                            skip
                            go_wp2_with fail
                            go_roundw
                            case rel => exact ⟨i + 1, by go_num, by omega, HPJ.out, HS.less (L' := [.dice w.heap.size bd, .row (.slice (some ⟨gf, 0, none⟩) F.length cf) 66 2 F.length (F.flatMap frC), .row (.slice (some ⟨g, 0, none⟩) qs.length d) 31 5 qs.length (qs.flatMap pvC), Item.many (qs.flatMap innerR), .row (.slice sl l.length cl) 76 5 l.length (l.flatMap ddC), .row (.slice su us.length cu) 61 2 us.length (us.flatMap uC)]) H.drew.drew (by repeat (first | exact .slnil | refine .cons_cons _ ?_ | refine .cons _ ?_))⟩
                            case measure => simp [intOf]; omega
                      · have z1b : (s == 1) = false := beq_eq_false_iff_ne.2 z1
                        by_cases z2 : s = 2
                        · subst z2
                          as_aux_lemma =>
                            skip
                            go_wp2_with fail
                            go_roundw
                            case rel => exact ⟨i + 1, by go_num, by omega, HPJ.out, HS.less (L' := [.dice w.heap.size bd, .row (.slice (some ⟨gf, 0, none⟩) F.length cf) 66 2 F.length (F.flatMap frC), .row (.slice (some ⟨g, 0, none⟩) qs.length d) 31 5 qs.length (qs.flatMap pvC), Item.many (qs.flatMap innerR), .row (.slice sl l.length cl) 76 5 l.length (l.flatMap ddC), .row (.slice su us.length cu) 61 2 us.length (us.flatMap uC)]) H.drew.drew (by repeat (first | exact .slnil | refine .cons_cons _ ?_ | refine .cons _ ?_))⟩
                            case measure => simp [intOf]; omega
                        · have z2b : (s == 2) = false := beq_eq_false_iff_ne.2 z2
                          as_aux_lemma =>
                            skip
                            go_wp2_with fail
                            go_roundw
                            case rel => exact ⟨i + 1, by go_num, by omega, HPJ.out, HS.less (L' := [.dice w.heap.size bd, .row (.slice (some ⟨gf, 0, none⟩) F.length cf) 66 2 F.length (F.flatMap frC), .row (.slice (some ⟨g, 0, none⟩) qs.length d) 31 5 qs.length (qs.flatMap pvC), Item.many (qs.flatMap innerR), .row (.slice sl l.length cl) 76 5 l.length (l.flatMap ddC), .row (.slice su us.length cu) 61 2 us.length (us.flatMap uC)]) H.drew.drew (by repeat (first | exact .slnil | refine .cons_cons _ ?_ | refine .cons _ ?_))⟩
                            case measure => simp [intOf]; omega
              · go_wp2_with fail
                refine (HAW.out _).mono ?_
                rintro _ w7 ⟨rfl, hb⟩
                replace H := H.below hb
                clear hb
                try clear C
                try simp only [World.size_alloc, List.nil_append, List.cons_append, List.append_assoc] at H
                try clear wr
                have C := H.cells
                try simp only [cellsOf, cellsM, apartOf, apartM, and_true] at C
                dsimp only
                go_wp2_with fail
                go_ret
                exact ⟨rfl, H.done⟩
  · rw [decide_eq_false h400] at hli
    have HLI := Lib.hid hli
    clear hli
    go_enter Try.func10, Try.ntmps10
    have H := HS.start NoD w
    go_wp2_with fail
    refine (gives_of (HLI.out _)).mono ?_
    rintro _ w1 ⟨rfl, hb⟩
    replace H := H.below hb
    clear hb
    try clear C
    try simp only [World.size_alloc, List.nil_append, List.cons_append, List.append_assoc] at H
    have C := H.cells
    try simp only [cellsOf, cellsM, apartOf, apartM, and_true] at C
    dsimp only
    go_wp2_with fail
    refine (HAW.out _).mono ?_
    rintro _ w2 ⟨rfl, hb⟩
    replace H := H.below hb
    clear hb
    try clear C
    try simp only [World.size_alloc, List.nil_append, List.cons_append, List.append_assoc] at H
    try clear w1
    have C := H.cells
    try simp only [cellsOf, cellsM, apartOf, apartM, and_true] at C
    dsimp only
    go_wp2_with fail
    go_ret
    exact ⟨rfl, H.done⟩
end Go.Proofs.Ytmnddnlabdafcaa
