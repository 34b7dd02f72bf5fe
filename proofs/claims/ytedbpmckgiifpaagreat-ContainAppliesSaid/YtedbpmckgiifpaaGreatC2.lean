/- mill.Frames, mill.Held: valid frames and programs out of a stream of numbers. -/
import Derived.Test.YtedbpmckgiifpaaGreatC1
import Derived.Test.YtedbpmckgiifpaaGreatO8
namespace Go.Proofs.YtedbpmckgiifpaaGreat
set_option linter.unusedSimpArgs false
set_option linter.unusedVariables false
open Go.RowKit
set_option maxRecDepth 100000
attribute [local go_sem] lt_more ne_more ne_more'
attribute [local irreducible] wpX wpF Calls

theorem states_at (j : Nat) (hj : j < 8) : ∃ k : Int, (#[.int .i64 0, .int .i64 2, .int .i64 2, .int .i64 1, .int .i64 3, .int .i64 4, .int .i64 5, .int .i64 0] : Array Value)[j]? = some (.int .i64 k) ∧ 0 ≤ k ∧ k ≤ 5 := by
  have : j = 0 ∨ j = 1 ∨ j = 2 ∨ j = 3 ∨ j = 4 ∨ j = 5 ∨ j = 6 ∨ j = 7 := by omega
  rcases this with rfl | rfl | rfl | rfl | rfl | rfl | rfl | rfl <;> exact ⟨_, rfl, by decide, by decide⟩
/-- Frames, each of which is right. -/
def FitAll (F : List Fr) : Prop := ∀ x ∈ F, fitB x.st x.bl = true
theorem FitAll.snoc {F : List Fr} (h : FitAll F) {s b : Int} (e : fitB s b = true) : FitAll (F ++ [Fr.mk s b]) := fun x hx => by
  rcases List.mem_append.1 hx with hx | hx
  · exact h x hx
  · cases List.mem_singleton.1 hx; exact e
theorem frC_snoc (F : List Fr) (s b : Int) : (F ++ [Fr.mk s b]).flatMap frC = F.flatMap frC ++ [.int .i64 s, .int .i64 b] := by rw [List.flatMap_append]; simp [frC]
/-- What a call with a stream hands back: valid frames. -/
def GivesF (B b : Nat) (w : World) (x : Ending) (w' : World) : Prop :=
  ∃ v F, x = .returned v ∧ FrV F ∧ HS (OneD b) w [.dice B b, .row v 47 2 F.length (F.flatMap frC)] w'
set_option maxHeartbeats 8000000 in
theorem mframes_any (B b : Nat) (w : World) (hd : Dice B w b) (hB : B ≤ w.heap.size) :
    Calls Tryz.prog 17 #[.pointer (some ⟨b, 0, none⟩)] w (GivesF B b w) := by
  go_enter Tryz.func17, Tryz.ntmps17
  have H := HS.startDice hd hB
  have C := H.cells
  try simp only [cellsOf, cellsM, apartOf, apartM, and_true] at C
  clear hd
  go_wp2_with fail
  refine (next_any 10 (by omega) B b _ (H.at 0 rfl)).mono ?_
  rintro _ w1 ⟨d, rfl, hd3, hd, hg⟩
  replace H := (H).diceAt 0 rfl hg hd
  clear hg hd
  try clear C
  try simp only [World.size_alloc, List.nil_append, List.cons_append, List.append_assoc] at H
  have C := H.cells
  try simp only [cellsOf, cellsM, apartOf, apartM, and_true] at C
  dsimp only
  replace hd3 : 0 ≤ d ∧ d < 10 := ⟨hd3.1, hd3.lt (by decide)⟩
  have hn := H.nilRow 47 2
  clear H
  have H := hn
  clear hn
  try simp only [List.nil_append, List.cons_append] at H
  try clear C
  try simp only [World.size_alloc, List.nil_append, List.cons_append, List.append_assoc] at H
  have C := H.cells
  try simp only [cellsOf, cellsM, apartOf, apartM, and_true] at C
  go_wp2_with fail
  go_loopw [3, 4] (fun u kk wr => ∃ (k : Int) (F : List Fr), kk = .int .i64 k ∧ 0 ≤ k ∧ k + F.length = 1 + d ∧ Hid (FitAll F) ∧ HS (OneD b) w [.dice B b, .row u 47 2 F.length (F.flatMap frC)] wr) (fun _ kk _ => (intOf kk).toNat)
  case atStart => exact ⟨1 + d, [], rfl, by omega, by simp, (fun p hp => by cases hp), H⟩
  case round =>
    clear H C
    obtain ⟨k, F, rfl, hk0, hkF, HN, H⟩ := hrel
    skip
    try clear C
    try simp only [World.size_alloc, List.nil_append, List.cons_append, List.append_assoc] at H
    have C := H.cells
    try simp only [cellsOf, cellsM, apartOf, apartM, and_true] at C
    by_cases hk : 0 < k
    · have hFl : F.length ≤ 10 := by omega
      go_wp2_with fail
      refine (next_any 8 (by omega) B b _ (H.alloc.at 0 rfl)).mono ?_
      rintro _ w2 ⟨v0, rfl, hv0, hd, hg⟩
      replace H := (H.alloc).diceAt 0 rfl hg hd
      clear hg hd
      try clear C
      try simp only [World.size_alloc, List.nil_append, List.cons_append, List.append_assoc] at H
      generalize wr.heap.size = bL at H ⊢
      try clear wr
      have C := H.cells
      try simp only [cellsOf, cellsM, apartOf, apartM, and_true] at C
      dsimp only
      obtain ⟨j, rfl⟩ : ∃ j : Nat, v0 = j := ⟨v0.toNat, by have := hv0.1; omega⟩
      have hj : j < 8 := by have := hv0.lt (by omega); omega
      obtain ⟨s, hs, hs0, hs5⟩ := states_at j hj
      have hjl : ((j : Nat) : Int) < 8 := by omega
      have ck : w2.cell? ⟨bL, j, none⟩ = some (.int .i64 s) := (Blk.cell (H.at 2 rfl) j).trans hs
      clear C hs hv0
      go_upto_region 6 with fail
      clear ck
      replace H := H.less (L' := [.dice B b, .row u3 47 2 F.length (F.flatMap frC)]) (by repeat (first | exact .slnil | refine .cons_cons _ ?_ | refine .cons _ ?_))
      try clear C
      generalize hwb : w2.alloc _ = w3
      replace H := HS.eqW hwb H.alloc
      try simp only [World.size_alloc, List.nil_append, List.cons_append, List.append_assoc] at H
      clear hwb
      generalize w2.heap.size = bQ at H ⊢
      try clear C
      try clear w2
      have C := H.cells
      try simp only [cellsOf, cellsM, apartOf, apartM, and_true] at C
      by_cases hq : s = 1
      · subst hq
        go_wp2_with fail
        refine (next_any 4 (by omega) B b _ (H.at 0 rfl)).mono ?_
        rintro _ w4 ⟨d2, rfl, hd2, hd, hg⟩
        replace H := (H).diceAt 0 rfl hg hd
        clear hg hd
        try clear C
        try simp only [World.size_alloc, List.nil_append, List.cons_append, List.append_assoc] at H
        try clear w3
        have C := H.cells
        try simp only [cellsOf, cellsM, apartOf, apartM, and_true] at C
        dsimp only
        replace hd2 : 0 ≤ d2 ∧ d2 < 4 := ⟨hd2.1, hd2.lt (by decide)⟩
        go_upto_region 8 with fail
        generalize hwb : World.setCell _ _ _ = wq
        replace H := HS.eqW hwb (H.setTo (o := 1) (v := .int .i64 (1 + d2)) 2 rfl rfl)
        clear hwb
        replace H : HS (OneD b) w [.dice B b, .row u3 47 2 F.length (F.flatMap frC), .blk bQ #[.int .i64 1, .int .i64 (1 + d2)] 47] wq := H
        skip
        try clear C
        try simp only [World.size_alloc, List.nil_append, List.cons_append, List.append_assoc] at H
        have C := H.cells
        try simp only [cellsOf, cellsM, apartOf, apartM, and_true] at C
        go_wp2_with (at_builtin; refine wpList_append_H rfl (.tmp 26) (.tmp 28) 27 rfl elemFr H.alloc 1 rfl rfl 3 rfl rfl rfl rfl (by decide) (by unfold maxLen; omega) (by omega) (fun g cap wz HZ => ?_); clear H C)
        go_roundw
        case rel =>
          refine ⟨k - 1, F ++ [⟨1, 1 + d2⟩], by go_num, by omega, by simp; omega, Lib.hid (HN.out.snoc (show fitB 1 (1 + d2) = true by unfold fitB; rw [if_pos rfl]; exact decide_eq_true ⟨by omega, by omega⟩)), ?_⟩
          rw [List.length_append, frC_snoc]
          exact HZ.less (by repeat (first | exact .slnil | refine .cons_cons _ ?_ | refine .cons _ ?_))
        case measure => simp [intOf]; omega
      · have hqb : (s == 1) = false := beq_eq_false_iff_ne.2 hq
        go_upto_region 8 with fail
        go_wp2_with (at_builtin; refine wpList_append_H rfl (.tmp 26) (.tmp 28) 27 rfl elemFr H.alloc 1 rfl rfl 3 rfl rfl rfl rfl (by decide) (by unfold maxLen; omega) (by omega) (fun g cap wz HZ => ?_); clear H C)
        go_roundw
        case rel =>
          refine ⟨k - 1, F ++ [⟨s, 0⟩], by go_num, by omega, by simp; omega, Lib.hid (HN.out.snoc (show fitB s 0 = true by unfold fitB; rw [if_neg hq]; exact decide_eq_true ⟨hs0, hs5, rfl⟩)), ?_⟩
          rw [List.length_append, frC_snoc]
          exact HZ.less (by repeat (first | exact .slnil | refine .cons_cons _ ?_ | refine .cons _ ?_))
        case measure => simp [intOf]; omega
    · go_wp2_with fail
      go_ret
      exact ⟨_, F, rfl, ⟨by omega, by omega, HN.out⟩, H⟩

theorem flat_setFr {F : List Fr} {k : Nat} (hk : k < F.length) (x : Fr) : ((F.flatMap frC).set (k * 2) (.int .i64 x.st)).set (k * 2 + 1) (.int .i64 x.bl) = (F.set k x).flatMap frC := by
  have e1 := flat_set frC_len F k 0 { F[k]! with st := x.st } (.int .i64 x.st) hk (by decide) rfl
  rw [Nat.add_zero] at e1
  rw [← e1]
  have e2 := flat_set frC_len (F.set k { F[k]! with st := x.st }) k 1 x (.int .i64 x.bl) (by rw [List.length_set]; exact hk) (by decide) (by rw [set_bang _ hk]; rfl)
  rw [← e2, List.set_set]
/-- Frames that somebody has are clean or dirty. -/
def HeldTo (F : List Fr) (ps : List Pr) (k : Nat) : Prop := ∀ i : Nat, i < k → usersL ps i ≠ [] → (F[i]!).st = 1 ∨ (F[i]!).st = 2
theorem FrV.set {F : List Fr} (h : FrV F) (k : Nat) {x : Fr} (e : fitB x.st x.bl = true) : FrV (F.set k x) :=
  ⟨by rw [List.length_set]; exact h.low, by rw [List.length_set]; exact h.high, fun y hy => by
    rcases List.mem_or_eq_of_mem_set hy with hy | rfl
    · exact h.fit y hy
    · exact e⟩
theorem HeldTo.set {F : List Fr} {ps : List Pr} {k : Nat} (h : HeldTo F ps k) (hk : k < F.length) (x : Fr) (hx : usersL ps k ≠ [] → x.st = 1 ∨ x.st = 2) : HeldTo (F.set k x) ps (k + 1) := by
  intro i hi hu
  rcases Nat.lt_succ_iff_lt_or_eq.1 hi with hi | rfl
  · have e : (F.set k x)[i]! = F[i]! := by
      rw [getElem!_pos (F.set k x) i (by rw [List.length_set]; omega), getElem!_pos F i (by omega), List.getElem_set_ne (by omega)]
    rw [e]; exact h i hi hu
  · rw [set_bang _ hk]; exact hx hu
theorem HeldTo.next {F : List Fr} {ps : List Pr} {k : Nat} (h : HeldTo F ps k) (hx : usersL ps k ≠ [] → (F[k]!).st = 1 ∨ (F[k]!).st = 2) : HeldTo F ps (k + 1) := by
  intro i hi hu
  rcases Nat.lt_succ_iff_lt_or_eq.1 hi with hi | rfl
  · exact h i hi hu
  · exact hx hu
/-- What mill.Held hands back. -/
structure Held (F : List Fr) (ps : List Pr) : Prop where
  fr : FrV F
  pr : MP F.length ps
  held : HeldTo F ps F.length
def GivesH (B b : Nat) (w : World) (x : Ending) (w' : World) : Prop :=
  ∃ v F u qs, x = .returned (.tuple #[v, u]) ∧ Held F (qs.map (·.p)) ∧ HS (OneD b) w [.dice B b, .row v 47 2 F.length (F.flatMap frC), Item.many (PsR u qs)] w'
set_option maxHeartbeats 8000000 in
theorem mheld_any (B b : Nat) (w : World) (hd : Dice B w b) (hB : B ≤ w.heap.size) :
    Calls Tryz.prog 6 #[.pointer (some ⟨b, 0, none⟩)] w (GivesH B b w) := by
  go_enter Tryz.func6, Tryz.ntmps6
  have H := HS.startDice hd hB
  have C := H.cells
  try simp only [cellsOf, cellsM, apartOf, apartM, and_true] at C
  clear hd
  go_wp2_with fail
  refine (mframes_any B b _ (H.at 0 rfl) (Nat.le_trans hB H.size)).mono ?_
  rintro _ w1 ⟨v, F, rfl, hF, K⟩
  replace H := HS.joinDice H 0 rfl K (fun A hA => by cases List.mem_singleton.1 hA; rfl)
  clear K
  simp only [List.nil_append, List.cons_append] at H
  have hF1 := hF.low
  have hF2 := hF.high
  obtain ⟨sa, c, rfl⟩ := ownsRow_slice (H.at 1 rfl)
  obtain ⟨g, rfl, hg, hcap⟩ := ownsRow_ptr (H.at 1 rfl) (by omega)
  have HF := Lib.hid hF
  obtain ⟨n, hn⟩ : ∃ n, n = F.length := ⟨_, rfl⟩
  rw [← hn] at H hF1 hF2 hcap ⊢
  have HN := Lib.hid hn
  clear hF hg hn
  dsimp only
  skip
  try clear C
  try simp only [World.size_alloc, List.nil_append, List.cons_append, List.append_assoc] at H
  have C := H.cells
  try simp only [cellsOf, cellsM, apartOf, apartM, and_true] at C
  go_wp2_with fail
  refine (mprogs_any n (by omega) B b _ (H.at 0 rfl) (Nat.le_trans hB H.size)).mono ?_
  rintro _ w2 ⟨u, qs, rfl, hmp, K⟩
  replace H := HS.joinDice H 0 rfl K (fun A hA => by cases List.mem_singleton.1 hA; rfl)
  clear K
  simp only [List.nil_append, List.cons_append] at H
  obtain ⟨ps, hps⟩ : ∃ ps, ps = qs.map (·.p) := ⟨_, rfl⟩
  rw [← hps] at hmp
  have HP := Lib.hid hmp
  have HPS := Lib.hid hps
  clear hmp hps
  dsimp only
  skip
  try clear C
  try simp only [World.size_alloc, List.nil_append, List.cons_append, List.append_assoc] at H
  have C := H.cells
  try simp only [cellsOf, cellsM, apartOf, apartM, and_true] at C
  go_wp2_with fail
  go_loopw [15] (fun i wr => ∃ (j : Nat) (F : List Fr), i = .int .i64 j ∧ j ≤ n ∧ F.length = n ∧ Hid (FrV F) ∧ Hid (HeldTo F ps j) ∧ HS (OneD b) w [.dice B b, .row (.slice (some ⟨g, 0, none⟩) n c) 47 2 n (F.flatMap frC), Item.many (PsR u qs)] wr) (fun i _ => n - (intOf i).toNat)
  case atStart => exact ⟨0, F, rfl, Nat.zero_le _, HN.out.symm, HF, (fun i hi => absurd hi (Nat.not_lt_zero _)), H⟩
  case round =>
    clear H C HF HN
    obtain ⟨j, F', rfl, hj, hn, HF, HH, H⟩ := hrel
    clear F
    skip
    try clear C
    try simp only [World.size_alloc, List.nil_append, List.cons_append, List.append_assoc] at H
    have C := H.cells
    try simp only [cellsOf, cellsM, apartOf, apartM, and_true] at C
    by_cases hlt : j < n
    · have hps : HS (OneD b) w _ wr := H
      have HUS := Lib.hid (rusers_any j HP.out.good.small wr (by have := H.ownPs 2 rfl; rw [← HPS.out] at this; exact this))
      clear hps
      have HUE : Hid (usersL ps j ≠ [] ↔ 0 < (usersL ps j).length) := Lib.hid List.length_pos_iff.symm
      generalize (usersL ps j).flatMap uC = us at HUS
      generalize (usersL ps j).length = m at HUS HUE
      obtain ⟨x, hx⟩ : ∃ x, x = F'[j]! := ⟨_, rfl⟩
      have c0 : wr.cell? ⟨g, j * 2, none⟩ = some (.int .i64 x.st) ∧ wr.frozen? ⟨g, j * 2, none⟩ = false := by
        have h1 := H.rowCells 1 rfl (j * 2) (by omega)
        refine ⟨h1.1.trans ?_, h1.2⟩
        have := flat_get frC_len F' j 0 (.int .i64 x.st) (by omega) (by rw [hx]; rfl)
        exact this
      obtain ⟨c0, c0f⟩ := c0
      have HX := Lib.hid hx
      clear hx
      clear c0 c0f
      go_wp2_with fail
      refine (HUS.out).mono ?_
      rintro _ w1 ⟨su, cu, rfl, hr, hb⟩
      replace H := (H).getsRow hb hr
      clear hb hr
      try clear C
      try simp only [World.size_alloc, List.nil_append, List.cons_append, List.append_assoc] at H
      try clear wr
      have C := H.cells
      try simp only [cellsOf, cellsM, apartOf, apartM, and_true] at C
      dsimp only
      replace H := H.less (L' := [.dice B b, .row (.slice (some ⟨g, 0, none⟩) n c) 47 2 n (F'.flatMap frC), Item.many (PsR u qs)]) (by repeat (first | exact .slnil | refine .cons_cons _ ?_ | refine .cons _ ?_))
      try clear C
      have c0 : w1.cell? ⟨g, j * 2, none⟩ = some (.int .i64 x.st) ∧ w1.frozen? ⟨g, j * 2, none⟩ = false := by
        have h1 := H.rowCells 1 rfl (j * 2) (by omega)
        refine ⟨h1.1.trans ?_, h1.2⟩
        have := flat_get frC_len F' j 0 (.int .i64 x.st) (by omega) (by rw [HX.out]; rfl)
        exact this
      have c1 : w1.cell? ⟨g, j * 2 + 1, none⟩ = some (.int .i64 x.bl) ∧ w1.frozen? ⟨g, j * 2 + 1, none⟩ = false := by
        have h1 := H.rowCells 1 rfl (j * 2 + 1) (by omega)
        refine ⟨h1.1.trans ?_, h1.2⟩
        have := flat_get frC_len F' j 1 (.int .i64 x.bl) (by omega) (by rw [HX.out]; rfl)
        exact this
      obtain ⟨c0, c0f⟩ := c0
      obtain ⟨c1, c1f⟩ := c1
      by_cases hm : 0 < m
      · have hmi : (0 : Int) < m := by omega
        by_cases hs : x.st = 1
        · rw [hs] at c0
          go_wp2_with fail
          go_roundw
          case rel => exact ⟨j + 1, F', by go_num, by omega, hn, HF, Lib.hid (HH.out.next fun _ => .inl (by rw [← HX.out]; exact hs)), H⟩
          case measure => simp [intOf]; omega
        · have hsb : (x.st == 1) = false := beq_eq_false_iff_ne.2 hs
          go_wp2_with fail
          generalize hwb : World.setCell _ _ _ = w5
          have H9 := HS.eqW hwb ((H.rowSet 1 rfl (j * 2) (.int .i64 2)).rowSet 1 rfl (j * 2 + 1) (.int .i64 0))
          clear hwb H c0 c0f c1 c1f
          have hfl := flat_setFr (show j < F'.length by omega) ⟨2, 0⟩
          dsimp only at hfl
          simp only [List.set_cons_succ, List.set_cons_zero] at H9
          rw [hfl] at H9
          clear hfl
          skip
          go_roundw
          case rel => exact ⟨j + 1, F'.set j ⟨2, 0⟩, by go_num, by omega, by rw [List.length_set]; exact hn, Lib.hid (HF.out.set j rfl), Lib.hid (HH.out.set (by omega) _ fun _ => .inr rfl), H9⟩
          case measure => simp [intOf]; omega
      · have hm0 : m = 0 := by omega
        subst hm0
        go_wp2_with fail
        go_roundw
        case rel => exact ⟨j + 1, F', by go_num, by omega, hn, HF, Lib.hid (HH.out.next fun h => absurd (HUE.out.1 h) hm), H⟩
        case measure => simp [intOf]; omega
    · go_wp2_with fail
      refine bodyPost_ret (by simp [results, Tryz.results6, go_sem, C]; try rfl) rfl ?_
      exact ⟨_, F', u, qs, rfl, ⟨HF.out, by rw [hn, ← HPS.out]; exact HP.out, by rw [hn, ← HPS.out]; rw [show n = j by omega]; exact HH.out⟩, by rw [hn]; exact H⟩
end Go.Proofs.YtedbpmckgiifpaaGreat
