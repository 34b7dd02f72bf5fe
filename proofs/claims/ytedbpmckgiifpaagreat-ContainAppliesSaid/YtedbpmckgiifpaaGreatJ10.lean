/- Several texts in one: Ret, Rap. -/
import Derived.Test.YtedbpmckgiifpaaGreatJ8
import Derived.Test.YtedbpmckgiifpaaGreatJ9
import Derived.Test.YtedbpmckgiifpaaGreatRFind
import Derived.Test.YtedbpmckgiifpaaGreatVal
/- Frames by the reference: Occupied, with, Retire, Give; Follow. -/
namespace Go.Proofs.YtedbpmckgiifpaaGreat
set_option linter.unusedSimpArgs false
set_option linter.unusedVariables false
open Go.RowKit
set_option maxRecDepth 100000
attribute [local go_sem] lt_more ne_more ne_more'
attribute [local irreducible] wpX wpF Calls

theorem rocc_any (s : Int) (w : World) : Calls Tryz.prog 28 #[.int .i64 s] w (Gives (.bool (occB s)) w) := by
  by_cases h1 : 1 ≤ s
  · by_cases h2 : s ≤ 4
    all_goals
      go_enter Tryz.func28, Tryz.ntmps28
      have H := HS.start NoD w
      go_wp2_with fail
      go_ret
      exact ⟨by unfold occB; simp [h1, h2] <;> omega, H.done⟩
  · go_enter Tryz.func28, Tryz.ntmps28
    have H := HS.start NoD w
    go_wp2_with fail
    go_ret
    exact ⟨by unfold occB; simp [h1] <;> omega, H.done⟩
/-- A slice's capacity. -/
def CapOk (sa : Option Addr) (n c : Nat) : Prop := n ≤ c ∧ (sa = none → c = 0)
set_option maxHeartbeats 4000000 in
theorem rwith_any {F : List Fr} (hF : F.length ≤ 1000) (k : Nat) (hk : k < F.length) (x : Fr) {sa : Option Addr} {c : Nat} (hc : CapOk sa F.length c) (w : World) (hl : Lies w w.heap.size sa 2 F.length (fun j => frC F[j]!)) :
    Calls Tryz.prog 52 #[.slice sa F.length c, .int .i64 k, .agg #[.int .i64 x.st, .int .i64 x.bl]] w (GivesS (fun v => v) 47 2 F.length ((F.set k x).flatMap frC) w) := by
  obtain ⟨s, b⟩ := x
  have HL := Lib.hid hl
  have HC := Lib.hid hc
  clear hl hc
  have hfl := Lib.hid (flat_setFr hk ⟨s, b⟩)
  dsimp only at hfl ⊢
  go_enter Tryz.func52, Tryz.ntmps52
  have H := HS.start NoD w
  go_upto_region 1 with fail
  generalize hwb : w.alloc _ = w1
  replace H := HS.eqW hwb H.alloc
  try simp only [World.size_alloc, List.nil_append, List.cons_append, List.append_assoc] at H
  clear hwb
  generalize w.heap.size = bX at H ⊢
  try clear C
  have C := H.cells
  try simp only [cellsOf, cellsM, apartOf, apartM, and_true] at C
  have hn := H.nilRow 47 2
  clear H
  have H := hn
  clear hn
  try simp only [List.nil_append, List.cons_append] at H
  go_wp2_with (at_builtin; refine wpList_append_src rfl (.const (.slice none 0 0)) (.tmp 8) 27 rfl elemFr H 1 rfl rfl rfl (Lies.src frC_len (by decide) HC.out.1 (H.liesUp HL.out) HC.out.2) (flat_len frC_len F) (frC_one F) (by unfold maxLen; omega) (by omega) (Nat.zero_add _) (fun s1 d1 wz HZ hg9 => ?_); clear H C hg9; replace HZ := HZ; simp only [List.nil_append, List.cons_append, List.append_assoc, List.set_cons_succ, List.set_cons_zero] at HZ; have H := HZ; clear HZ; obtain ⟨g, rfl, hg, hcap⟩ := ownsRow_ptr (H.at 1 rfl) (show 0 < F.length by omega); have c0 : wz.cell? ⟨g, k * 2, none⟩ = some (.int .i64 (F[k]!).st) ∧ wz.frozen? ⟨g, k * 2, none⟩ = false := ⟨(H.rowCells 1 rfl (k * 2) (by omega)).1.trans (flat_get frC_len F k 0 (.int .i64 (F[k]!).st) hk rfl), (H.rowCells 1 rfl (k * 2) (by omega)).2⟩; have c1 : wz.cell? ⟨g, k * 2 + 1, none⟩ = some (.int .i64 (F[k]!).bl) ∧ wz.frozen? ⟨g, k * 2 + 1, none⟩ = false := ⟨(H.rowCells 1 rfl (k * 2 + 1) (by omega)).1.trans (flat_get frC_len F k 1 (.int .i64 (F[k]!).bl) hk rfl), (H.rowCells 1 rfl (k * 2 + 1) (by omega)).2⟩; obtain ⟨c0, c0f⟩ := c0; obtain ⟨c1, c1f⟩ := c1; have C := H.cells; simp only [cellsOf, cellsM, apartOf, apartM, and_true] at C; clear hg)
  clear c0 c0f c1 c1f
  generalize hwb : World.setCell _ _ _ = w5
  have H9 := HS.eqW hwb ((H.rowSet 1 rfl (k * 2) (.int .i64 s)).rowSet 1 rfl (k * 2 + 1) (.int .i64 b))
  clear hwb H
  simp only [List.set_cons_succ, List.set_cons_zero] at H9
  rw [hfl.out] at H9
  go_ret
  exact H9.givesS 1 rfl
set_option maxHeartbeats 4000000 in
theorem rretire_any {F : List Fr} (hF : FrV F) (f : Int) {sa : Option Addr} {c : Nat} (hcp : CapOk sa F.length c) (w : World) (hl : Lies w w.heap.size sa 2 F.length (fun j => frC F[j]!)) :
    Calls Tryz.prog 29 #[.slice sa F.length c, .int .i64 f] w (GivesFE (retireP F f) w) := by
  have hF2 := hF.high
  have HV := Lib.hid (r28valid_gen (show F.length ≤ 1000 by omega) c w hl)
  rw [frB_t hF] at HV
  have HCP := Lib.hid hcp
  clear hcp
  by_cases h0 : f < 0
  · have e2 : retireP F f = (43, []) := by unfold retireP; rw [if_pos (.inl h0)]
    rw [e2]
    clear hl hF e2
    go_enter Tryz.func29, Tryz.ntmps29
    have H := HS.start NoD w
    go_wp2_with fail
    refine (HV.out).mono ?_
    rintro _ w1 ⟨rfl, hb⟩
    replace H := H.below hb
    clear hb
    try clear C
    try simp only [World.size_alloc, List.nil_append, List.cons_append, List.append_assoc] at H
    have C := H.cells
    try simp only [cellsOf, cellsM, apartOf, apartM, and_true] at C
    dsimp only
    go_wp2_with fail
    refine bodyPost_ret (by simp [results, Tryz.results29, go_sem, C]; try rfl) rfl ?_
    exact givesFE_nil H 43
  by_cases h0' : (F.length : Int) ≤ f
  · have e2 : retireP F f = (43, []) := by unfold retireP; rw [if_pos (.inr h0')]
    rw [e2]
    clear hl hF e2
    go_enter Tryz.func29, Tryz.ntmps29
    have H := HS.start NoD w
    go_wp2_with fail
    refine (HV.out).mono ?_
    rintro _ w1 ⟨rfl, hb⟩
    replace H := H.below hb
    clear hb
    try clear C
    try simp only [World.size_alloc, List.nil_append, List.cons_append, List.append_assoc] at H
    have C := H.cells
    try simp only [cellsOf, cellsM, apartOf, apartM, and_true] at C
    dsimp only
    go_wp2_with fail
    refine bodyPost_ret (by simp [results, Tryz.results29, go_sem, C]; try rfl) rfl ?_
    exact givesFE_nil H 43
  obtain ⟨k, rfl⟩ : ∃ k : Nat, f = k := ⟨f.toNat, by omega⟩
  have hk : k < F.length := by omega
  obtain ⟨R, hR⟩ : ∃ R, R = retireP F k := ⟨_, rfl⟩
  have hRS := hR
  rw [← hR]
  clear hR
  unfold retireP at hRS
  rw [if_neg (by omega)] at hRS
  clear h0 h0'
  obtain ⟨s, hs⟩ : ∃ s, s = (F[k]!).st := ⟨_, rfl⟩
  rw [show (F[((k : Nat) : Int).toNat]!).st = s from hs.symm, show ((k : Nat) : Int).toNat = k from rfl] at hRS
  obtain ⟨b, o, rfl, hb, hc⟩ := hl.at hk
  have hc0 : w.cell? ⟨b, o + k * 2, none⟩ = some (.int .i64 s) := by rw [hs]; exact hc 0 _ rfl
  have HC0 := Lib.hid hc0
  have HB := Lib.hid hb
  have HL := Lib.hid hl
  clear hs hc hc0 hb hl hF
  by_cases h4 : s = 4
  · subst h4
    rw [if_pos (.inl rfl)] at hRS
    subst hRS
    go_enter Tryz.func29, Tryz.ntmps29
    have H := HS.start NoD w
    go_wp2_with fail
    refine (HV.out).mono ?_
    rintro _ w1 ⟨rfl, hb⟩
    replace H := H.below hb
    clear hb
    try clear C
    try simp only [World.size_alloc, List.nil_append, List.cons_append, List.append_assoc] at H
    have C := H.cells
    try simp only [cellsOf, cellsM, apartOf, apartM, and_true] at C
    dsimp only
    have c0 : w1.cell? ⟨b, o + k * 2, none⟩ = some (.int .i64 4) := (H.was (p := ⟨b, o + k * 2, none⟩) HB.out id).trans HC0.out
    go_wp2_with fail
    refine bodyPost_ret (by simp [results, Tryz.results29, go_sem, C]; try rfl) rfl ?_
    exact givesFE_nil H 40
  have h4b : (s == 4) = false := beq_eq_false_iff_ne.2 h4
  by_cases h5 : s = 5
  · subst h5
    rw [if_pos (.inr rfl)] at hRS
    subst hRS
    go_enter Tryz.func29, Tryz.ntmps29
    have H := HS.start NoD w
    go_wp2_with fail
    refine (HV.out).mono ?_
    rintro _ w1 ⟨rfl, hb⟩
    replace H := H.below hb
    clear hb
    try clear C
    try simp only [World.size_alloc, List.nil_append, List.cons_append, List.append_assoc] at H
    have C := H.cells
    try simp only [cellsOf, cellsM, apartOf, apartM, and_true] at C
    dsimp only
    have c0 : w1.cell? ⟨b, o + k * 2, none⟩ = some (.int .i64 5) := (H.was (p := ⟨b, o + k * 2, none⟩) HB.out id).trans HC0.out
    go_wp2_with fail
    refine bodyPost_ret (by simp [results, Tryz.results29, go_sem, C]; try rfl) rfl ?_
    exact givesFE_nil H 40
  have h5b : (s == 5) = false := beq_eq_false_iff_ne.2 h5
  rw [if_neg (fun h => h.elim h4 h5)] at hRS
  subst hRS
  go_enter Tryz.func29, Tryz.ntmps29
  have H := HS.start NoD w
  go_wp2_with fail
  refine (HV.out).mono ?_
  rintro _ w1 ⟨rfl, hb⟩
  replace H := H.below hb
  clear hb
  try clear C
  try simp only [World.size_alloc, List.nil_append, List.cons_append, List.append_assoc] at H
  have C := H.cells
  try simp only [cellsOf, cellsM, apartOf, apartM, and_true] at C
  dsimp only
  have c0 : w1.cell? ⟨b, o + k * 2, none⟩ = some (.int .i64 s) := (H.was (p := ⟨b, o + k * 2, none⟩) HB.out id).trans HC0.out
  go_wp2_with fail
  refine (rwith_any (by omega) k hk ⟨5, 0⟩ HCP.out _ (H.liesUp HL.out)).mono ?_
  rintro _ w2 ⟨s1, d1, rfl, hr, hb⟩
  replace H := (H).getsRow hb hr
  clear hb hr
  try clear C
  try simp only [World.size_alloc, List.nil_append, List.cons_append, List.append_assoc] at H
  try clear w1
  have C := H.cells
  try simp only [cellsOf, cellsM, apartOf, apartM, and_true] at C
  dsimp only
  go_wp2_with fail
  refine bodyPost_ret (by simp [results, Tryz.results29, go_sem, C]; try rfl) rfl ?_
  unfold GivesFE
  dsimp only
  rw [List.length_set]
  exact H.givesS (mk := fun v => .tuple #[v, .int .i64 0]) 0 rfl
set_option maxHeartbeats 4000000 in
theorem rgive_any {F : List Fr} (hF : FrV F) (f : Int) {sa : Option Addr} {c : Nat} (hcp : CapOk sa F.length c) (w : World) (hl : Lies w w.heap.size sa 2 F.length (fun j => frC F[j]!)) :
    Calls Tryz.prog 34 #[.slice sa F.length c, .int .i64 f] w (GivesFE (giveP F f) w) := by
  have hF2 := hF.high
  have HV := Lib.hid (r28valid_gen (show F.length ≤ 1000 by omega) c w hl)
  rw [frB_t hF] at HV
  have HCP := Lib.hid hcp
  clear hcp
  by_cases h0 : f < 0
  · have e2 : giveP F f = (43, []) := by unfold giveP; rw [if_pos (.inl h0)]
    rw [e2]
    clear hl hF e2
    go_enter Tryz.func34, Tryz.ntmps34
    have H := HS.start NoD w
    go_wp2_with fail
    refine (HV.out).mono ?_
    rintro _ w1 ⟨rfl, hb⟩
    replace H := H.below hb
    clear hb
    try clear C
    try simp only [World.size_alloc, List.nil_append, List.cons_append, List.append_assoc] at H
    have C := H.cells
    try simp only [cellsOf, cellsM, apartOf, apartM, and_true] at C
    dsimp only
    go_wp2_with fail
    refine bodyPost_ret (by simp [results, Tryz.results34, go_sem, C]; try rfl) rfl ?_
    exact givesFE_nil H 43
  by_cases h0' : (F.length : Int) ≤ f
  · have e2 : giveP F f = (43, []) := by unfold giveP; rw [if_pos (.inr h0')]
    rw [e2]
    clear hl hF e2
    go_enter Tryz.func34, Tryz.ntmps34
    have H := HS.start NoD w
    go_wp2_with fail
    refine (HV.out).mono ?_
    rintro _ w1 ⟨rfl, hb⟩
    replace H := H.below hb
    clear hb
    try clear C
    try simp only [World.size_alloc, List.nil_append, List.cons_append, List.append_assoc] at H
    have C := H.cells
    try simp only [cellsOf, cellsM, apartOf, apartM, and_true] at C
    dsimp only
    go_wp2_with fail
    refine bodyPost_ret (by simp [results, Tryz.results34, go_sem, C]; try rfl) rfl ?_
    exact givesFE_nil H 43
  obtain ⟨k, rfl⟩ : ∃ k : Nat, f = k := ⟨f.toNat, by omega⟩
  have hk : k < F.length := by omega
  obtain ⟨R, hR⟩ : ∃ R, R = giveP F k := ⟨_, rfl⟩
  have hRS := hR
  rw [← hR]
  clear hR
  unfold giveP at hRS
  rw [if_neg (by omega)] at hRS
  clear h0 h0'
  obtain ⟨s, hs⟩ : ∃ s, s = (F[k]!).st := ⟨_, rfl⟩
  rw [show (F[((k : Nat) : Int).toNat]!).st = s from hs.symm, show ((k : Nat) : Int).toNat = k from rfl] at hRS
  obtain ⟨b, o, rfl, hb, hc⟩ := hl.at hk
  have hc0 : w.cell? ⟨b, o + k * 2, none⟩ = some (.int .i64 s) := by rw [hs]; exact hc 0 _ rfl
  have HC0 := Lib.hid hc0
  have HB := Lib.hid hb
  have HL := Lib.hid hl
  clear hs hc hc0 hb hl hF
  have HOC := Lib.hid (fun w => rocc_any s w)
  cases ho : occB s with
  | false =>
    rw [ho] at HOC hRS
    rw [if_pos rfl] at hRS
    subst hRS
    clear ho
    go_enter Tryz.func34, Tryz.ntmps34
    have H := HS.start NoD w
    go_wp2_with fail
    refine (HV.out).mono ?_
    rintro _ w1 ⟨rfl, hb⟩
    replace H := H.below hb
    clear hb
    try clear C
    try simp only [World.size_alloc, List.nil_append, List.cons_append, List.append_assoc] at H
    have C := H.cells
    try simp only [cellsOf, cellsM, apartOf, apartM, and_true] at C
    dsimp only
    have c0 : w1.cell? ⟨b, o + k * 2, none⟩ = some (.int .i64 s) := (H.was (p := ⟨b, o + k * 2, none⟩) HB.out id).trans HC0.out
    go_wp2_with fail
    clear c0
    refine (HOC.out _).mono ?_
    rintro _ w2 ⟨rfl, hb⟩
    replace H := H.below hb
    clear hb
    try clear C
    try simp only [World.size_alloc, List.nil_append, List.cons_append, List.append_assoc] at H
    try clear w1
    have C := H.cells
    try simp only [cellsOf, cellsM, apartOf, apartM, and_true] at C
    dsimp only
    go_wp2_with fail
    refine bodyPost_ret (by simp [results, Tryz.results34, go_sem, C]; try rfl) rfl ?_
    exact givesFE_nil H 40
  | true =>
    rw [ho] at HOC hRS
    rw [if_neg (by decide)] at hRS
    subst hRS
    clear ho
    go_enter Tryz.func34, Tryz.ntmps34
    have H := HS.start NoD w
    go_wp2_with fail
    refine (HV.out).mono ?_
    rintro _ w1 ⟨rfl, hb⟩
    replace H := H.below hb
    clear hb
    try clear C
    try simp only [World.size_alloc, List.nil_append, List.cons_append, List.append_assoc] at H
    have C := H.cells
    try simp only [cellsOf, cellsM, apartOf, apartM, and_true] at C
    dsimp only
    have c0 : w1.cell? ⟨b, o + k * 2, none⟩ = some (.int .i64 s) := (H.was (p := ⟨b, o + k * 2, none⟩) HB.out id).trans HC0.out
    go_wp2_with fail
    clear c0
    refine (HOC.out _).mono ?_
    rintro _ w2 ⟨rfl, hb⟩
    replace H := H.below hb
    clear hb
    try clear C
    try simp only [World.size_alloc, List.nil_append, List.cons_append, List.append_assoc] at H
    try clear w1
    have C := H.cells
    try simp only [cellsOf, cellsM, apartOf, apartM, and_true] at C
    dsimp only
    go_wp2_with fail
    refine (rwith_any (by omega) k hk ⟨0, 0⟩ HCP.out _ (H.liesUp HL.out)).mono ?_
    rintro _ w3 ⟨s1, d1, rfl, hr, hb⟩
    replace H := (H).getsRow hb hr
    clear hb hr
    try clear C
    try simp only [World.size_alloc, List.nil_append, List.cons_append, List.append_assoc] at H
    try clear w2
    have C := H.cells
    try simp only [cellsOf, cellsM, apartOf, apartM, and_true] at C
    dsimp only
    go_wp2_with fail
    refine bodyPost_ret (by simp [results, Tryz.results34, go_sem, C]; try rfl) rfl ?_
    unfold GivesFE
    dsimp only
    rw [List.length_set]
    exact H.givesS (mk := fun v => .tuple #[v, .int .i64 0]) 0 rfl
/-- What Follow hands back: its arguments with the error, or what is new. -/
def GivesFo (fv pv : Value) (R : Int × List Fr × List Pr) (w : World) (x : Ending) (w' : World) : Prop :=
  (R.1 = 0 ∧ GivesFP R w x w') ∨ (R.1 ≠ 0 ∧ x = .returned (.tuple #[fv, pv, .int .i64 R.1]) ∧ Below w.heap.size w w')
set_option maxHeartbeats 8000000 in
theorem rfollow_any {F : List Fr} (hF : F.length ≤ 1000) {ps : List Pr} (hg : SmallP ps) (a b : Nat) (ha : a < F.length) (hb : b < F.length) (hab : a ≠ b) {sa : Option Addr} {c : Nat} (hcp : CapOk sa F.length c) {v : Value} (w : World) (hl : Lies w w.heap.size sa 2 F.length (fun j => frC F[j]!)) (hp : Ps w w.heap.size v ps) :
    Calls Tryz.prog 30 #[.slice sa F.length c, v, .int .i64 a, .int .i64 b] w (GivesFo (.slice sa F.length c) v (followP F ps a b) w) := by
  have HR := Lib.hid (rrepl_any a b hg w hp)
  have HL := Lib.hid hl
  have HC := Lib.hid hcp
  have HSH := Lib.hid (show followP F ps a b = if (replP ps a b).1 ≠ 0 then ((replP ps a b).1, F, ps) else (0, (F.set b F[a]!).set a ⟨0, 0⟩, (replP ps a b).2) from rfl)
  rw [HSH.out]
  generalize replP ps a b = R at HR ⊢
  clear HSH hl hp hg hcp
  obtain ⟨xo, hxo⟩ : ∃ x, x = F[a]! := ⟨_, rfl⟩
  rw [← hxo]
  have HXO := Lib.hid hxo
  clear hxo
  obtain ⟨e, out⟩ := R
  dsimp only
  by_cases he : e = 0
  · subst he
    rw [if_neg (by simp)]
    go_enter Tryz.func30, Tryz.ntmps30
    have H := HS.start NoD w
    go_wp2_with fail
    refine HR.out.mono ?_
    rintro _ w1 ⟨v1, rs, rfl, hrs, K⟩
    have HRS := Lib.hid hrs
    clear hrs HR
    replace H := H.join1 K
    clear K
    simp only [List.nil_append, List.cons_append] at H
    have hn := H.nilRow 47 2
    clear H
    have H := hn
    clear hn
    simp only [List.nil_append, List.cons_append] at H
    skip
    try clear C
    try simp only [World.size_alloc, List.nil_append, List.cons_append, List.append_assoc] at H
    have C := H.cells
    try simp only [cellsOf, cellsM, apartOf, apartM, and_true] at C
    dsimp only
    have n1 : (a = b) = False := eq_false hab
    have n2 : (b = a) = False := eq_false fun h => hab h.symm
    have n3 : (a * 2 + 1 = b * 2) = False := eq_false (by omega)
    have n4 : (b * 2 = a * 2 + 1) = False := eq_false (by omega)
    have n5 : (a * 2 = b * 2 + 1) = False := eq_false (by omega)
    have n6 : (b * 2 + 1 = a * 2) = False := eq_false (by omega)
    have n7 : (a * 2 = b * 2) = False := eq_false (by omega)
    have n8 : (b * 2 = a * 2) = False := eq_false (by omega)
    go_wp2_with (at_builtin; refine wpList_append_src rfl (.const (.slice none 0 0)) (.tmp 26) 27 rfl elemFr H 1 rfl rfl rfl (Lies.src frC_len (by decide) HC.out.1 (H.liesUp HL.out) HC.out.2) (flat_len frC_len F) (frC_one F) (by unfold maxLen; omega) (by omega) (Nat.zero_add _) (fun s1 d1 wz HZ hg9 => ?_); clear H C hg9; simp only [List.nil_append, List.cons_append, List.append_assoc, List.set_cons_succ, List.set_cons_zero] at HZ; have H := HZ; clear HZ; obtain ⟨g, rfl, hgs, hcap⟩ := ownsRow_ptr (H.at 1 rfl) (show 0 < F.length by omega); have cell : ∀ (k m : Nat) (u : Value), k < F.length → m < 2 → (frC F[k]!)[m]? = some u → wz.cell? ⟨g, k * 2 + m, none⟩ = some u ∧ wz.frozen? ⟨g, k * 2 + m, none⟩ = false := (fun k m u hk hm hu => ⟨(H.rowCells 1 rfl (k * 2 + m) (by omega)).1.trans (flat_get frC_len F k m u hk hu), (H.rowCells 1 rfl (k * 2 + m) (by omega)).2⟩); have c0 : wz.cell? ⟨g, a * 2, none⟩ = some (.int .i64 (F[a]!).st) ∧ wz.frozen? ⟨g, a * 2, none⟩ = false := cell a 0 _ ha (by decide) rfl; have c1 := cell a 1 (.int .i64 (F[a]!).bl) ha (by decide) rfl; have d0 : wz.cell? ⟨g, b * 2, none⟩ = some (.int .i64 (F[b]!).st) ∧ wz.frozen? ⟨g, b * 2, none⟩ = false := cell b 0 _ hb (by decide) rfl; have d1' := cell b 1 (.int .i64 (F[b]!).bl) hb (by decide) rfl; obtain ⟨c0, c0f⟩ := c0; obtain ⟨c1, c1f⟩ := c1; obtain ⟨d0, d0f⟩ := d0; obtain ⟨e1, e1f⟩ := d1'; clear cell hgs; rw [← HXO.out] at c0 c1; have C := H.cells; simp only [cellsOf, cellsM, apartOf, apartM, and_true] at C)
    clear c0 c0f c1 c1f d0 d0f e1 e1f
    generalize hwb : World.setCell _ _ _ = w5
    have H9 := HS.eqW hwb ((((H.rowSet 1 rfl (b * 2) (.int .i64 xo.st)).rowSet 1 rfl (b * 2 + 1) (.int .i64 xo.bl)).rowSet 1 rfl (a * 2) (.int .i64 0)).rowSet 1 rfl (a * 2 + 1) (.int .i64 0))
    clear hwb H
    simp only [List.set_cons_succ, List.set_cons_zero] at H9
    rw [flat_setFr hb xo] at H9
    have hfl := flat_setFr (F := F.set b xo) (k := a) (by rw [List.length_set]; exact ha) ⟨0, 0⟩
    dsimp only at hfl
    rw [hfl] at H9
    clear hfl
    refine bodyPost_ret (by simp [results, Tryz.results30, go_sem, C]; try rfl) rfl ?_
    refine .inl ⟨rfl, _, _, rs, rfl, HRS.out, ?_⟩
    dsimp only
    rw [List.length_set, List.length_set]
    exact H9.permu (List.Perm.swap _ _ _)
  · have heb : (e == 0) = false := beq_eq_false_iff_ne.2 he
    rw [if_pos he]
    go_enter Tryz.func30, Tryz.ntmps30
    have H := HS.start NoD w
    go_wp2_with fail
    refine HR.out.mono ?_
    rintro _ w1 ⟨v1, rs, rfl, hrs, K⟩
    clear hrs HR
    replace H := H.join1 K
    clear K
    simp only [List.nil_append, List.cons_append] at H
    skip
    try clear C
    try simp only [World.size_alloc, List.nil_append, List.cons_append, List.append_assoc] at H
    have C := H.cells
    try simp only [cellsOf, cellsM, apartOf, apartM, and_true] at C
    dsimp only
    go_wp2_with fail
    refine bodyPost_ret (by simp [results, Tryz.results30, go_sem, C]; try rfl) rfl ?_
    exact .inr ⟨he, rfl, H.done⟩
end Go.Proofs.YtedbpmckgiifpaaGreat

/- memfaultref33.Apply on frames and programs that fit, whatever the deed. -/
namespace Go.Proofs.YtedbpmckgiifpaaGreat
set_option linter.unusedSimpArgs false
set_option linter.unusedVariables false
open Go.RowKit
set_option maxRecDepth 100000
attribute [local go_sem] lt_more ne_more ne_more'
attribute [local irreducible] wpX wpF Calls

theorem any_snocR {α : Type} [Inhabited α] {l : List α} {j : Nat} (h : j < l.length) (p : α → Bool) : (l.take (j + 1)).any p = ((l.take j).any p || p l[j]!) := by
  rw [take_snoc h, List.any_append]; simp
theorem hasB_neg (ps : List Pr) (f p : Int) : hasB ps f p (-1) = (usersL ps f).any (fun u => decide (u.1 = p)) := by
  unfold hasB
  congr 1
  funext u
  unfold hasT
  simp
theorem row_cap {w : World} {B k n c : Nat} {e : TypeId} {sa : Option Addr} {cs : List Value} (h : w.ownsRow B e k (.slice sa n c) n cs) : CapOk sa n c := by
  obtain ⟨sa', c', e1, h1⟩ := ownsRow_cap h
  injection e1 with e1 e2 e3
  subst e1 e3
  exact h1
theorem usersCell {us : List (Int × Int)} {w : World} {B : Nat} {sa : Option Addr} (h : Lies w B sa 2 us.length (fun j => uC us[j]!)) {j : Nat} (hj : j < us.length) : ∃ b o, sa = some ⟨b, o, none⟩ ∧ b < B ∧ w.cell? ⟨b, o + j * 2, none⟩ = some (.int .i64 (us[j]!).1) ∧ w.cell? ⟨b, o + j * 2 + 1, none⟩ = some (.int .i64 (us[j]!).2) := by
  obtain ⟨b, o, e, hb, hc⟩ := h.at hj
  exact ⟨b, o, e, hb, hc 0 _ rfl, hc 1 _ rfl⟩
set_option maxHeartbeats 16000000 in
theorem rapply_any {F : List Fr} {ps : List Pr} (hh : Held F ps) (d : Dd) {sa : Option Addr} {c : Nat} (hcp : CapOk sa F.length c) {v : Value} (w : World) (hl : Lies w w.heap.size sa 2 F.length (fun j => frC F[j]!)) (hp : Ps w w.heap.size v ps) :
    Calls Tryz.prog 12 #[.slice sa F.length c, v, .agg (ddC d).toArray] w (GivesFP (rapplyP F ps d) w) := by
  have hF := hh.fr
  have hg := hh.pr.good
  have hF1 := hF.low
  have hF2 := hF.high
  have HHD := Lib.hid hh
  have HSMP := Lib.hid hg.smallP
  have hokb : okB F ps = true := by unfold okB; rw [frB_t hF, goodB_iff.2 hg]; rfl
  have HV := Lib.hid (fun (sa : Option Addr) (c : Nat) (v : Value) w h1 h2 => right_gen (show F.length ≤ 1000 by omega) HSMP.out (sa := sa) c (v := v) w h1 h2)
  rw [hokb] at HV
  have HCP := Lib.hid (fun w h => rcopy_any (v := v) HSMP.out w h)
  have HL := Lib.hid hl
  have HPS := Lib.hid hp
  have HCC := Lib.hid hcp
  have HGD := Lib.hid hg
  have HFV := Lib.hid hF
  have HFE := Lib.hid (show freeAtF F d.tq = true ↔ 0 ≤ d.tq ∧ d.tq < F.length ∧ (F[d.tq.toNat]!).st = 0 by
    unfold freeAtF
    simp only [Bool.and_eq_true, decide_eq_true_eq, and_assoc])
  obtain ⟨R, hR⟩ : ∃ R, R = rapplyP F ps d := ⟨_, rfl⟩
  rw [← hR]
  unfold rapplyP rcarryP at hR
  obtain ⟨dk, df, dt, dp, dg⟩ := d
  dsimp only at hR HFE
  clear hl hp hF hg hokb hcp hh
  show Calls Tryz.prog 12 #[.slice sa F.length c, v, .agg #[.int .i64 dk, .int .i64 df, .int .i64 dt, .int .i64 dp, .int .i64 dg]] w _
  obtain ⟨hd, hdn⟩ : ∃ x, x = F.length := ⟨_, rfl⟩
  have HDN := Lib.hid hdn
  clear hdn
  have HRq := Lib.hid hR
  clear hR
  go_enter Tryz.func12, Tryz.ntmps12
  have H := HS.start NoD w
  go_upto_region 1 with fail
  generalize hwb : w.alloc _ = w1
  replace H := HS.eqW hwb H.alloc
  try simp only [World.size_alloc, List.nil_append, List.cons_append, List.append_assoc] at H
  clear hwb
  generalize w.heap.size = bD at H ⊢
  try clear C
  have C := H.cells
  try simp only [cellsOf, cellsM, apartOf, apartM, and_true] at C
  have hn := H.nilRow 47 2
  clear H
  have H := hn
  clear hn
  try simp only [List.nil_append, List.cons_append] at H
  go_wp2_with (at_builtin; refine wpList_append_src rfl (.const (.slice none 0 0)) (.tmp 28) 27 rfl elemFr H 1 rfl rfl rfl (Lies.src frC_len (by decide) HCC.out.1 (H.liesUp HL.out) HCC.out.2) (flat_len frC_len F) (frC_one F) (by unfold maxLen; omega) (by omega) (Nat.zero_add _) (fun s1 d1 wz HZ hg9 => ?_); clear H C hg9; simp only [List.nil_append, List.cons_append, List.append_assoc, List.set_cons_succ, List.set_cons_zero] at HZ; have H := HZ; clear HZ; have C := H.cells; simp only [cellsOf, cellsM, apartOf, apartM, and_true] at C)
  refine (HCP.out _ (H.psUp HPS.out)).mono ?_
  rintro _ w2 ⟨v1, rs, rfl, hrs, K⟩
  replace H := H.join1 K
  have HRS := Lib.hid hrs
  clear K hrs HCP HL HPS HCC
  simp only [List.nil_append, List.cons_append] at H
  obtain ⟨g, rfl, hgs, hcap⟩ := ownsRow_ptr (H.at 1 rfl) (show 0 < F.length by omega)
  clear hgs
  skip
  try clear C
  try simp only [World.size_alloc, List.nil_append, List.cons_append, List.append_assoc] at H
  have C := H.cells
  try simp only [cellsOf, cellsM, apartOf, apartM, and_true] at C
  dsimp only
  have hR := HRq.out
  clear HRq
  skip
  by_cases k0 : dk < 1
  · rw [if_pos (.inl k0)] at hR
    have HR := Lib.hid hR
    clear hR
    go_wp2_with fail
    refine (HV.out _ _ _ _ (H.rowLies 1 frC_len rfl rfl) (by have := H.ownPs 2 rfl; rw [HRS.out] at this; exact this)).mono ?_
    rintro _ w2 ⟨rfl, hb⟩
    replace H := H.below hb
    clear hb
    try clear C
    try simp only [World.size_alloc, List.nil_append, List.cons_append, List.append_assoc] at H
    try clear w2
    have C := H.cells
    try simp only [cellsOf, cellsM, apartOf, apartM, and_true] at C
    dsimp only
    go_wp2_with fail
    refine bodyPost_ret (by simp [results, Tryz.results12, go_sem, C]; try rfl) rfl ?_
    rw [HR.out]
    exact ⟨_, _, rs, rfl, HRS.out, HS.less (L' := [.row (.slice (some ⟨g, 0, none⟩) F.length d1) 47 2 _ _, Item.many (PsR v1 rs)]) H (by repeat (first | exact .slnil | refine .cons_cons _ ?_ | refine .cons _ ?_))⟩
  skip
  by_cases k9 : 6 < dk
  · rw [if_pos (.inr k9)] at hR
    have HR := Lib.hid hR
    clear hR
    go_wp2_with fail
    refine (HV.out _ _ _ _ (H.rowLies 1 frC_len rfl rfl) (by have := H.ownPs 2 rfl; rw [HRS.out] at this; exact this)).mono ?_
    rintro _ w3 ⟨rfl, hb⟩
    replace H := H.below hb
    clear hb
    try clear C
    try simp only [World.size_alloc, List.nil_append, List.cons_append, List.append_assoc] at H
    try clear w2
    have C := H.cells
    try simp only [cellsOf, cellsM, apartOf, apartM, and_true] at C
    dsimp only
    go_wp2_with fail
    refine bodyPost_ret (by simp [results, Tryz.results12, go_sem, C]; try rfl) rfl ?_
    rw [HR.out]
    exact ⟨_, _, rs, rfl, HRS.out, HS.less (L' := [.row (.slice (some ⟨g, 0, none⟩) F.length d1) 47 2 _ _, Item.many (PsR v1 rs)]) H (by repeat (first | exact .slnil | refine .cons_cons _ ?_ | refine .cons _ ?_))⟩
  have hkk : dk = 1 ∨ dk = 2 ∨ dk = 3 ∨ dk = 4 ∨ dk = 5 ∨ dk = 6 := by omega
  clear k0 k9
  skip
  rcases hkk with kk | kk | kk | kk | kk | kk
  · subst kk
    skip
    rw [if_neg (by decide)] at hR
    skip
    by_cases f0 : df < 0
    · rw [if_pos (.inl f0)] at hR
      have HR := Lib.hid hR
      clear hR
      go_wp2_with fail
      refine (HV.out _ _ _ _ (H.rowLies 1 frC_len rfl rfl) (by have := H.ownPs 2 rfl; rw [HRS.out] at this; exact this)).mono ?_
      rintro _ w4 ⟨rfl, hb⟩
      replace H := H.below hb
      clear hb
      try clear C
      try simp only [World.size_alloc, List.nil_append, List.cons_append, List.append_assoc] at H
      try clear w2
      have C := H.cells
      try simp only [cellsOf, cellsM, apartOf, apartM, and_true] at C
      dsimp only
      go_wp2_with fail
      refine bodyPost_ret (by simp [results, Tryz.results12, go_sem, C]; try rfl) rfl ?_
      rw [HR.out]
      exact ⟨_, _, rs, rfl, HRS.out, HS.less (L' := [.row (.slice (some ⟨g, 0, none⟩) F.length d1) 47 2 _ _, Item.many (PsR v1 rs)]) H (by repeat (first | exact .slnil | refine .cons_cons _ ?_ | refine .cons _ ?_))⟩
    skip
    by_cases f1 : (F.length : Int) ≤ df
    · rw [if_pos (.inr (.inl f1))] at hR
      have HR := Lib.hid hR
      clear hR
      go_wp2_with fail
      refine (HV.out _ _ _ _ (H.rowLies 1 frC_len rfl rfl) (by have := H.ownPs 2 rfl; rw [HRS.out] at this; exact this)).mono ?_
      rintro _ w5 ⟨rfl, hb⟩
      replace H := H.below hb
      clear hb
      try clear C
      try simp only [World.size_alloc, List.nil_append, List.cons_append, List.append_assoc] at H
      try clear w2
      have C := H.cells
      try simp only [cellsOf, cellsM, apartOf, apartM, and_true] at C
      dsimp only
      go_wp2_with fail
      refine bodyPost_ret (by simp [results, Tryz.results12, go_sem, C]; try rfl) rfl ?_
      rw [HR.out]
      exact ⟨_, _, rs, rfl, HRS.out, HS.less (L' := [.row (.slice (some ⟨g, 0, none⟩) F.length d1) 47 2 _ _, Item.many (PsR v1 rs)]) H (by repeat (first | exact .slnil | refine .cons_cons _ ?_ | refine .cons _ ?_))⟩
    obtain ⟨k, rfl⟩ : ∃ k : Nat, df = k := ⟨df.toNat, by omega⟩
    have hk : k < F.length := by omega
    have hki : (k : Int) < F.length := by omega
    have hkd : (k : Int) < d1 := by omega
    clear f0 f1
    have hkt : ((k : Nat) : Int).toNat = k := rfl
    rw [hkt] at hR
    clear hkt
    skip
    rw [if_neg (fun h => by rcases h with h | h | h; omega; omega; exact absurd h.1 (by decide)), if_neg (by simp)] at hR
    clear HFE
    rw [if_pos rfl] at hR
    unfold rretP at hR
    dsimp only at hR
    have hkt : ((k : Nat) : Int).toNat = k := rfl
    rw [hkt] at hR
    clear hkt
    obtain ⟨s, hs⟩ : ∃ s, s = (F[k]!).st := ⟨_, rfl⟩
    have Hck := Lib.hid hs.symm
    rw [← hs] at hR
    clear hs
    have HOC := Lib.hid (fun w => rocc_any s w)
    have HRT := Lib.hid (fun (sa : Option Addr) (c : Nat) hc w h => rretire_any HFV.out k (sa := sa) (c := c) hc w h)
    generalize retireP F (k : Int) = Q at HRT hR
    obtain ⟨eq, F3⟩ := Q
    dsimp only at hR
    have HUS := Lib.hid (fun v w h => rusers_any k (v := v) HSMP.out w h)
    have hml := users_short HGD.out k
    have HUI := Lib.hid (used_iff ps k)
    have HRq := Lib.hid hR
    clear hR
    go_wp2_with fail
    refine (HV.out _ _ _ _ (H.rowLies 1 frC_len rfl rfl) (by have := H.ownPs 2 rfl; rw [HRS.out] at this; exact this)).mono ?_
    rintro _ w6 ⟨rfl, hb⟩
    replace H := H.below hb
    clear hb
    try clear C
    try simp only [World.size_alloc, List.nil_append, List.cons_append, List.append_assoc] at H
    try clear w2
    have C := H.cells
    try simp only [cellsOf, cellsM, apartOf, apartM, and_true] at C
    dsimp only
    clear HV
    have ck : w6.cell? ⟨g, k * 2, none⟩ = some (.int .i64 s) := by
      have e9 := (H.rowCells 1 rfl (k * 2) (by omega)).1.trans (flat_get frC_len F k 0 (.int .i64 (F[k]!).st) (by omega) rfl)
      rw [Hck.out] at e9
      exact e9
    go_wp2_with fail
    clear ck
    refine (HOC.out _).mono ?_
    rintro _ w7 ⟨rfl, hb⟩
    replace H := H.below hb
    clear hb
    try clear C
    try simp only [World.size_alloc, List.nil_append, List.cons_append, List.append_assoc] at H
    try clear w6
    have C := H.cells
    try simp only [cellsOf, cellsM, apartOf, apartM, and_true] at C
    dsimp only
    clear HOC
    skip
    cases ho : occB s with
    | false =>
      have hR := HRq.out
      clear HRq
      rw [ho] at hR
      rw [if_neg (by simp)] at hR
      clear ho
      have HRq := Lib.hid hR
      clear hR
      go_wp2_with fail
      refine (HRT.out _ _ (row_cap (H.at 1 rfl)) _ (H.rowLies 1 frC_len rfl rfl)).mono ?_
      rintro _ w8 ⟨s3, d3, rfl, hr, hb⟩
      replace H := (H).getsRow hb hr
      clear hb hr
      try clear C
      try simp only [World.size_alloc, List.nil_append, List.cons_append, List.append_assoc] at H
      try clear w7
      have C := H.cells
      try simp only [cellsOf, cellsM, apartOf, apartM, and_true] at C
      dsimp only
      try dsimp only at H
      try dsimp only
      have hR := HRq.out
      clear HRq
      skip
      by_cases e0 : eq = 0
      · subst e0
        rw [if_neg (by simp)] at hR
        have HR := Lib.hid hR
        clear hR
        go_wp2_with fail
        refine bodyPost_ret (by simp [results, Tryz.results12, go_sem, C]; try rfl) rfl ?_
        rw [HR.out]
        exact ⟨_, _, rs, rfl, HRS.out, (HS.less (L' := [Item.many (PsR v1 rs), .row (.slice s3 F3.length d3) 47 2 _ _]) H (by repeat (first | exact .slnil | refine .cons_cons _ ?_ | refine .cons _ ?_))).permu (List.Perm.swap _ _ _)⟩
      · rw [if_pos e0] at hR
        have HR := Lib.hid hR
        clear hR
        have heb : (eq == 0) = false := beq_eq_false_iff_ne.2 e0
        skip
        go_wp2_with fail
        refine bodyPost_ret (by simp [results, Tryz.results12, go_sem, C]; try rfl) rfl ?_
        rw [HR.out]
        exact ⟨_, _, rs, rfl, HRS.out, HS.less (L' := [.row (.slice (some ⟨g, 0, none⟩) F.length d1) 47 2 _ _, Item.many (PsR v1 rs)]) H (by repeat (first | exact .slnil | refine .cons_cons _ ?_ | refine .cons _ ?_))⟩
    | true =>
      have hR := HRq.out
      clear HRq
      rw [ho] at hR
      clear ho
      have HRq := Lib.hid hR
      clear hR
      skip
      go_wp2_with fail
      refine (HUS.out _ _ (by have := H.ownPs 2 rfl; rw [HRS.out] at this; exact this)).mono ?_
      rintro _ w9 ⟨s5, d5, rfl, hr, hb⟩
      replace H := (H).getsRow hb hr
      clear hb hr
      try clear C
      try simp only [World.size_alloc, List.nil_append, List.cons_append, List.append_assoc] at H
      try clear w7
      have C := H.cells
      try simp only [cellsOf, cellsM, apartOf, apartM, and_true] at C
      dsimp only
      clear HUS
      have hR := HRq.out
      clear HRq
      skip
      by_cases hu : 0 < (usersL ps k).length
      · rw [if_pos (by refine ⟨?_, HUI.out.2 hu⟩; first | trivial | rfl)] at hR
        have HR := Lib.hid hR
        clear hR
        have hui : (0 : Int) < (usersL ps k).length := by omega
        go_wp2_with fail
        refine bodyPost_ret (by simp [results, Tryz.results12, go_sem, C]; try rfl) rfl ?_
        rw [HR.out]
        exact ⟨_, _, rs, rfl, HRS.out, HS.less (L' := [.row (.slice (some ⟨g, 0, none⟩) F.length d1) 47 2 _ _, Item.many (PsR v1 rs)]) H (by repeat (first | exact .slnil | refine .cons_cons _ ?_ | refine .cons _ ?_))⟩
      · rw [if_neg (fun h => hu (HUI.out.1 h.2))] at hR
        have HRq := Lib.hid hR
        clear hR
        have hui : ¬ (0 : Int) < (usersL ps k).length := by omega
        skip
        go_wp2_with fail
        refine (HRT.out _ _ (row_cap (H.at 1 rfl)) _ (H.rowLies 1 frC_len rfl rfl)).mono ?_
        rintro _ w10 ⟨s3, d3, rfl, hr, hb⟩
        replace H := (H).getsRow hb hr
        clear hb hr
        try clear C
        try simp only [World.size_alloc, List.nil_append, List.cons_append, List.append_assoc] at H
        try clear w9
        have C := H.cells
        try simp only [cellsOf, cellsM, apartOf, apartM, and_true] at C
        dsimp only
        try dsimp only at H
        try dsimp only
        have hR := HRq.out
        clear HRq
        skip
        by_cases e0 : eq = 0
        · subst e0
          rw [if_neg (by simp)] at hR
          have HR := Lib.hid hR
          clear hR
          go_wp2_with fail
          refine bodyPost_ret (by simp [results, Tryz.results12, go_sem, C]; try rfl) rfl ?_
          rw [HR.out]
          exact ⟨_, _, rs, rfl, HRS.out, (HS.less (L' := [Item.many (PsR v1 rs), .row (.slice s3 F3.length d3) 47 2 _ _]) H (by repeat (first | exact .slnil | refine .cons_cons _ ?_ | refine .cons _ ?_))).permu (List.Perm.swap _ _ _)⟩
        · rw [if_pos e0] at hR
          have HR := Lib.hid hR
          clear hR
          have heb : (eq == 0) = false := beq_eq_false_iff_ne.2 e0
          skip
          go_wp2_with fail
          refine bodyPost_ret (by simp [results, Tryz.results12, go_sem, C]; try rfl) rfl ?_
          rw [HR.out]
          exact ⟨_, _, rs, rfl, HRS.out, HS.less (L' := [.row (.slice (some ⟨g, 0, none⟩) F.length d1) 47 2 _ _, Item.many (PsR v1 rs)]) H (by repeat (first | exact .slnil | refine .cons_cons _ ?_ | refine .cons _ ?_))⟩
  · subst kk
    skip
    rw [if_neg (by decide)] at hR
    skip
    by_cases f0 : df < 0
    · rw [if_pos (.inl f0)] at hR
      have HR := Lib.hid hR
      clear hR
      go_wp2_with fail
      refine (HV.out _ _ _ _ (H.rowLies 1 frC_len rfl rfl) (by have := H.ownPs 2 rfl; rw [HRS.out] at this; exact this)).mono ?_
      rintro _ w11 ⟨rfl, hb⟩
      replace H := H.below hb
      clear hb
      try clear C
      try simp only [World.size_alloc, List.nil_append, List.cons_append, List.append_assoc] at H
      try clear w2
      have C := H.cells
      try simp only [cellsOf, cellsM, apartOf, apartM, and_true] at C
      dsimp only
      go_wp2_with fail
      refine bodyPost_ret (by simp [results, Tryz.results12, go_sem, C]; try rfl) rfl ?_
      rw [HR.out]
      exact ⟨_, _, rs, rfl, HRS.out, HS.less (L' := [.row (.slice (some ⟨g, 0, none⟩) F.length d1) 47 2 _ _, Item.many (PsR v1 rs)]) H (by repeat (first | exact .slnil | refine .cons_cons _ ?_ | refine .cons _ ?_))⟩
    skip
    by_cases f1 : (F.length : Int) ≤ df
    · rw [if_pos (.inr (.inl f1))] at hR
      have HR := Lib.hid hR
      clear hR
      go_wp2_with fail
      refine (HV.out _ _ _ _ (H.rowLies 1 frC_len rfl rfl) (by have := H.ownPs 2 rfl; rw [HRS.out] at this; exact this)).mono ?_
      rintro _ w12 ⟨rfl, hb⟩
      replace H := H.below hb
      clear hb
      try clear C
      try simp only [World.size_alloc, List.nil_append, List.cons_append, List.append_assoc] at H
      try clear w2
      have C := H.cells
      try simp only [cellsOf, cellsM, apartOf, apartM, and_true] at C
      dsimp only
      go_wp2_with fail
      refine bodyPost_ret (by simp [results, Tryz.results12, go_sem, C]; try rfl) rfl ?_
      rw [HR.out]
      exact ⟨_, _, rs, rfl, HRS.out, HS.less (L' := [.row (.slice (some ⟨g, 0, none⟩) F.length d1) 47 2 _ _, Item.many (PsR v1 rs)]) H (by repeat (first | exact .slnil | refine .cons_cons _ ?_ | refine .cons _ ?_))⟩
    obtain ⟨k, rfl⟩ : ∃ k : Nat, df = k := ⟨df.toNat, by omega⟩
    have hk : k < F.length := by omega
    have hki : (k : Int) < F.length := by omega
    have hkd : (k : Int) < d1 := by omega
    clear f0 f1
    have hkt : ((k : Nat) : Int).toNat = k := rfl
    rw [hkt] at hR
    clear hkt
    skip
    by_cases t0 : dt < 0
    · rw [if_pos (.inr (.inr ⟨by decide, by cases hq : freeAtF F dt with | false => rfl | true => have := HFE.out.1 hq; omega⟩))] at hR
      have HR := Lib.hid hR
      clear hR
      go_wp2_with fail
      refine (HV.out _ _ _ _ (H.rowLies 1 frC_len rfl rfl) (by have := H.ownPs 2 rfl; rw [HRS.out] at this; exact this)).mono ?_
      rintro _ w13 ⟨rfl, hb⟩
      replace H := H.below hb
      clear hb
      try clear C
      try simp only [World.size_alloc, List.nil_append, List.cons_append, List.append_assoc] at H
      try clear w2
      have C := H.cells
      try simp only [cellsOf, cellsM, apartOf, apartM, and_true] at C
      dsimp only
      go_wp2_with fail
      refine bodyPost_ret (by simp [results, Tryz.results12, go_sem, C]; try rfl) rfl ?_
      rw [HR.out]
      exact ⟨_, _, rs, rfl, HRS.out, HS.less (L' := [.row (.slice (some ⟨g, 0, none⟩) F.length d1) 47 2 _ _, Item.many (PsR v1 rs)]) H (by repeat (first | exact .slnil | refine .cons_cons _ ?_ | refine .cons _ ?_))⟩
    skip
    by_cases t1 : (F.length : Int) ≤ dt
    · rw [if_pos (.inr (.inr ⟨by decide, by cases hq : freeAtF F dt with | false => rfl | true => have := HFE.out.1 hq; omega⟩))] at hR
      have HR := Lib.hid hR
      clear hR
      go_wp2_with fail
      refine (HV.out _ _ _ _ (H.rowLies 1 frC_len rfl rfl) (by have := H.ownPs 2 rfl; rw [HRS.out] at this; exact this)).mono ?_
      rintro _ w14 ⟨rfl, hb⟩
      replace H := H.below hb
      clear hb
      try clear C
      try simp only [World.size_alloc, List.nil_append, List.cons_append, List.append_assoc] at H
      try clear w2
      have C := H.cells
      try simp only [cellsOf, cellsM, apartOf, apartM, and_true] at C
      dsimp only
      go_wp2_with fail
      refine bodyPost_ret (by simp [results, Tryz.results12, go_sem, C]; try rfl) rfl ?_
      rw [HR.out]
      exact ⟨_, _, rs, rfl, HRS.out, HS.less (L' := [.row (.slice (some ⟨g, 0, none⟩) F.length d1) 47 2 _ _, Item.many (PsR v1 rs)]) H (by repeat (first | exact .slnil | refine .cons_cons _ ?_ | refine .cons _ ?_))⟩
    obtain ⟨t, rfl⟩ : ∃ t : Nat, dt = t := ⟨dt.toNat, by omega⟩
    have ht : t < F.length := by omega
    have hti : (t : Int) < F.length := by omega
    have htd : (t : Int) < d1 := by omega
    clear t0 t1
    have htt : ((t : Nat) : Int).toNat = t := rfl
    rw [htt] at HFE
    clear htt
    obtain ⟨s, hs⟩ : ∃ s, s = (F[t]!).st := ⟨_, rfl⟩
    have Hct := Lib.hid hs.symm
    clear hs
    skip
    by_cases s0 : s = 0
    · subst s0
      have hfr := HFE.out.2 ⟨by omega, hti, Hct.out⟩
      rw [if_neg (fun h => by rcases h with h | h | h; omega; omega; rw [hfr] at h; cases h.2)] at hR
      clear hfr HFE
      obtain ⟨s, hs⟩ : ∃ s, s = (F[k]!).st := ⟨_, rfl⟩
      have Hck := Lib.hid hs.symm
      rw [← hs] at hR
      clear hs
      skip
      by_cases s1 : s = 1
      · subst s1
        rw [if_neg (by simp), if_neg (by decide), if_pos (by decide)] at hR
        have HR := Lib.hid hR
        clear hR
        have hkt : k ≠ t := fun e => by subst e; have := Hck.out.symm.trans Hct.out; cases this
        skip
        go_wp2_with fail
        refine (HV.out _ _ _ _ (H.rowLies 1 frC_len rfl rfl) (by have := H.ownPs 2 rfl; rw [HRS.out] at this; exact this)).mono ?_
        rintro _ w15 ⟨rfl, hb⟩
        replace H := H.below hb
        clear hb
        try clear C
        try simp only [World.size_alloc, List.nil_append, List.cons_append, List.append_assoc] at H
        try clear w2
        have C := H.cells
        try simp only [cellsOf, cellsM, apartOf, apartM, and_true] at C
        dsimp only
        clear HV
        have ck : w15.cell? ⟨g, k * 2, none⟩ = some (.int .i64 1) := by
          have e9 := (H.rowCells 1 rfl (k * 2) (by omega)).1.trans (flat_get frC_len F k 0 (.int .i64 (F[k]!).st) (by omega) rfl)
          rw [Hck.out] at e9
          exact e9
        have ct : w15.cell? ⟨g, t * 2, none⟩ = some (.int .i64 0) := by
          have e9 := (H.rowCells 1 rfl (t * 2) (by omega)).1.trans (flat_get frC_len F t 0 (.int .i64 (F[t]!).st) (by omega) rfl)
          rw [Hct.out] at e9
          exact e9
        go_wp2_with fail
        clear ck ct
        refine (rfollow_any (show F.length ≤ 1000 by omega) HSMP.out k t hk ht hkt (row_cap (H.at 1 rfl)) _ (H.rowLies 1 frC_len rfl rfl) (by have := H.ownPs 2 rfl; rw [HRS.out] at this; exact this)).mono ?_
        intro x9 w9 hgf
        skip
        rcases hgf with ⟨h0, fv, pv, q9, rfl, hq9, K⟩ | ⟨h0, rfl, hb⟩
        all_goals have H0 := Lib.hid h0
        all_goals clear h0
        · replace H := H.join K (fun A hA => by simp only [List.mem_cons, List.mem_nil_iff, or_false] at hA; rcases hA with rfl | rfl <;> rfl)
          simp only [List.nil_append, List.cons_append] at H
          clear K
          have HQ9 := Lib.hid hq9
          clear hq9
          skip
          try clear C
          try simp only [World.size_alloc, List.nil_append, List.cons_append, List.append_assoc] at H
          have C := H.cells
          try simp only [cellsOf, cellsM, apartOf, apartM, and_true] at C
          dsimp only
          go_wp2_with fail
          refine bodyPost_ret (by simp [results, Tryz.results12, go_sem, C]; try rfl) rfl ?_
          rw [HR.out]
          exact ⟨_, _, q9, rfl, HQ9.out, HS.less (L' := [.row fv 47 2 _ _, Item.many (PsR pv q9)]) H (by repeat (first | exact .slnil | refine .cons_cons _ ?_ | refine .cons _ ?_))⟩
        · replace H := H.below hb
          clear hb
          skip
          try clear C
          try simp only [World.size_alloc, List.nil_append, List.cons_append, List.append_assoc] at H
          have C := H.cells
          try simp only [cellsOf, cellsM, apartOf, apartM, and_true] at C
          dsimp only
          go_wp2_with fail
          refine bodyPost_ret (by simp [results, Tryz.results12, go_sem, C]; try rfl) rfl ?_
          rw [HR.out]
          have h0 := H0.out
          have h1 : (followP F ps k t).2 = (F, ps) := by unfold followP at h0 ⊢; split; rfl; rename_i h2; rw [if_neg h2] at h0; exact absurd rfl h0
          refine ⟨_, _, rs, rfl, ?_, ?_⟩
          · rw [h1]; exact HRS.out
          · rw [h1]; exact HS.less (L' := [.row (.slice (some ⟨g, 0, none⟩) F.length d1) 47 2 _ _, Item.many (PsR v1 rs)]) H (by repeat (first | exact .slnil | refine .cons_cons _ ?_ | refine .cons _ ?_))
      · rw [if_pos (.inl ⟨rfl, s1⟩)] at hR
        have HR := Lib.hid hR
        clear hR
        have hsb : (s == 1) = false := beq_eq_false_iff_ne.2 s1
        skip
        go_wp2_with fail
        refine (HV.out _ _ _ _ (H.rowLies 1 frC_len rfl rfl) (by have := H.ownPs 2 rfl; rw [HRS.out] at this; exact this)).mono ?_
        rintro _ w16 ⟨rfl, hb⟩
        replace H := H.below hb
        clear hb
        try clear C
        try simp only [World.size_alloc, List.nil_append, List.cons_append, List.append_assoc] at H
        try clear w2
        have C := H.cells
        try simp only [cellsOf, cellsM, apartOf, apartM, and_true] at C
        dsimp only
        have ck : w16.cell? ⟨g, k * 2, none⟩ = some (.int .i64 s) := by
          have e9 := (H.rowCells 1 rfl (k * 2) (by omega)).1.trans (flat_get frC_len F k 0 (.int .i64 (F[k]!).st) (by omega) rfl)
          rw [Hck.out] at e9
          exact e9
        have ct : w16.cell? ⟨g, t * 2, none⟩ = some (.int .i64 0) := by
          have e9 := (H.rowCells 1 rfl (t * 2) (by omega)).1.trans (flat_get frC_len F t 0 (.int .i64 (F[t]!).st) (by omega) rfl)
          rw [Hct.out] at e9
          exact e9
        go_wp2_with fail
        refine bodyPost_ret (by simp [results, Tryz.results12, go_sem, C]; try rfl) rfl ?_
        rw [HR.out]
        exact ⟨_, _, rs, rfl, HRS.out, HS.less (L' := [.row (.slice (some ⟨g, 0, none⟩) F.length d1) 47 2 _ _, Item.many (PsR v1 rs)]) H (by repeat (first | exact .slnil | refine .cons_cons _ ?_ | refine .cons _ ?_))⟩
    · have hfr : freeAtF F t = false := by cases hq : freeAtF F t with | false => rfl | true => exact absurd (Hct.out.symm.trans (HFE.out.1 hq).2.2) s0
      rw [if_pos (.inr (.inr ⟨by decide, hfr⟩))] at hR
      clear hfr HFE
      have HR := Lib.hid hR
      clear hR
      have hsb : (s != 0) = true := bne_iff_ne.2 s0
      skip
      go_wp2_with fail
      refine (HV.out _ _ _ _ (H.rowLies 1 frC_len rfl rfl) (by have := H.ownPs 2 rfl; rw [HRS.out] at this; exact this)).mono ?_
      rintro _ w17 ⟨rfl, hb⟩
      replace H := H.below hb
      clear hb
      try clear C
      try simp only [World.size_alloc, List.nil_append, List.cons_append, List.append_assoc] at H
      try clear w2
      have C := H.cells
      try simp only [cellsOf, cellsM, apartOf, apartM, and_true] at C
      dsimp only
      have ct : w17.cell? ⟨g, t * 2, none⟩ = some (.int .i64 s) := by
        have e9 := (H.rowCells 1 rfl (t * 2) (by omega)).1.trans (flat_get frC_len F t 0 (.int .i64 (F[t]!).st) (by omega) rfl)
        rw [Hct.out] at e9
        exact e9
      go_wp2_with fail
      refine bodyPost_ret (by simp [results, Tryz.results12, go_sem, C]; try rfl) rfl ?_
      rw [HR.out]
      exact ⟨_, _, rs, rfl, HRS.out, HS.less (L' := [.row (.slice (some ⟨g, 0, none⟩) F.length d1) 47 2 _ _, Item.many (PsR v1 rs)]) H (by repeat (first | exact .slnil | refine .cons_cons _ ?_ | refine .cons _ ?_))⟩
  · subst kk
    skip
    rw [if_neg (by decide)] at hR
    skip
    by_cases f0 : df < 0
    · rw [if_pos (.inl f0)] at hR
      have HR := Lib.hid hR
      clear hR
      go_wp2_with fail
      refine (HV.out _ _ _ _ (H.rowLies 1 frC_len rfl rfl) (by have := H.ownPs 2 rfl; rw [HRS.out] at this; exact this)).mono ?_
      rintro _ w18 ⟨rfl, hb⟩
      replace H := H.below hb
      clear hb
      try clear C
      try simp only [World.size_alloc, List.nil_append, List.cons_append, List.append_assoc] at H
      try clear w2
      have C := H.cells
      try simp only [cellsOf, cellsM, apartOf, apartM, and_true] at C
      dsimp only
      go_wp2_with fail
      refine bodyPost_ret (by simp [results, Tryz.results12, go_sem, C]; try rfl) rfl ?_
      rw [HR.out]
      exact ⟨_, _, rs, rfl, HRS.out, HS.less (L' := [.row (.slice (some ⟨g, 0, none⟩) F.length d1) 47 2 _ _, Item.many (PsR v1 rs)]) H (by repeat (first | exact .slnil | refine .cons_cons _ ?_ | refine .cons _ ?_))⟩
    skip
    by_cases f1 : (F.length : Int) ≤ df
    · rw [if_pos (.inr (.inl f1))] at hR
      have HR := Lib.hid hR
      clear hR
      go_wp2_with fail
      refine (HV.out _ _ _ _ (H.rowLies 1 frC_len rfl rfl) (by have := H.ownPs 2 rfl; rw [HRS.out] at this; exact this)).mono ?_
      rintro _ w19 ⟨rfl, hb⟩
      replace H := H.below hb
      clear hb
      try clear C
      try simp only [World.size_alloc, List.nil_append, List.cons_append, List.append_assoc] at H
      try clear w2
      have C := H.cells
      try simp only [cellsOf, cellsM, apartOf, apartM, and_true] at C
      dsimp only
      go_wp2_with fail
      refine bodyPost_ret (by simp [results, Tryz.results12, go_sem, C]; try rfl) rfl ?_
      rw [HR.out]
      exact ⟨_, _, rs, rfl, HRS.out, HS.less (L' := [.row (.slice (some ⟨g, 0, none⟩) F.length d1) 47 2 _ _, Item.many (PsR v1 rs)]) H (by repeat (first | exact .slnil | refine .cons_cons _ ?_ | refine .cons _ ?_))⟩
    obtain ⟨k, rfl⟩ : ∃ k : Nat, df = k := ⟨df.toNat, by omega⟩
    have hk : k < F.length := by omega
    have hki : (k : Int) < F.length := by omega
    have hkd : (k : Int) < d1 := by omega
    clear f0 f1
    have hkt : ((k : Nat) : Int).toNat = k := rfl
    rw [hkt] at hR
    clear hkt
    skip
    by_cases t0 : dt < 0
    · rw [if_pos (.inr (.inr ⟨by decide, by cases hq : freeAtF F dt with | false => rfl | true => have := HFE.out.1 hq; omega⟩))] at hR
      have HR := Lib.hid hR
      clear hR
      go_wp2_with fail
      refine (HV.out _ _ _ _ (H.rowLies 1 frC_len rfl rfl) (by have := H.ownPs 2 rfl; rw [HRS.out] at this; exact this)).mono ?_
      rintro _ w20 ⟨rfl, hb⟩
      replace H := H.below hb
      clear hb
      try clear C
      try simp only [World.size_alloc, List.nil_append, List.cons_append, List.append_assoc] at H
      try clear w2
      have C := H.cells
      try simp only [cellsOf, cellsM, apartOf, apartM, and_true] at C
      dsimp only
      go_wp2_with fail
      refine bodyPost_ret (by simp [results, Tryz.results12, go_sem, C]; try rfl) rfl ?_
      rw [HR.out]
      exact ⟨_, _, rs, rfl, HRS.out, HS.less (L' := [.row (.slice (some ⟨g, 0, none⟩) F.length d1) 47 2 _ _, Item.many (PsR v1 rs)]) H (by repeat (first | exact .slnil | refine .cons_cons _ ?_ | refine .cons _ ?_))⟩
    skip
    by_cases t1 : (F.length : Int) ≤ dt
    · rw [if_pos (.inr (.inr ⟨by decide, by cases hq : freeAtF F dt with | false => rfl | true => have := HFE.out.1 hq; omega⟩))] at hR
      have HR := Lib.hid hR
      clear hR
      go_wp2_with fail
      refine (HV.out _ _ _ _ (H.rowLies 1 frC_len rfl rfl) (by have := H.ownPs 2 rfl; rw [HRS.out] at this; exact this)).mono ?_
      rintro _ w21 ⟨rfl, hb⟩
      replace H := H.below hb
      clear hb
      try clear C
      try simp only [World.size_alloc, List.nil_append, List.cons_append, List.append_assoc] at H
      try clear w2
      have C := H.cells
      try simp only [cellsOf, cellsM, apartOf, apartM, and_true] at C
      dsimp only
      go_wp2_with fail
      refine bodyPost_ret (by simp [results, Tryz.results12, go_sem, C]; try rfl) rfl ?_
      rw [HR.out]
      exact ⟨_, _, rs, rfl, HRS.out, HS.less (L' := [.row (.slice (some ⟨g, 0, none⟩) F.length d1) 47 2 _ _, Item.many (PsR v1 rs)]) H (by repeat (first | exact .slnil | refine .cons_cons _ ?_ | refine .cons _ ?_))⟩
    obtain ⟨t, rfl⟩ : ∃ t : Nat, dt = t := ⟨dt.toNat, by omega⟩
    have ht : t < F.length := by omega
    have hti : (t : Int) < F.length := by omega
    have htd : (t : Int) < d1 := by omega
    clear t0 t1
    have htt : ((t : Nat) : Int).toNat = t := rfl
    rw [htt] at HFE
    clear htt
    obtain ⟨s, hs⟩ : ∃ s, s = (F[t]!).st := ⟨_, rfl⟩
    have Hct := Lib.hid hs.symm
    clear hs
    skip
    by_cases s0 : s = 0
    · subst s0
      have hfr := HFE.out.2 ⟨by omega, hti, Hct.out⟩
      rw [if_neg (fun h => by rcases h with h | h | h; omega; omega; rw [hfr] at h; cases h.2)] at hR
      clear hfr HFE
      obtain ⟨s, hs⟩ : ∃ s, s = (F[k]!).st := ⟨_, rfl⟩
      have Hck := Lib.hid hs.symm
      rw [← hs] at hR
      clear hs
      skip
      by_cases s1 : s = 3
      · subst s1
        rw [if_neg (by simp), if_neg (by decide), if_pos (by decide)] at hR
        have HR := Lib.hid hR
        clear hR
        have hkt : k ≠ t := fun e => by subst e; have := Hck.out.symm.trans Hct.out; cases this
        skip
        go_wp2_with fail
        refine (HV.out _ _ _ _ (H.rowLies 1 frC_len rfl rfl) (by have := H.ownPs 2 rfl; rw [HRS.out] at this; exact this)).mono ?_
        rintro _ w22 ⟨rfl, hb⟩
        replace H := H.below hb
        clear hb
        try clear C
        try simp only [World.size_alloc, List.nil_append, List.cons_append, List.append_assoc] at H
        try clear w2
        have C := H.cells
        try simp only [cellsOf, cellsM, apartOf, apartM, and_true] at C
        dsimp only
        clear HV
        have ck : w22.cell? ⟨g, k * 2, none⟩ = some (.int .i64 3) := by
          have e9 := (H.rowCells 1 rfl (k * 2) (by omega)).1.trans (flat_get frC_len F k 0 (.int .i64 (F[k]!).st) (by omega) rfl)
          rw [Hck.out] at e9
          exact e9
        have ct : w22.cell? ⟨g, t * 2, none⟩ = some (.int .i64 0) := by
          have e9 := (H.rowCells 1 rfl (t * 2) (by omega)).1.trans (flat_get frC_len F t 0 (.int .i64 (F[t]!).st) (by omega) rfl)
          rw [Hct.out] at e9
          exact e9
        go_wp2_with fail
        clear ck ct
        refine (rfollow_any (show F.length ≤ 1000 by omega) HSMP.out k t hk ht hkt (row_cap (H.at 1 rfl)) _ (H.rowLies 1 frC_len rfl rfl) (by have := H.ownPs 2 rfl; rw [HRS.out] at this; exact this)).mono ?_
        intro x9 w9 hgf
        skip
        rcases hgf with ⟨h0, fv, pv, q9, rfl, hq9, K⟩ | ⟨h0, rfl, hb⟩
        all_goals have H0 := Lib.hid h0
        all_goals clear h0
        · replace H := H.join K (fun A hA => by simp only [List.mem_cons, List.mem_nil_iff, or_false] at hA; rcases hA with rfl | rfl <;> rfl)
          simp only [List.nil_append, List.cons_append] at H
          clear K
          have HQ9 := Lib.hid hq9
          clear hq9
          skip
          try clear C
          try simp only [World.size_alloc, List.nil_append, List.cons_append, List.append_assoc] at H
          have C := H.cells
          try simp only [cellsOf, cellsM, apartOf, apartM, and_true] at C
          dsimp only
          go_wp2_with fail
          refine bodyPost_ret (by simp [results, Tryz.results12, go_sem, C]; try rfl) rfl ?_
          rw [HR.out]
          exact ⟨_, _, q9, rfl, HQ9.out, HS.less (L' := [.row fv 47 2 _ _, Item.many (PsR pv q9)]) H (by repeat (first | exact .slnil | refine .cons_cons _ ?_ | refine .cons _ ?_))⟩
        · replace H := H.below hb
          clear hb
          skip
          try clear C
          try simp only [World.size_alloc, List.nil_append, List.cons_append, List.append_assoc] at H
          have C := H.cells
          try simp only [cellsOf, cellsM, apartOf, apartM, and_true] at C
          dsimp only
          go_wp2_with fail
          refine bodyPost_ret (by simp [results, Tryz.results12, go_sem, C]; try rfl) rfl ?_
          rw [HR.out]
          have h0 := H0.out
          have h1 : (followP F ps k t).2 = (F, ps) := by unfold followP at h0 ⊢; split; rfl; rename_i h2; rw [if_neg h2] at h0; exact absurd rfl h0
          refine ⟨_, _, rs, rfl, ?_, ?_⟩
          · rw [h1]; exact HRS.out
          · rw [h1]; exact HS.less (L' := [.row (.slice (some ⟨g, 0, none⟩) F.length d1) 47 2 _ _, Item.many (PsR v1 rs)]) H (by repeat (first | exact .slnil | refine .cons_cons _ ?_ | refine .cons _ ?_))
      · rw [if_pos (.inr ⟨rfl, s1⟩)] at hR
        have HR := Lib.hid hR
        clear hR
        have hsb : (s == 3) = false := beq_eq_false_iff_ne.2 s1
        skip
        go_wp2_with fail
        refine (HV.out _ _ _ _ (H.rowLies 1 frC_len rfl rfl) (by have := H.ownPs 2 rfl; rw [HRS.out] at this; exact this)).mono ?_
        rintro _ w23 ⟨rfl, hb⟩
        replace H := H.below hb
        clear hb
        try clear C
        try simp only [World.size_alloc, List.nil_append, List.cons_append, List.append_assoc] at H
        try clear w2
        have C := H.cells
        try simp only [cellsOf, cellsM, apartOf, apartM, and_true] at C
        dsimp only
        have ck : w23.cell? ⟨g, k * 2, none⟩ = some (.int .i64 s) := by
          have e9 := (H.rowCells 1 rfl (k * 2) (by omega)).1.trans (flat_get frC_len F k 0 (.int .i64 (F[k]!).st) (by omega) rfl)
          rw [Hck.out] at e9
          exact e9
        have ct : w23.cell? ⟨g, t * 2, none⟩ = some (.int .i64 0) := by
          have e9 := (H.rowCells 1 rfl (t * 2) (by omega)).1.trans (flat_get frC_len F t 0 (.int .i64 (F[t]!).st) (by omega) rfl)
          rw [Hct.out] at e9
          exact e9
        go_wp2_with fail
        refine bodyPost_ret (by simp [results, Tryz.results12, go_sem, C]; try rfl) rfl ?_
        rw [HR.out]
        exact ⟨_, _, rs, rfl, HRS.out, HS.less (L' := [.row (.slice (some ⟨g, 0, none⟩) F.length d1) 47 2 _ _, Item.many (PsR v1 rs)]) H (by repeat (first | exact .slnil | refine .cons_cons _ ?_ | refine .cons _ ?_))⟩
    · have hfr : freeAtF F t = false := by cases hq : freeAtF F t with | false => rfl | true => exact absurd (Hct.out.symm.trans (HFE.out.1 hq).2.2) s0
      rw [if_pos (.inr (.inr ⟨by decide, hfr⟩))] at hR
      clear hfr HFE
      have HR := Lib.hid hR
      clear hR
      have hsb : (s != 0) = true := bne_iff_ne.2 s0
      skip
      go_wp2_with fail
      refine (HV.out _ _ _ _ (H.rowLies 1 frC_len rfl rfl) (by have := H.ownPs 2 rfl; rw [HRS.out] at this; exact this)).mono ?_
      rintro _ w24 ⟨rfl, hb⟩
      replace H := H.below hb
      clear hb
      try clear C
      try simp only [World.size_alloc, List.nil_append, List.cons_append, List.append_assoc] at H
      try clear w2
      have C := H.cells
      try simp only [cellsOf, cellsM, apartOf, apartM, and_true] at C
      dsimp only
      have ct : w24.cell? ⟨g, t * 2, none⟩ = some (.int .i64 s) := by
        have e9 := (H.rowCells 1 rfl (t * 2) (by omega)).1.trans (flat_get frC_len F t 0 (.int .i64 (F[t]!).st) (by omega) rfl)
        rw [Hct.out] at e9
        exact e9
      go_wp2_with fail
      refine bodyPost_ret (by simp [results, Tryz.results12, go_sem, C]; try rfl) rfl ?_
      rw [HR.out]
      exact ⟨_, _, rs, rfl, HRS.out, HS.less (L' := [.row (.slice (some ⟨g, 0, none⟩) F.length d1) 47 2 _ _, Item.many (PsR v1 rs)]) H (by repeat (first | exact .slnil | refine .cons_cons _ ?_ | refine .cons _ ?_))⟩
  · subst kk
    skip
    rw [if_neg (by decide)] at hR
    skip
    by_cases f0 : df < 0
    · rw [if_pos (.inl f0)] at hR
      have HR := Lib.hid hR
      clear hR
      go_wp2_with fail
      refine (HV.out _ _ _ _ (H.rowLies 1 frC_len rfl rfl) (by have := H.ownPs 2 rfl; rw [HRS.out] at this; exact this)).mono ?_
      rintro _ w25 ⟨rfl, hb⟩
      replace H := H.below hb
      clear hb
      try clear C
      try simp only [World.size_alloc, List.nil_append, List.cons_append, List.append_assoc] at H
      try clear w2
      have C := H.cells
      try simp only [cellsOf, cellsM, apartOf, apartM, and_true] at C
      dsimp only
      go_wp2_with fail
      refine bodyPost_ret (by simp [results, Tryz.results12, go_sem, C]; try rfl) rfl ?_
      rw [HR.out]
      exact ⟨_, _, rs, rfl, HRS.out, HS.less (L' := [.row (.slice (some ⟨g, 0, none⟩) F.length d1) 47 2 _ _, Item.many (PsR v1 rs)]) H (by repeat (first | exact .slnil | refine .cons_cons _ ?_ | refine .cons _ ?_))⟩
    skip
    by_cases f1 : (F.length : Int) ≤ df
    · rw [if_pos (.inr (.inl f1))] at hR
      have HR := Lib.hid hR
      clear hR
      go_wp2_with fail
      refine (HV.out _ _ _ _ (H.rowLies 1 frC_len rfl rfl) (by have := H.ownPs 2 rfl; rw [HRS.out] at this; exact this)).mono ?_
      rintro _ w26 ⟨rfl, hb⟩
      replace H := H.below hb
      clear hb
      try clear C
      try simp only [World.size_alloc, List.nil_append, List.cons_append, List.append_assoc] at H
      try clear w2
      have C := H.cells
      try simp only [cellsOf, cellsM, apartOf, apartM, and_true] at C
      dsimp only
      go_wp2_with fail
      refine bodyPost_ret (by simp [results, Tryz.results12, go_sem, C]; try rfl) rfl ?_
      rw [HR.out]
      exact ⟨_, _, rs, rfl, HRS.out, HS.less (L' := [.row (.slice (some ⟨g, 0, none⟩) F.length d1) 47 2 _ _, Item.many (PsR v1 rs)]) H (by repeat (first | exact .slnil | refine .cons_cons _ ?_ | refine .cons _ ?_))⟩
    obtain ⟨k, rfl⟩ : ∃ k : Nat, df = k := ⟨df.toNat, by omega⟩
    have hk : k < F.length := by omega
    have hki : (k : Int) < F.length := by omega
    have hkd : (k : Int) < d1 := by omega
    clear f0 f1
    have hkt : ((k : Nat) : Int).toNat = k := rfl
    rw [hkt] at hR
    clear hkt
    skip
    rw [if_neg (fun h => by rcases h with h | h | h; omega; omega; exact absurd h.1 (by decide)), if_neg (by simp)] at hR
    clear HFE
    rw [if_neg (by decide), if_neg (by decide)] at hR
    rw [if_pos rfl] at hR
    unfold rtellP at hR
    dsimp only at hR
    have HFI := Lib.hid (fun v w h => rFind_any dp dg (v := v) HSMP.out w h)
    have HTE := Lib.hid (fun v w h => rtell_any dp dg HGD.out (v := v) w h)
    generalize getP ps dp dg = Q at HFI hR
    generalize tellP ps dp dg = T at HTE hR
    obtain ⟨⟨xn, xf, xs⟩, ef⟩ := Q
    obtain ⟨et, out, lf⟩ := T
    dsimp only [vPg] at hR HFI HTE
    have HRq := Lib.hid hR
    clear hR
    go_wp2_with fail
    refine (HV.out _ _ _ _ (H.rowLies 1 frC_len rfl rfl) (by have := H.ownPs 2 rfl; rw [HRS.out] at this; exact this)).mono ?_
    rintro _ w27 ⟨rfl, hb⟩
    replace H := H.below hb
    clear hb
    try clear C
    try simp only [World.size_alloc, List.nil_append, List.cons_append, List.append_assoc] at H
    try clear w2
    have C := H.cells
    try simp only [cellsOf, cellsM, apartOf, apartM, and_true] at C
    dsimp only
    clear HV
    go_wp2_with fail
    refine (HFI.out _ _ (by have := H.ownPs 2 rfl; rw [HRS.out] at this; exact this)).mono ?_
    rintro _ w28 ⟨rfl, hb⟩
    replace H := H.below hb
    clear hb
    try clear C
    try simp only [World.size_alloc, List.nil_append, List.cons_append, List.append_assoc] at H
    try clear w27
    have C := H.cells
    try simp only [cellsOf, cellsM, apartOf, apartM, and_true] at C
    dsimp only
    clear HFI
    go_upto_region 25 with fail
    generalize hwb : w28.alloc _ = w29
    replace H := HS.eqW hwb H.alloc
    try simp only [World.size_alloc, List.nil_append, List.cons_append, List.append_assoc] at H
    clear hwb
    generalize w28.heap.size = bX at H ⊢
    try clear C
    try clear w28
    have C := H.cells
    try simp only [cellsOf, cellsM, apartOf, apartM, and_true] at C
    have hR := HRq.out
    clear HRq
    skip
    by_cases e0 : ef = 0
    · subst e0
      rw [if_neg (by simp)] at hR
      by_cases e1 : xf = k
      · subst e1
        rw [if_neg (by simp)] at hR
        have HR := Lib.hid hR
        clear hR
        go_wp2_with fail
        refine (HTE.out _ _ (by have := H.ownPs 2 rfl; rw [HRS.out] at this; exact this)).mono ?_
        rintro _ w9 ⟨v9, q9, rfl, hq9, K⟩
        replace H := H.join1 K
        have HQ9 := Lib.hid hq9
        clear K hq9
        simp only [List.nil_append, List.cons_append] at H
        skip
        try clear C
        try simp only [World.size_alloc, List.nil_append, List.cons_append, List.append_assoc] at H
        have C := H.cells
        try simp only [cellsOf, cellsM, apartOf, apartM, and_true] at C
        dsimp only
        go_wp2_with fail
        refine bodyPost_ret (by simp [results, Tryz.results12, go_sem, C]; try rfl) rfl ?_
        rw [HR.out]
        exact ⟨_, _, q9, rfl, HQ9.out, HS.less (L' := [.row (.slice (some ⟨g, 0, none⟩) F.length d1) 47 2 _ _, Item.many (PsR v9 q9)]) H (by repeat (first | exact .slnil | refine .cons_cons _ ?_ | refine .cons _ ?_))⟩
      · rw [if_pos e1] at hR
        have HR := Lib.hid hR
        clear hR
        have heb : (xf == (k : Int)) = false := beq_eq_false_iff_ne.2 e1
        skip
        go_wp2_with fail
        refine bodyPost_ret (by simp [results, Tryz.results12, go_sem, C]; try rfl) rfl ?_
        rw [HR.out]
        exact ⟨_, _, rs, rfl, HRS.out, HS.less (L' := [.row (.slice (some ⟨g, 0, none⟩) F.length d1) 47 2 _ _, Item.many (PsR v1 rs)]) H (by repeat (first | exact .slnil | refine .cons_cons _ ?_ | refine .cons _ ?_))⟩
    · rw [if_pos e0] at hR
      have HR := Lib.hid hR
      clear hR
      have heb : (ef == 0) = false := beq_eq_false_iff_ne.2 e0
      skip
      go_wp2_with fail
      refine bodyPost_ret (by simp [results, Tryz.results12, go_sem, C]; try rfl) rfl ?_
      rw [HR.out]
      exact ⟨_, _, rs, rfl, HRS.out, HS.less (L' := [.row (.slice (some ⟨g, 0, none⟩) F.length d1) 47 2 _ _, Item.many (PsR v1 rs)]) H (by repeat (first | exact .slnil | refine .cons_cons _ ?_ | refine .cons _ ?_))⟩
  · subst kk
    skip
    rw [if_neg (by decide)] at hR
    skip
    by_cases f0 : df < 0
    · rw [if_pos (.inl f0)] at hR
      have HR := Lib.hid hR
      clear hR
      go_wp2_with fail
      refine (HV.out _ _ _ _ (H.rowLies 1 frC_len rfl rfl) (by have := H.ownPs 2 rfl; rw [HRS.out] at this; exact this)).mono ?_
      rintro _ w30 ⟨rfl, hb⟩
      replace H := H.below hb
      clear hb
      try clear C
      try simp only [World.size_alloc, List.nil_append, List.cons_append, List.append_assoc] at H
      try clear w2
      have C := H.cells
      try simp only [cellsOf, cellsM, apartOf, apartM, and_true] at C
      dsimp only
      go_wp2_with fail
      refine bodyPost_ret (by simp [results, Tryz.results12, go_sem, C]; try rfl) rfl ?_
      rw [HR.out]
      exact ⟨_, _, rs, rfl, HRS.out, HS.less (L' := [.row (.slice (some ⟨g, 0, none⟩) F.length d1) 47 2 _ _, Item.many (PsR v1 rs)]) H (by repeat (first | exact .slnil | refine .cons_cons _ ?_ | refine .cons _ ?_))⟩
    skip
    by_cases f1 : (F.length : Int) ≤ df
    · rw [if_pos (.inr (.inl f1))] at hR
      have HR := Lib.hid hR
      clear hR
      go_wp2_with fail
      refine (HV.out _ _ _ _ (H.rowLies 1 frC_len rfl rfl) (by have := H.ownPs 2 rfl; rw [HRS.out] at this; exact this)).mono ?_
      rintro _ w31 ⟨rfl, hb⟩
      replace H := H.below hb
      clear hb
      try clear C
      try simp only [World.size_alloc, List.nil_append, List.cons_append, List.append_assoc] at H
      try clear w2
      have C := H.cells
      try simp only [cellsOf, cellsM, apartOf, apartM, and_true] at C
      dsimp only
      go_wp2_with fail
      refine bodyPost_ret (by simp [results, Tryz.results12, go_sem, C]; try rfl) rfl ?_
      rw [HR.out]
      exact ⟨_, _, rs, rfl, HRS.out, HS.less (L' := [.row (.slice (some ⟨g, 0, none⟩) F.length d1) 47 2 _ _, Item.many (PsR v1 rs)]) H (by repeat (first | exact .slnil | refine .cons_cons _ ?_ | refine .cons _ ?_))⟩
    obtain ⟨k, rfl⟩ : ∃ k : Nat, df = k := ⟨df.toNat, by omega⟩
    have hk : k < F.length := by omega
    have hki : (k : Int) < F.length := by omega
    have hkd : (k : Int) < d1 := by omega
    clear f0 f1
    have hkt : ((k : Nat) : Int).toNat = k := rfl
    rw [hkt] at hR
    clear hkt
    skip
    rw [if_neg (fun h => by rcases h with h | h | h; omega; omega; exact absurd h.1 (by decide)), if_neg (by simp)] at hR
    clear HFE
    rw [if_neg (by decide), if_neg (by decide)] at hR
    rw [if_neg (by decide)] at hR
    rw [if_pos rfl] at hR
    unfold rkillP at hR
    dsimp only at hR
    rw [hasB_neg] at hR
    have HEN := Lib.hid (fun v w h => rend_any dp (v := v) HSMP.out w h)
    have HGA := Lib.hid (fun out gone e => ends_gives (out := out) (gone := gone) HHD.out (id := dp) e (k : Int))
    have HUS := Lib.hid (fun v w h => rusers_any k (v := v) HSMP.out w h)
    have hml := users_short HGD.out k
    generalize endP ps dp = Q at HEN HGA hR
    obtain ⟨ee, out, gone⟩ := Q
    dsimp only at hR
    have HRq := Lib.hid hR
    clear hR
    go_wp2_with fail
    refine (HV.out _ _ _ _ (H.rowLies 1 frC_len rfl rfl) (by have := H.ownPs 2 rfl; rw [HRS.out] at this; exact this)).mono ?_
    rintro _ w32 ⟨rfl, hb⟩
    replace H := H.below hb
    clear hb
    try clear C
    try simp only [World.size_alloc, List.nil_append, List.cons_append, List.append_assoc] at H
    try clear w2
    have C := H.cells
    try simp only [cellsOf, cellsM, apartOf, apartM, and_true] at C
    dsimp only
    clear HV
    go_wp2_with fail
    refine (HEN.out _ _ (by have := H.ownPs 2 rfl; rw [HRS.out] at this; exact this)).mono ?_
    rintro _ w9 ⟨v9, q9, s9, d9, rfl, hq9, K⟩
    replace H := H.join K (fun A hA => by simp only [List.mem_cons, List.mem_nil_iff, or_false] at hA; rcases hA with rfl | rfl <;> rfl)
    have HQ9 := Lib.hid hq9
    clear K hq9 HEN
    simp only [List.nil_append, List.cons_append] at H
    have hgm := ownsRow_mx (H.at 4 rfl)
    unfold maxLen at hgm
    skip
    try clear C
    try simp only [World.size_alloc, List.nil_append, List.cons_append, List.append_assoc] at H
    have C := H.cells
    try simp only [cellsOf, cellsM, apartOf, apartM, and_true] at C
    dsimp only at H ⊢ hgm
    have hR := HRq.out
    clear HRq
    skip
    by_cases e0 : ee = 0
    · subst e0
      rw [if_neg (by simp)] at hR
      obtain ⟨G, hG, hGl⟩ := HGA.out _ _ rfl
      rw [hG] at hR
      dsimp only at hR
      rw [if_neg (show ¬ ((0 : Int) ≠ 0) by simp)] at hR
      have HG := Lib.hid hG.symm
      clear hG HGA
      obtain ⟨us, hus⟩ : ∃ us, us = usersL ps k := ⟨_, rfl⟩
      rw [← hus] at hR HUS hml
      clear hus
      generalize hhb : us.any (fun u => decide (u.1 = dp)) = hb at hR
      have HHB := Lib.hid hhb
      clear hhb
      have HR := Lib.hid hR
      clear hR
      go_wp2_with fail
      refine (HUS.out _ _ (by have := H.ownPs 2 rfl; rw [HRS.out] at this; exact this)).mono ?_
      rintro _ w33 ⟨s5, d5, rfl, hr, hb⟩
      replace H := (H).getsRow hb hr
      clear hb hr
      try clear C
      try simp only [World.size_alloc, List.nil_append, List.cons_append, List.append_assoc] at H
      try clear w9
      have C := H.cells
      try simp only [cellsOf, cellsM, apartOf, apartM, and_true] at C
      dsimp only
      clear HUS
      go_wp2_with fail
      go_loopw [20, 225] (fun hv i wr => ∃ (j : Nat), i = .int .i64 j ∧ j ≤ us.length ∧ hv = .bool ((us.take j).any fun u => decide (u.1 = dp)) ∧ HS NoD w [.blk bD #[.int .i64 5, .int .i64 k, .int .i64 dt, .int .i64 dp, .int .i64 dg] 24, .row (.slice (some ⟨g, 0, none⟩) F.length d1) 47 2 F.length (F.flatMap frC), Item.many (PsR v1 rs), Item.many (PsR v9 q9), .row (.slice s9 gone.length d9) 3 1 gone.length (gone.flatMap iC), .row (.slice s5 us.length d5) 37 2 us.length (us.flatMap uC)] wr) (fun _ i _ => us.length - (intOf i).toNat)
      case atStart => exact ⟨0, rfl, Nat.zero_le _, by simp, H⟩
      case round =>
        clear H C
        obtain ⟨j, rfl, hj, rfl, H⟩ := hrel
        skip
        try clear C
        try simp only [World.size_alloc, List.nil_append, List.cons_append, List.append_assoc] at H
        have C := H.cells
        try simp only [cellsOf, cellsM, apartOf, apartM, and_true] at C
        skip
        by_cases hlt : j < us.length
        · obtain ⟨b, o, hso, hb2, c0, c1⟩ := usersCell (H.rowLies 5 uC_len rfl rfl) hlt
          subst hso
          have HAN := Lib.hid (any_snocR hlt (fun u => decide (u.1 = dp)))
          obtain ⟨uo, huo⟩ : ∃ u, u = us[j]! := ⟨_, rfl⟩
          rw [← huo] at c0 c1 HAN
          clear huo
          obtain ⟨u1, u2⟩ := uo
          dsimp only at c0 c1
          generalize (us.take j).any (fun u => decide (u.1 = dp)) = ha at HAN ⊢
          have n1 : (b = wr.heap.size) = False := eq_false (by omega)
          have n2 : (wr.heap.size = b) = False := eq_false (by omega)
          go_upto_region 39 with fail
          clear c0 c1 n1 n2
          generalize hwb : wr.alloc _ = w34
          replace H := HS.eqW hwb H.alloc
          try simp only [World.size_alloc, List.nil_append, List.cons_append, List.append_assoc] at H
          clear hwb
          generalize wr.heap.size = bU at H ⊢
          try clear C
          try clear wr
          have C := H.cells
          try simp only [cellsOf, cellsM, apartOf, apartM, and_true] at C
          skip
          cases ha with
          | true =>
            go_wp2_with fail
            go_roundw
            case rel => exact ⟨j + 1, by go_num, by omega, by rw [HAN.out]; simp, HS.less H (by repeat (first | exact .slnil | refine .cons_cons _ ?_ | refine .cons _ ?_))⟩
            case measure => simp [intOf]; omega
          | false =>
            skip
            by_cases hu1 : u1 = dp
            · subst hu1
              go_wp2_with fail
              go_roundw
              case rel => exact ⟨j + 1, by go_num, by omega, by rw [HAN.out]; simp, HS.less H (by repeat (first | exact .slnil | refine .cons_cons _ ?_ | refine .cons _ ?_))⟩
              case measure => simp [intOf]; omega
            · have hub : (u1 == dp) = false := beq_eq_false_iff_ne.2 hu1
              skip
              go_wp2_with fail
              go_roundw
              case rel => exact ⟨j + 1, by go_num, by omega, by rw [HAN.out]; simp [hu1], HS.less H (by repeat (first | exact .slnil | refine .cons_cons _ ?_ | refine .cons _ ?_))⟩
              case measure => simp [intOf]; omega
        · obtain rfl : j = us.length := by omega
          rw [List.take_length, HHB.out]
          clear hlt hj HHB
          skip
          cases hb with
          | false =>
            have HR := Lib.hid (HR.out.trans (if_pos rfl))
            go_wp2_with fail
            refine bodyPost_ret (by simp [results, Tryz.results12, go_sem, C]; try rfl) rfl ?_
            rw [HR.out]
            exact ⟨_, _, rs, rfl, HRS.out, HS.less (L' := [.row (.slice (some ⟨g, 0, none⟩) F.length d1) 47 2 _ _, Item.many (PsR v1 rs)]) H (by repeat (first | exact .slnil | refine .cons_cons _ ?_ | refine .cons _ ?_))⟩
          | true =>
            have HR := Lib.hid (HR.out.trans (if_neg (by simp)))
            skip
            go_wp2_with fail
            go_loopw [23, 245] (fun u i wr => ∃ (j : Nat) (F2 : List Fr), i = .int .i64 j ∧ j ≤ gone.length ∧ F2.length = F.length ∧ Hid (FrV F2) ∧ Hid ((0, G) = givesP k F2 (gone.drop j)) ∧ HS NoD w [.blk bD #[.int .i64 5, .int .i64 k, .int .i64 dt, .int .i64 dp, .int .i64 dg] 24, .row u 47 2 F2.length (F2.flatMap frC), Item.many (PsR v9 q9), .row (.slice s9 gone.length d9) 3 1 gone.length (gone.flatMap iC)] wr) (fun _ i _ => gone.length - (intOf i).toNat)
            case atStart => exact ⟨0, F, rfl, Nat.zero_le _, rfl, HFV, HG, H.less (by repeat (first | exact .slnil | refine .cons_cons _ ?_ | refine .cons _ ?_))⟩
            case round =>
              clear H C HFV HG
              obtain ⟨j, F2, rfl, hj, hfl, HF, HG, H⟩ := hrel
              skip
              try clear C
              try simp only [World.size_alloc, List.nil_append, List.cons_append, List.append_assoc] at H
              have C := H.cells
              try simp only [cellsOf, cellsM, apartOf, apartM, and_true] at C
              obtain ⟨s2, d2, hu⟩ := ownsRow_slice (H.at 1 rfl)
              subst hu
              have HFL := Lib.hid hfl
              clear hfl
              skip
              by_cases hlt : j < gone.length
              · obtain ⟨b, o, hso, hb2, hc⟩ := (H.rowLies 3 iC_len rfl rfl).at hlt
                subst hso
                have HSU := Lib.hid (givesP_at k F2 hlt)
                obtain ⟨n, hn⟩ : ∃ n, n = gone[j]! := ⟨_, rfl⟩
                rw [← hn] at HSU
                have c0 : wr.cell? ⟨b, o + j, none⟩ = some (.int .i64 n) := by have := hc 0 (.int .i64 n) (by rw [hn]; rfl); simpa using this
                clear hc hn
                by_cases hnf : n = k
                · subst hnf
                  go_wp2_with fail
                  go_roundw
                  case rel => exact ⟨j + 1, F2, by go_num, by omega, HFL.out, HF, Lib.hid (by rw [HG.out, HSU.out, if_pos rfl]), H⟩
                  case measure => simp [intOf]; omega
                · have hnb : (n == (k : Int)) = false := beq_eq_false_iff_ne.2 hnf
                  have HGI := Lib.hid (fun w hl => rgive_any HF.out n (row_cap (H.at 1 rfl)) w hl)
                  have HOK := Lib.hid (giveP_ok HF.out (n := n))
                  generalize giveP F2 n = Q at HGI HOK HSU
                  obtain ⟨eg, F3⟩ := Q
                  dsimp only at HOK HSU
                  have heg : eg = 0 := Classical.byContradiction fun h => by have := HG.out; rw [HSU.out, if_neg hnf, if_pos h] at this; exact h (Prod.mk.inj this).1.symm
                  subst heg
                  skip
                  go_wp2_with fail
                  clear c0
                  refine (HGI.out _ (H.rowLies 1 frC_len rfl rfl)).mono ?_
                  rintro _ w35 ⟨s3, d3, rfl, hr, hb⟩
                  replace H := (H).getsRow hb hr
                  clear hb hr
                  try clear C
                  try simp only [World.size_alloc, List.nil_append, List.cons_append, List.append_assoc] at H
                  try clear wr
                  have C := H.cells
                  try simp only [cellsOf, cellsM, apartOf, apartM, and_true] at C
                  dsimp only
                  clear HGI
                  try dsimp only at H
                  go_wp2_with fail
                  go_roundw
                  case rel => exact ⟨j + 1, F3, by go_num, by omega, (HOK.out (by first | trivial | rfl)).2.trans HFL.out, Lib.hid (HOK.out (by first | trivial | rfl)).1, Lib.hid (by rw [HG.out, HSU.out, if_neg hnf, if_neg (by simp)]), (HS.less (L' := [_, Item.many (PsR v9 q9), .row (.slice (some ⟨b, o, none⟩) gone.length d9) 3 1 gone.length (gone.flatMap iC), .row (.slice s3 F3.length d3) 47 2 F3.length (F3.flatMap frC)]) H (by repeat (first | exact .slnil | refine .cons_cons _ ?_ | refine .cons _ ?_))).permu (List.Perm.cons _ (List.perm_append_comm (l₁ := [_, _]) (l₂ := [_])))⟩
                  case measure => simp [intOf]; omega
              · have hje : gone.drop j = [] := List.drop_eq_nil_of_le (by omega)
                have HGE := Lib.hid (show G = F2 from (Prod.mk.inj (show ((0 : Int), G) = ((0 : Int), F2) by rw [HG.out, hje]; rfl)).2)
                clear hje
                skip
                go_wp2_with fail
                refine bodyPost_ret (by simp [results, Tryz.results12, go_sem, C]; try rfl) rfl ?_
                rw [HR.out, HGE.out]
                exact ⟨_, _, q9, rfl, HQ9.out, HS.less (L' := [.row (.slice s2 F2.length d2) 47 2 _ _, Item.many (PsR v9 q9)]) H (by repeat (first | exact .slnil | refine .cons_cons _ ?_ | refine .cons _ ?_))⟩
    · rw [if_pos e0] at hR
      have HR := Lib.hid hR
      clear hR
      have heb : (ee == 0) = false := beq_eq_false_iff_ne.2 e0
      skip
      go_wp2_with fail
      refine bodyPost_ret (by simp [results, Tryz.results12, go_sem, C]; try rfl) rfl ?_
      rw [HR.out]
      exact ⟨_, _, rs, rfl, HRS.out, HS.less (L' := [.row (.slice (some ⟨g, 0, none⟩) F.length d1) 47 2 _ _, Item.many (PsR v1 rs)]) H (by repeat (first | exact .slnil | refine .cons_cons _ ?_ | refine .cons _ ?_))⟩
  · subst kk
    skip
    rw [if_neg (by decide)] at hR
    skip
    by_cases f0 : df < 0
    · rw [if_pos (.inl f0)] at hR
      have HR := Lib.hid hR
      clear hR
      go_wp2_with fail
      refine (HV.out _ _ _ _ (H.rowLies 1 frC_len rfl rfl) (by have := H.ownPs 2 rfl; rw [HRS.out] at this; exact this)).mono ?_
      rintro _ w36 ⟨rfl, hb⟩
      replace H := H.below hb
      clear hb
      try clear C
      try simp only [World.size_alloc, List.nil_append, List.cons_append, List.append_assoc] at H
      try clear w2
      have C := H.cells
      try simp only [cellsOf, cellsM, apartOf, apartM, and_true] at C
      dsimp only
      go_wp2_with fail
      refine bodyPost_ret (by simp [results, Tryz.results12, go_sem, C]; try rfl) rfl ?_
      rw [HR.out]
      exact ⟨_, _, rs, rfl, HRS.out, HS.less (L' := [.row (.slice (some ⟨g, 0, none⟩) F.length d1) 47 2 _ _, Item.many (PsR v1 rs)]) H (by repeat (first | exact .slnil | refine .cons_cons _ ?_ | refine .cons _ ?_))⟩
    skip
    by_cases f1 : (F.length : Int) ≤ df
    · rw [if_pos (.inr (.inl f1))] at hR
      have HR := Lib.hid hR
      clear hR
      go_wp2_with fail
      refine (HV.out _ _ _ _ (H.rowLies 1 frC_len rfl rfl) (by have := H.ownPs 2 rfl; rw [HRS.out] at this; exact this)).mono ?_
      rintro _ w37 ⟨rfl, hb⟩
      replace H := H.below hb
      clear hb
      try clear C
      try simp only [World.size_alloc, List.nil_append, List.cons_append, List.append_assoc] at H
      try clear w2
      have C := H.cells
      try simp only [cellsOf, cellsM, apartOf, apartM, and_true] at C
      dsimp only
      go_wp2_with fail
      refine bodyPost_ret (by simp [results, Tryz.results12, go_sem, C]; try rfl) rfl ?_
      rw [HR.out]
      exact ⟨_, _, rs, rfl, HRS.out, HS.less (L' := [.row (.slice (some ⟨g, 0, none⟩) F.length d1) 47 2 _ _, Item.many (PsR v1 rs)]) H (by repeat (first | exact .slnil | refine .cons_cons _ ?_ | refine .cons _ ?_))⟩
    obtain ⟨k, rfl⟩ : ∃ k : Nat, df = k := ⟨df.toNat, by omega⟩
    have hk : k < F.length := by omega
    have hki : (k : Int) < F.length := by omega
    have hkd : (k : Int) < d1 := by omega
    clear f0 f1
    have hkt : ((k : Nat) : Int).toNat = k := rfl
    rw [hkt] at hR
    clear hkt
    skip
    rw [if_neg (fun h => by rcases h with h | h | h; omega; omega; exact absurd h.1 (by decide)), if_neg (by simp)] at hR
    clear HFE
    rw [if_neg (by decide), if_neg (by decide)] at hR
    rw [if_neg (by decide)] at hR
    rw [if_neg (by decide)] at hR
    have HR := Lib.hid hR
    clear hR
    go_wp2_with fail
    refine (HV.out _ _ _ _ (H.rowLies 1 frC_len rfl rfl) (by have := H.ownPs 2 rfl; rw [HRS.out] at this; exact this)).mono ?_
    rintro _ w38 ⟨rfl, hb⟩
    replace H := H.below hb
    clear hb
    try clear C
    try simp only [World.size_alloc, List.nil_append, List.cons_append, List.append_assoc] at H
    try clear w2
    have C := H.cells
    try simp only [cellsOf, cellsM, apartOf, apartM, and_true] at C
    dsimp only
    go_wp2_with fail
    refine bodyPost_ret (by simp [results, Tryz.results12, go_sem, C]; try rfl) rfl ?_
    rw [HR.out]
    exact ⟨_, _, rs, rfl, HRS.out, HS.less (L' := [.row (.slice (some ⟨g, 0, none⟩) F.length d1) 47 2 _ _, Item.many (PsR v1 rs)]) H (by repeat (first | exact .slnil | refine .cons_cons _ ?_ | refine .cons _ ?_))⟩
end Go.Proofs.YtedbpmckgiifpaaGreat
