/- contain: has, state, Shift, tell, kill. -/
import Derived.Test.YtedbpmckgiifpaaGreatC4
import Derived.Test.YtedbpmckgiifpaaGreatC6
import Derived.Test.YtedbpmckgiifpaaGreatOP8
import Derived.Test.YtedbpmckgiifpaaGreatOEnd
namespace Go.Proofs.YtedbpmckgiifpaaGreat
set_option linter.unusedSimpArgs false
set_option linter.unusedVariables false
open Go.RowKit
set_option maxRecDepth 100000
attribute [local go_sem] lt_more ne_more ne_more'
attribute [local irreducible] wpX wpF Calls

theorem users_short {F : Int} {ps : List Pr} (hg : GoodP F ps) (f : Int) : (usersL ps f).length ≤ 100000 := by
  have h1 := hg.smallP
  have : ∀ l : List Pr, (∀ p ∈ l, p.pages.length ≤ 1000) → (usersL l f).length ≤ 1000 * l.length := fun l => by
    induction l with
    | nil => intro _; exact Nat.zero_le _
    | cons p l ih =>
      intro h
      have h2 := ih fun q hq => h q (by simp [hq])
      have h3 := cnt_cons p l f
      unfold cnt at h3
      rw [h3, List.length_cons]
      have h4 : cf p.pages f ≤ p.pages.length := List.length_filter_le _ _
      have h5 := h p (by simp)
      omega
  have h6 := this ps fun p hp => (h1.2 p hp).1
  have h7 := hg.len
  omega
def hasT (id pg : Int) (u : Int × Int) : Bool := decide (u.1 = id) && (decide (pg < 0) || decide (u.2 = pg))
def hasB (ps : List Pr) (f id pg : Int) : Bool := (usersL ps f).any (hasT id pg)
theorem has1_any (x : Int × Int) (id pg : Int) (b1 b2 : Nat) (w : World) (h1 : w.cell? ⟨b1, 0, none⟩ = some (.int .i64 id)) (l1 : b1 < w.heap.size) (h2 : w.cell? ⟨b2, 0, none⟩ = some (.int .i64 pg)) (l2 : b2 < w.heap.size) : Calls Tryz.prog 82 #[.agg (uC x).toArray, .pointer (some ⟨b1, 0, none⟩), .pointer (some ⟨b2, 0, none⟩)] w (Gives (.bool (hasT id pg x)) w) := by
  obtain ⟨u0, u1⟩ := x
  have hne : (w.heap.size = b1) = False := eq_false (by omega)
  have hne' : (b1 = w.heap.size) = False := eq_false (by omega)
  have hne2 : (w.heap.size = b2) = False := eq_false (by omega)
  have hne2' : (b2 = w.heap.size) = False := eq_false (by omega)
  show Calls Tryz.prog 82 #[.agg #[.int .i64 u0, .int .i64 u1], .pointer (some ⟨b1, 0, none⟩), .pointer (some ⟨b2, 0, none⟩)] w _
  by_cases e1 : u0 = id
  · subst e1
    by_cases e2 : pg < 0
    · go_enter Tryz.func82, Tryz.ntmps82
      have H := HS.start NoD w
      go_wp2_with fail
      go_ret
      exact ⟨by unfold hasT; simp [e2], H.alloc.done⟩
    · go_enter Tryz.func82, Tryz.ntmps82
      have H := HS.start NoD w
      go_wp2_with fail
      go_ret
      exact ⟨by unfold hasT; rw [show decide (pg < 0) = false from decide_eq_false (by omega)]; simp; rfl, H.alloc.done⟩
  · have e1b : (u0 == id) = false := beq_eq_false_iff_ne.2 e1
    go_enter Tryz.func82, Tryz.ntmps82
    have H := HS.start NoD w
    go_wp2_with fail
    go_ret
    exact ⟨by unfold hasT; simp [e1], H.alloc.done⟩
set_option maxHeartbeats 4000000 in
theorem has_any {F : Int} {ps : List Pr} (hg : GoodP F ps) (f id pg : Int) {v : Value} (w : World) (hl : Ps w w.heap.size v ps) :
    Calls Tryz.prog 71 #[v, .int .i64 f, .int .i64 id, .int .i64 pg] w (Gives (.bool (hasB ps f id pg)) w) := by
  have HUS := Lib.hid (fun w h => ousers_any f hg.small (v := v) w h)
  have hml := users_short hg f
  have HPS := Lib.hid hl
  clear hl hg
  have HB := Lib.hid (show hasB ps f id pg = (usersL ps f).any (hasT id pg) from rfl)
  rw [HB.out]
  generalize usersL ps f = us at HUS hml ⊢
  clear HB
  go_enter Tryz.func71, Tryz.ntmps71
  have H := HS.start NoD w
  go_upto_region 1 with fail
  generalize hwb : (w.alloc _).alloc _ = w1
  replace H := HS.eqW hwb H.alloc.alloc
  try simp only [World.size_alloc, List.nil_append, List.cons_append, List.append_assoc] at H
  clear hwb
  generalize w.heap.size + 1 = bG at H ⊢
  generalize w.heap.size = bI at H ⊢
  try clear C
  have C := H.cells
  try simp only [cellsOf, cellsM, apartOf, apartM, and_true] at C
  go_wp2_with fail
  refine (HUS.out _ (H.psUp HPS.out)).mono ?_
  rintro _ w2 ⟨su, cu, rfl, hr, hb⟩
  replace H := (H).getsRow hb hr
  clear hb hr
  try clear C
  try simp only [World.size_alloc, List.nil_append, List.cons_append, List.append_assoc] at H
  try clear w1
  have C := H.cells
  try simp only [cellsOf, cellsM, apartOf, apartM, and_true] at C
  dsimp only
  clear HUS
  have hcon := containsUs 82 (fun _ _ => rfl) #[.pointer (some ⟨bI, 0, none⟩), .pointer (some ⟨bG, 0, none⟩)] (hasT id pg) cu (by omega) w2 (H.rowLies 2 uC_len rfl rfl) (fun W x hb => has1_any x id pg bI bG W ((Blk.below (H.at 0 rfl) hb).cell 0) (Blk.below (H.at 0 rfl) hb).lt ((Blk.below (H.at 1 rfl) hb).cell 0) (Blk.below (H.at 1 rfl) hb).lt)
  go_wp2_with fail
  refine (hcon).mono ?_
  rintro _ w3 ⟨rfl, hb⟩
  replace H := H.below hb
  clear hb
  try clear C
  try simp only [World.size_alloc, List.nil_append, List.cons_append, List.append_assoc] at H
  try clear w2
  have C := H.cells
  try simp only [cellsOf, cellsM, apartOf, apartM, and_true] at C
  dsimp only
  clear hcon
  go_wp2_with fail
  go_ret
  exact ⟨rfl, H.done⟩
/-- The error of a deed whose frame is not in the state that it needs. -/
def stateE (F : List Fr) (ps : List Pr) (d : Dd) : Int :=
  let s := (F[d.f.toNat]!).st
  if (d.k = 1 ∧ occB s = true ∧ usedB ps d.f = true) ∨ (d.k = 2 ∧ s ≠ 1) ∨ (d.k = 3 ∧ s ≠ 3) then 40 else 0
theorem HS.cellWas {D : Nat → Prop} {W w : World} {L : List Item} (h : HS D W L w) {b o : Nat} {v : Value} (hb : b < W.heap.size) (hd : ¬ D b) (hc : W.cell? ⟨b, o, none⟩ = some v) : w.cell? ⟨b, o, none⟩ = some v := (h.was (p := ⟨b, o, none⟩) hb hd).trans hc
set_option maxHeartbeats 16000000 in
theorem cstate_any {F : List Fr} (hF : F.length ≤ 1000) {F' : Int} {ps : List Pr} (hg : GoodP F' ps) (d : Dd) (h0 : 0 ≤ d.f) (h1 : d.f < F.length) {sa : Option Addr} (c : Nat) {v : Value} (w : World) (hl : Lies w w.heap.size sa 2 F.length (fun j => frC F[j]!)) (hp : Ps w w.heap.size v ps) :
    Calls Tryz.prog 24 #[.slice sa F.length c, v, .agg (ddC d).toArray] w (Gives (.int .i64 (stateE F ps d)) w) := by
  obtain ⟨dk, df, dt, dp, dg⟩ := d
  dsimp only at h0 h1
  obtain ⟨k, rfl⟩ : ∃ k : Nat, df = k := ⟨df.toNat, by omega⟩
  have hk : k < F.length := by omega
  have HUS := Lib.hid (fun w h => ousers_any k hg.small (v := v) w h)
  have hml := users_short hg k
  have HUI := Lib.hid (used_iff ps k)
  obtain ⟨b, o, rfl, hb, hc⟩ := hl.at hk
  obtain ⟨s, hs⟩ : ∃ s, s = (F[k]!).st := ⟨_, rfl⟩
  have HC0 := Lib.hid (show w.cell? ⟨b, o + k * 2, none⟩ = some (.int .i64 s) by rw [hs]; exact hc 0 _ rfl)
  have HB := Lib.hid hb
  have HPS := Lib.hid hp
  obtain ⟨R, hR⟩ : ∃ R, R = stateE F ps ⟨dk, k, dt, dp, dg⟩ := ⟨_, rfl⟩
  have hRS : R = if (dk = 1 ∧ occB s = true ∧ usedB ps k = true) ∨ (dk = 2 ∧ s ≠ 1) ∨ (dk = 3 ∧ s ≠ 3) then 40 else 0 := by rw [hR, hs]; rfl
  rw [← hR]
  have HRS := Lib.hid hRS
  clear hl hp hs hc hb hR hRS h0 h1 hg
  show Calls Tryz.prog 24 #[.slice (some ⟨b, o, none⟩) F.length c, v, .agg #[.int .i64 dk, .int .i64 k, .int .i64 dt, .int .i64 dp, .int .i64 dg]] w _
  generalize (usersL ps k).flatMap uC = us at HUS
  generalize (usersL ps k).length = m at HUS HUI hml
  go_enter Tryz.func24, Tryz.ntmps24
  have H := HS.start NoD w
  go_upto_region 1 with fail
  generalize hwb : w.alloc _ = w1
  replace H := HS.eqW hwb H.alloc
  try simp only [World.size_alloc, List.nil_append, List.cons_append, List.append_assoc] at H
  clear hwb
  generalize w.heap.size = bD at H ⊢
  try clear C
  have C := H.cells
  try simp only [cellsOf, cellsM, apartOf, apartM, and_true] at C
  have c0 : w1.cell? ⟨b, o + k * 2, none⟩ = some (.int .i64 s) := H.cellWas HB.out id HC0.out
  by_cases h1 : 1 ≤ s
  · by_cases h4 : s ≤ 4
    · have HOC := Lib.hid (show occB s = true by unfold occB; simp [h1, h4])
      go_upto_region 2 with fail
      clear c0
      go_wp2_with fail
      refine (HUS.out _ (H.psUp HPS.out)).mono ?_
      rintro _ w2 ⟨su, cu, rfl, hr, hb⟩
      replace H := (H).getsRow hb hr
      clear hb hr
      try clear C
      try simp only [World.size_alloc, List.nil_append, List.cons_append, List.append_assoc] at H
      try clear w1
      have C := H.cells
      try simp only [cellsOf, cellsM, apartOf, apartM, and_true] at C
      dsimp only
      replace H := H.less (L' := [.blk bD #[.int .i64 dk, .int .i64 k, .int .i64 dt, .int .i64 dp, .int .i64 dg] 24]) (by repeat (first | exact .slnil | refine .cons_cons _ ?_ | refine .cons _ ?_))
      try clear C
      try clear C
      try simp only [World.size_alloc, List.nil_append, List.cons_append, List.append_assoc] at H
      have C := H.cells
      try simp only [cellsOf, cellsM, apartOf, apartM, and_true] at C
      by_cases hm : 0 < m
      · have hmi : (0 : Int) < m := by omega
        have HUB := Lib.hid (HUI.out.2 hm)
        go_upto_region 3 with fail
        by_cases k1 : dk = 1
        · subst k1
          go_wp2_with fail
          go_ret
          exact ⟨ret_int (by rw [HRS.out]; rw [HOC.out, HUB.out]; simp), H.done⟩
        have k1b : (dk == 1) = false := beq_eq_false_iff_ne.2 k1
        by_cases k2 : dk = 2
        · subst k2
          by_cases s1 : s = 1
          · subst s1
            go_wp2_with fail
            go_ret
            exact ⟨ret_int (by rw [HRS.out]; simp), H.done⟩
          · have s1b : (s == 1) = false := beq_eq_false_iff_ne.2 s1
            go_wp2_with fail
            go_ret
            exact ⟨ret_int (by rw [HRS.out]; simp [s1]), H.done⟩
        have k2b : (dk == 2) = false := beq_eq_false_iff_ne.2 k2
        by_cases k3 : dk = 3
        · subst k3
          by_cases s3 : s = 3
          · subst s3
            go_wp2_with fail
            go_ret
            exact ⟨ret_int (by rw [HRS.out]; simp), H.done⟩
          · have s3b : (s == 3) = false := beq_eq_false_iff_ne.2 s3
            go_wp2_with fail
            go_ret
            exact ⟨ret_int (by rw [HRS.out]; simp [s3]), H.done⟩
        have k3b : (dk == 3) = false := beq_eq_false_iff_ne.2 k3
        go_wp2_with fail
        go_ret
        exact ⟨ret_int (by rw [HRS.out]; simp [k1, k2, k3]), H.done⟩
      · have hmi : ¬ (0 : Int) < m := by omega
        have HUB := Lib.hid (show usedB ps k = false by cases h : usedB ps k with | true => exact absurd (HUI.out.1 h) hm | false => rfl)
        have hm0 : m = 0 := by omega
        subst hm0
        go_upto_region 3 with fail
        by_cases k1 : dk = 1
        · subst k1
          go_wp2_with fail
          go_ret
          exact ⟨ret_int (by rw [HRS.out]; rw [HUB.out]; simp), H.done⟩
        have k1b : (dk == 1) = false := beq_eq_false_iff_ne.2 k1
        by_cases k2 : dk = 2
        · subst k2
          by_cases s1 : s = 1
          · subst s1
            go_wp2_with fail
            go_ret
            exact ⟨ret_int (by rw [HRS.out]; simp), H.done⟩
          · have s1b : (s == 1) = false := beq_eq_false_iff_ne.2 s1
            go_wp2_with fail
            go_ret
            exact ⟨ret_int (by rw [HRS.out]; simp [s1]), H.done⟩
        have k2b : (dk == 2) = false := beq_eq_false_iff_ne.2 k2
        by_cases k3 : dk = 3
        · subst k3
          by_cases s3 : s = 3
          · subst s3
            go_wp2_with fail
            go_ret
            exact ⟨ret_int (by rw [HRS.out]; simp), H.done⟩
          · have s3b : (s == 3) = false := beq_eq_false_iff_ne.2 s3
            go_wp2_with fail
            go_ret
            exact ⟨ret_int (by rw [HRS.out]; simp [s3]), H.done⟩
        have k3b : (dk == 3) = false := beq_eq_false_iff_ne.2 k3
        go_wp2_with fail
        go_ret
        exact ⟨ret_int (by rw [HRS.out]; simp [k1, k2, k3]), H.done⟩
    · have HOC := Lib.hid (show occB s = false by unfold occB; simp [h4])
      go_upto_region 3 with fail
      clear c0
      by_cases k1 : dk = 1
      · subst k1
        go_wp2_with fail
        go_ret
        exact ⟨ret_int (by rw [HRS.out]; rw [HOC.out]; simp), H.done⟩
      have k1b : (dk == 1) = false := beq_eq_false_iff_ne.2 k1
      by_cases k2 : dk = 2
      · subst k2
        by_cases s1 : s = 1
        · subst s1
          exfalso; omega
        · have s1b : (s == 1) = false := beq_eq_false_iff_ne.2 s1
          go_wp2_with fail
          go_ret
          exact ⟨ret_int (by rw [HRS.out]; simp [s1]), H.done⟩
      have k2b : (dk == 2) = false := beq_eq_false_iff_ne.2 k2
      by_cases k3 : dk = 3
      · subst k3
        by_cases s3 : s = 3
        · subst s3
          exfalso; omega
        · have s3b : (s == 3) = false := beq_eq_false_iff_ne.2 s3
          go_wp2_with fail
          go_ret
          exact ⟨ret_int (by rw [HRS.out]; simp [s3]), H.done⟩
      have k3b : (dk == 3) = false := beq_eq_false_iff_ne.2 k3
      go_wp2_with fail
      go_ret
      exact ⟨ret_int (by rw [HRS.out]; simp [k1, k2, k3]), H.done⟩
  · have HOC := Lib.hid (show occB s = false by unfold occB; simp [h1])
    go_upto_region 3 with fail
    clear c0
    by_cases k1 : dk = 1
    · subst k1
      go_wp2_with fail
      go_ret
      exact ⟨ret_int (by rw [HRS.out]; rw [HOC.out]; simp), H.done⟩
    have k1b : (dk == 1) = false := beq_eq_false_iff_ne.2 k1
    by_cases k2 : dk = 2
    · subst k2
      by_cases s1 : s = 1
      · subst s1
        exfalso; omega
      · have s1b : (s == 1) = false := beq_eq_false_iff_ne.2 s1
        go_wp2_with fail
        go_ret
        exact ⟨ret_int (by rw [HRS.out]; simp [s1]), H.done⟩
    have k2b : (dk == 2) = false := beq_eq_false_iff_ne.2 k2
    by_cases k3 : dk = 3
    · subst k3
      by_cases s3 : s = 3
      · subst s3
        exfalso; omega
      · have s3b : (s == 3) = false := beq_eq_false_iff_ne.2 s3
        go_wp2_with fail
        go_ret
        exact ⟨ret_int (by rw [HRS.out]; simp [s3]), H.done⟩
    have k3b : (dk == 3) = false := beq_eq_false_iff_ne.2 k3
    go_wp2_with fail
    go_ret
    exact ⟨ret_int (by rw [HRS.out]; simp [k1, k2, k3]), H.done⟩
/-- Frames, programs, and an error. -/
def GivesFP (R : Int × List Fr × List Pr) (w : World) (x : Ending) (w' : World) : Prop :=
  ∃ fv pv qs, x = .returned (.tuple #[fv, pv, .int .i64 R.1]) ∧ qs.map (·.p) = R.2.2 ∧ HS NoD w [.row fv 47 2 R.2.1.length (R.2.1.flatMap frC), Item.many (PsR pv qs)] w'
theorem givesFP_nil {w w' : World} {L : List Item} (H : HS NoD w L w') (e : Int) : GivesFP (e, [], []) w (.returned (.tuple #[.slice none 0 0, .slice none 0 0, .int .i64 e])) w' :=
  ⟨_, _, [], rfl, rfl, HS.less (H.nilRow 47 2).nilPs (by rw [List.append_assoc]; exact List.sublist_append_right _ _)⟩
def shiftP (F : List Fr) (ps : List Pr) (a b : Int) : Int × List Fr × List Pr :=
  let R := replP ps a b
  if R.1 ≠ 0 then (R.1, [], []) else (0, (F.set b.toNat F[a.toNat]!).set a.toNat ⟨0, 0⟩, R.2)
set_option maxHeartbeats 8000000 in
theorem cshift_any {F : List Fr} (hF : F.length ≤ 1000) {F' : Int} {ps : List Pr} (hg : GoodP F' ps) (a b : Nat) (ha : a < F.length) (hb : b < F.length) (hab : a ≠ b) {sa : Option Addr} (c : Nat) {v : Value} (w : World) (hl : Lies w w.heap.size sa 2 F.length (fun j => frC F[j]!)) (hp : Ps w w.heap.size v ps) :
    Calls Tryz.prog 46 #[.slice sa F.length c, v, .int .i64 a, .int .i64 b] w (GivesFP (shiftP F ps a b) w) := by
  have HR := Lib.hid (orepl_any a b hg.smallP w hp)
  have HCL := Lib.hid (fun w hl => cloneFr (sa := sa) c hF (frC_one F) w hl)
  have HL := Lib.hid hl
  have HSH := Lib.hid (show shiftP F ps a b = if (replP ps a b).1 ≠ 0 then ((replP ps a b).1, [], []) else (0, (F.set b F[a]!).set a ⟨0, 0⟩, (replP ps a b).2) from rfl)
  rw [HSH.out]
  generalize replP ps a b = R at HR ⊢
  clear HSH hl hp hg
  obtain ⟨xo, hxo⟩ : ∃ x, x = F[a]! := ⟨_, rfl⟩
  rw [← hxo]
  have HXO := Lib.hid hxo
  clear hxo
  obtain ⟨e, out⟩ := R
  dsimp only
  by_cases he : e = 0
  · subst he
    rw [if_neg (by simp)]
    go_enter Tryz.func46, Tryz.ntmps46
    have H := HS.start NoD w
    go_wp2_with fail
    refine HR.out.mono ?_
    rintro _ w1 ⟨v1, rs, rfl, hrs, K⟩
    have HRS := Lib.hid hrs
    clear hrs HR
    replace H := H.join1 K
    clear K
    simp only [List.nil_append, List.cons_append] at H
    skip
    try clear C
    try simp only [World.size_alloc, List.nil_append, List.cons_append, List.append_assoc] at H
    have C := H.cells
    try simp only [cellsOf, cellsM, apartOf, apartM, and_true] at C
    dsimp only
    go_wp2_with fail
    refine (HCL.out _ (H.liesUp HL.out)).mono ?_
    rintro _ w1 ⟨s1, d1, rfl, hr, hb⟩
    replace H := (H).getsRow hb hr
    clear hb hr
    try clear C
    try simp only [World.size_alloc, List.nil_append, List.cons_append, List.append_assoc] at H
    try clear w1
    have C := H.cells
    try simp only [cellsOf, cellsM, apartOf, apartM, and_true] at C
    dsimp only
    clear HCL
    obtain ⟨g, rfl, hgs, hcap⟩ := ownsRow_ptr (H.at 1 rfl) (by omega)
    have cell : ∀ (k m : Nat) (u : Value), k < F.length → m < 2 → (frC F[k]!)[m]? = some u → w1.cell? ⟨g, k * 2 + m, none⟩ = some u ∧ w1.frozen? ⟨g, k * 2 + m, none⟩ = false := fun k m u hk hm hu => by
      have h1 := H.rowCells 1 rfl (k * 2 + m) (by omega)
      exact ⟨h1.1.trans (flat_get frC_len F k m u hk hu), h1.2⟩
    have c0 : w1.cell? ⟨g, a * 2, none⟩ = some (.int .i64 (F[a]!).st) ∧ _ := cell a 0 _ ha (by decide) rfl
    have c1 := cell a 1 (.int .i64 (F[a]!).bl) ha (by decide) rfl
    have d0 : w1.cell? ⟨g, b * 2, none⟩ = some (.int .i64 (F[b]!).st) ∧ w1.frozen? ⟨g, b * 2, none⟩ = false := cell b 0 _ hb (by decide) rfl
    have d1' := cell b 1 (.int .i64 (F[b]!).bl) hb (by decide) rfl
    have c0f : w1.frozen? ⟨g, a * 2, none⟩ = false := (cell a 0 _ ha (by decide) rfl).2
    replace c0 := c0.1
    obtain ⟨c1, c1f⟩ := c1
    obtain ⟨d0, d0f⟩ := d0
    obtain ⟨e1, e1f⟩ := d1'
    clear cell hgs
    rw [← HXO.out] at c0 c1
    have n1 : (a = b) = False := eq_false hab
    have n2 : (b = a) = False := eq_false fun h => hab h.symm
    have n3 : (a * 2 + 1 = b * 2) = False := eq_false (by omega)
    have n4 : (b * 2 = a * 2 + 1) = False := eq_false (by omega)
    have n5 : (a * 2 = b * 2 + 1) = False := eq_false (by omega)
    have n6 : (b * 2 + 1 = a * 2) = False := eq_false (by omega)
    have n7 : (a * 2 = b * 2) = False := eq_false (by omega)
    have n8 : (b * 2 = a * 2) = False := eq_false (by omega)
    go_wp2_with fail
    clear c0 c0f c1 c1f d0 d0f e1 e1f
    generalize hwb : World.setCell _ _ _ = w5
    have H9 := HS.eqW hwb ((((H.rowSet 1 rfl (b * 2) (.int .i64 xo.st)).rowSet 1 rfl (b * 2 + 1) (.int .i64 xo.bl)).rowSet 1 rfl (a * 2) (.int .i64 0)).rowSet 1 rfl (a * 2 + 1) (.int .i64 0))
    clear hwb H
    simp only [List.set_cons_succ, List.set_cons_zero] at H9
    rw [flat_setFr hb xo] at H9
    have hfl := flat_setFr (F := F.set b xo) (k := a) (by rw [List.length_set]; exact ha) ⟨0, 0⟩
    dsimp only at hfl
    rw [hfl] at H9
    clear hfl
    go_wp2_with fail
    refine bodyPost_ret (by simp [results, Tryz.results46, go_sem, C]; try rfl) rfl ?_
    refine ⟨_, _, rs, rfl, HRS.out, ?_⟩
    dsimp only
    rw [List.length_set, List.length_set]
    exact H9.permu (List.Perm.swap _ _ _)
  · have heb : (e == 0) = false := beq_eq_false_iff_ne.2 he
    rw [if_pos he]
    go_enter Tryz.func46, Tryz.ntmps46
    have H := HS.start NoD w
    go_wp2_with fail
    refine HR.out.mono ?_
    rintro _ w1 ⟨v1, rs, rfl, hrs, K⟩
    clear hrs HR
    replace H := H.join1 K
    clear K
    simp only [List.nil_append, List.cons_append] at H
    skip
    try clear C
    try simp only [World.size_alloc, List.nil_append, List.cons_append, List.append_assoc] at H
    have C := H.cells
    try simp only [cellsOf, cellsM, apartOf, apartM, and_true] at C
    dsimp only
    go_wp2_with fail
    refine bodyPost_ret (by simp [results, Tryz.results46, go_sem, C]; try rfl) rfl ?_
    exact givesFP_nil H e
end Go.Proofs.YtedbpmckgiifpaaGreat
