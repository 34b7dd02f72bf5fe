/- contain.Apply on valid frames and programs, whatever the deed. -/
import Derived.Test.YtedbpmckgiifpaaGreatC8
namespace Go.Proofs.YtedbpmckgiifpaaGreat
set_option linter.unusedSimpArgs false
set_option linter.unusedVariables false
open Go.RowKit
set_option maxRecDepth 100000
attribute [local go_sem] lt_more ne_more ne_more'
attribute [local irreducible] wpX wpF Calls

set_option maxHeartbeats 4000000 in
theorem csame_any {F : List Fr} (hF : F.length ≤ 1000) {ps : List Pr} (hx : SmallP ps) (e : Int) {sa : Option Addr} (c : Nat) {v : Value} (bF bP : Nat) (w : World) (h1 : w.cell? ⟨bF, 0, none⟩ = some (.slice sa F.length c)) (l1 : bF < w.heap.size) (h2 : w.cell? ⟨bP, 0, none⟩ = some v) (l2 : bP < w.heap.size) (hl : Lies w w.heap.size sa 2 F.length (fun j => frC F[j]!)) (hp : Ps w w.heap.size v ps) :
    Calls Tryz.prog 19 #[.int .i64 e, .pointer (some ⟨bF, 0, none⟩), .pointer (some ⟨bP, 0, none⟩)] w (GivesFP (e, F, ps) w) := by
  have HCL := Lib.hid (fun w hl => cloneFr (sa := sa) c hF (frC_one F) w hl)
  have HCP := Lib.hid (fun w h => ocopy_any (v := v) hx w h)
  have HL := Lib.hid hl
  have HPS := Lib.hid hp
  clear hl hp hx
  go_enter Tryz.func19, Tryz.ntmps19
  have H := HS.start NoD w
  go_upto_region 1 with fail
  go_region_law (first
    | (go_simp; go_at_call 20
       first
         | (refine (HCL.out _ (H.drew.liesUp HL.out)).mono ?_; rintro _ wa ⟨s1, d1, rfl, hr, hb1⟩; have H1 := H.drew.getsRow hb1 hr; have k1 := H1.cellWas l1 id h1; have k2 := H1.cellWas l2 id h2; clear hr hb1)
         | (refine (HCL.out _ (H1.liesUp HL.out)).mono ?_; rintro _ wb ⟨s1, d1, rfl, hr, hb1⟩; have H2 := H1.getsRow hb1 hr; clear hr hb1))
    | (go_simp; go_at_call 21
       first
         | (refine (HCP.out _ (H.drew.psUp HPS.out)).mono ?_; rintro _ wa ⟨v1, rs, rfl, hrs, K⟩; have H1 := H.drew.join1 K; have k1 := H1.cellWas l1 id h1; have k2 := H1.cellWas l2 id h2; clear K)
         | (refine (HCP.out _ (H1.psUp HPS.out)).mono ?_; rintro _ wb ⟨v1, rs, rfl, hrs, K⟩; have H2 := H1.join1 K; clear K)))
  all_goals
    have C := H2.cells
    simp only [List.nil_append, List.cons_append] at H2
    go_wp2_with fail
    refine bodyPost_ret (by simp [results, Tryz.results19, go_sem, C]; try rfl) rfl ?_
    first
      | exact ⟨_, _, rs, rfl, hrs, H2⟩
      | exact ⟨_, _, rs, rfl, hrs, H2.permu (List.Perm.swap _ _ _)⟩
def carryP (F : List Fr) (ps : List Pr) (d : Dd) : Int × List Fr × List Pr :=
  if d.k = 1 then ((retireP F d.f).1, (retireP F d.f).2, ps)
  else if d.k = 2 ∨ d.k = 3 then shiftP F ps d.f d.tq
  else if d.k = 4 then ctellP F ps d
  else if d.k = 5 then ckillP F ps d
  else (0, F, ps)
def applyP (F : List Fr) (ps : List Pr) (d : Dd) : Int × List Fr × List Pr :=
  if d.k < 1 ∨ 6 < d.k then (2, F, ps)
  else if d.f < 0 ∨ (F.length : Int) ≤ d.f ∨ ((d.k = 2 ∨ d.k = 3) ∧ freeAtF F d.tq = false) then (43, F, ps)
  else if stateE F ps d ≠ 0 then (stateE F ps d, F, ps)
  else if (carryP F ps d).1 ≠ 0 then ((carryP F ps d).1, F, ps)
  else (0, (carryP F ps d).2.1, (carryP F ps d).2.2)
set_option maxHeartbeats 16000000 in
theorem ccarry_any {F : List Fr} (hF : FrV F) {ps : List Pr} (hg : GoodP F.length ps) (d : Dd) (h0 : 0 ≤ d.f) (h1 : d.f < F.length) (hm : d.k = 2 ∨ d.k = 3 → 0 ≤ d.tq ∧ d.tq < F.length ∧ d.f ≠ d.tq) {sa : Option Addr} (c : Nat) {v : Value} (w : World) (hl : Lies w w.heap.size sa 2 F.length (fun j => frC F[j]!)) (hp : Ps w w.heap.size v ps) :
    Calls Tryz.prog 25 #[.slice sa F.length c, v, .agg (ddC d).toArray] w (GivesFP (carryP F ps d) w) := by
  have hF2 := hF.high
  have HTL := Lib.hid (fun w h1 h2 => ctell_any (show F.length ≤ 1000 by omega) hg d (sa := sa) c (v := v) w h1 h2)
  have HKL := Lib.hid (fun w h1 h2 => ckill_any hF hg d (sa := sa) c (v := v) w h1 h2)
  have HRT := Lib.hid (fun w h1 => fretire_any hF d.f (sa := sa) c w h1)
  have HSHF := Lib.hid (fun (a b : Nat) ha hb hab w h1 h2 => cshift_any (show F.length ≤ 1000 by omega) hg a b ha hb hab (sa := sa) c (v := v) w h1 h2)
  have HCL := Lib.hid (fun w hl => cloneFr (sa := sa) c (show F.length ≤ 1000 by omega) (frC_one F) w hl)
  have HCP := Lib.hid (fun w h => ocopy_any (v := v) hg.smallP w h)
  have HL := Lib.hid hl
  have HPS := Lib.hid hp
  have HMV := Lib.hid hm
  obtain ⟨R, hR⟩ : ∃ R, R = carryP F ps d := ⟨_, rfl⟩
  rw [← hR]
  unfold carryP at hR
  obtain ⟨dk, df, dt, dp, dg⟩ := d
  dsimp only at hR h0 h1 hm HRT HMV HTL HKL
  obtain ⟨k, rfl⟩ : ∃ k : Nat, df = k := ⟨df.toNat, by omega⟩
  have hk : k < F.length := by omega
  clear hl hp hF h0 h1 hm hg
  show Calls Tryz.prog 25 #[.slice sa F.length c, v, .agg #[.int .i64 dk, .int .i64 k, .int .i64 dt, .int .i64 dp, .int .i64 dg]] w _
  by_cases k1 : dk = 1
  · subst k1
    rw [if_pos rfl] at hR
    generalize retireP F (k : Int) = Q at HRT hR
    obtain ⟨e, F1⟩ := Q
    dsimp only at hR HRT
    have HR := Lib.hid hR
    clear hR
    go_enter Tryz.func25, Tryz.ntmps25
    have H := HS.start NoD w
    go_upto_region 1 with fail
    generalize hwb : w.alloc _ = w1
    replace H := HS.eqW hwb H.alloc
    try simp only [World.size_alloc, List.nil_append, List.cons_append, List.append_assoc] at H
    clear hwb
    generalize w.heap.size = bD at H ⊢
    try clear C
    have C := H.cells
    try simp only [cellsOf, cellsM, apartOf, apartM, and_true] at C
    go_wp2_with fail
    refine (HRT.out _ (H.liesUp HL.out)).mono ?_
    rintro _ w2 ⟨s1, d1, rfl, hr, hb⟩
    replace H := (H).getsRow hb hr
    clear hb hr
    try clear C
    try simp only [World.size_alloc, List.nil_append, List.cons_append, List.append_assoc] at H
    try clear w1
    have C := H.cells
    try simp only [cellsOf, cellsM, apartOf, apartM, and_true] at C
    dsimp only
    try dsimp only at H
    try dsimp only
    go_wp2_with fail
    refine (HCP.out _ (H.psUp HPS.out)).mono ?_
    rintro _ w7 ⟨v1, rs, rfl, hrs, K⟩
    replace H := H.join1 K
    clear K
    simp only [List.nil_append, List.cons_append] at H
    skip
    try clear C
    try simp only [World.size_alloc, List.nil_append, List.cons_append, List.append_assoc] at H
    have C := H.cells
    try simp only [cellsOf, cellsM, apartOf, apartM, and_true] at C
    dsimp only
    go_wp2_with fail
    refine bodyPost_ret (by simp [results, Tryz.results25, go_sem, C]; try rfl) rfl ?_
    rw [HR.out]
    exact ⟨_, _, rs, rfl, hrs, HS.less (L' := [.row (.slice s1 F1.length d1) 47 2 F1.length (F1.flatMap frC), Item.many (PsR v1 rs)]) H (by repeat (first | exact .slnil | refine .cons_cons _ ?_ | refine .cons _ ?_))⟩
  have k1b : (dk == 1) = false := beq_eq_false_iff_ne.2 k1
  rw [if_neg k1] at hR
  by_cases k2 : dk = 2
  · subst k2
    rw [if_pos (by decide)] at hR
    have HR := Lib.hid hR
    clear hR
    obtain ⟨m1, m2, m3⟩ := HMV.out (by decide)
    obtain ⟨t, rfl⟩ : ∃ t : Nat, dt = t := ⟨dt.toNat, by omega⟩
    have HSF := Lib.hid (HSHF.out k t hk (by omega) (by omega))
    clear HMV
    go_enter Tryz.func25, Tryz.ntmps25
    have H := HS.start NoD w
    go_upto_region 1 with fail
    generalize hwb : w.alloc _ = w1
    replace H := HS.eqW hwb H.alloc
    try simp only [World.size_alloc, List.nil_append, List.cons_append, List.append_assoc] at H
    clear hwb
    generalize w.heap.size = bD at H ⊢
    try clear C
    have C := H.cells
    try simp only [cellsOf, cellsM, apartOf, apartM, and_true] at C
    go_wp2_with fail
    refine (HSF.out _ (H.liesUp HL.out) (H.psUp HPS.out)).mono ?_
    rintro _ w7 ⟨fv, pv, rs, rfl, hrs, K⟩
    replace H := H.join K (fun A hA => by simp only [List.mem_cons, List.mem_nil_iff, or_false] at hA; rcases hA with rfl | rfl <;> rfl)
    clear K
    simp only [List.nil_append, List.cons_append] at H
    skip
    try clear C
    try simp only [World.size_alloc, List.nil_append, List.cons_append, List.append_assoc] at H
    have C := H.cells
    try simp only [cellsOf, cellsM, apartOf, apartM, and_true] at C
    dsimp only
    go_wp2_with fail
    refine bodyPost_ret (by simp [results, Tryz.results25, go_sem, C]; try rfl) rfl ?_
    rw [HR.out]
    exact ⟨_, _, rs, rfl, hrs, HS.less (L' := [.row fv 47 2 _ _, Item.many (PsR pv rs)]) H (by repeat (first | exact .slnil | refine .cons_cons _ ?_ | refine .cons _ ?_))⟩
  have k2b : (dk == 2) = false := beq_eq_false_iff_ne.2 k2
  by_cases k3 : dk = 3
  · subst k3
    rw [if_pos (by decide)] at hR
    have HR := Lib.hid hR
    clear hR
    obtain ⟨m1, m2, m3⟩ := HMV.out (by decide)
    obtain ⟨t, rfl⟩ : ∃ t : Nat, dt = t := ⟨dt.toNat, by omega⟩
    have HSF := Lib.hid (HSHF.out k t hk (by omega) (by omega))
    clear HMV
    go_enter Tryz.func25, Tryz.ntmps25
    have H := HS.start NoD w
    go_upto_region 1 with fail
    generalize hwb : w.alloc _ = w1
    replace H := HS.eqW hwb H.alloc
    try simp only [World.size_alloc, List.nil_append, List.cons_append, List.append_assoc] at H
    clear hwb
    generalize w.heap.size = bD at H ⊢
    try clear C
    have C := H.cells
    try simp only [cellsOf, cellsM, apartOf, apartM, and_true] at C
    go_wp2_with fail
    refine (HSF.out _ (H.liesUp HL.out) (H.psUp HPS.out)).mono ?_
    rintro _ w7 ⟨fv, pv, rs, rfl, hrs, K⟩
    replace H := H.join K (fun A hA => by simp only [List.mem_cons, List.mem_nil_iff, or_false] at hA; rcases hA with rfl | rfl <;> rfl)
    clear K
    simp only [List.nil_append, List.cons_append] at H
    skip
    try clear C
    try simp only [World.size_alloc, List.nil_append, List.cons_append, List.append_assoc] at H
    have C := H.cells
    try simp only [cellsOf, cellsM, apartOf, apartM, and_true] at C
    dsimp only
    go_wp2_with fail
    refine bodyPost_ret (by simp [results, Tryz.results25, go_sem, C]; try rfl) rfl ?_
    rw [HR.out]
    exact ⟨_, _, rs, rfl, hrs, HS.less (L' := [.row fv 47 2 _ _, Item.many (PsR pv rs)]) H (by repeat (first | exact .slnil | refine .cons_cons _ ?_ | refine .cons _ ?_))⟩
  have k3b : (dk == 3) = false := beq_eq_false_iff_ne.2 k3
  rw [if_neg (fun h => h.elim k2 k3)] at hR
  by_cases k4 : dk = 4
  · subst k4
    rw [if_pos rfl] at hR
    have HR := Lib.hid hR
    clear hR
    go_enter Tryz.func25, Tryz.ntmps25
    have H := HS.start NoD w
    go_upto_region 1 with fail
    generalize hwb : w.alloc _ = w1
    replace H := HS.eqW hwb H.alloc
    try simp only [World.size_alloc, List.nil_append, List.cons_append, List.append_assoc] at H
    clear hwb
    generalize w.heap.size = bD at H ⊢
    try clear C
    have C := H.cells
    try simp only [cellsOf, cellsM, apartOf, apartM, and_true] at C
    go_wp2_with fail
    refine (HTL.out _ (H.liesUp HL.out) (H.psUp HPS.out)).mono ?_
    rintro _ w7 ⟨fv, pv, rs, rfl, hrs, K⟩
    replace H := H.join K (fun A hA => by simp only [List.mem_cons, List.mem_nil_iff, or_false] at hA; rcases hA with rfl | rfl <;> rfl)
    clear K
    simp only [List.nil_append, List.cons_append] at H
    skip
    try clear C
    try simp only [World.size_alloc, List.nil_append, List.cons_append, List.append_assoc] at H
    have C := H.cells
    try simp only [cellsOf, cellsM, apartOf, apartM, and_true] at C
    dsimp only
    go_wp2_with fail
    refine bodyPost_ret (by simp [results, Tryz.results25, go_sem, C]; try rfl) rfl ?_
    rw [HR.out]
    exact ⟨_, _, rs, rfl, hrs, HS.less (L' := [.row fv 47 2 _ _, Item.many (PsR pv rs)]) H (by repeat (first | exact .slnil | refine .cons_cons _ ?_ | refine .cons _ ?_))⟩
  have k4b : (dk == 4) = false := beq_eq_false_iff_ne.2 k4
  rw [if_neg k4] at hR
  by_cases k5 : dk = 5
  · subst k5
    rw [if_pos rfl] at hR
    have HR := Lib.hid hR
    clear hR
    go_enter Tryz.func25, Tryz.ntmps25
    have H := HS.start NoD w
    go_upto_region 1 with fail
    generalize hwb : w.alloc _ = w1
    replace H := HS.eqW hwb H.alloc
    try simp only [World.size_alloc, List.nil_append, List.cons_append, List.append_assoc] at H
    clear hwb
    generalize w.heap.size = bD at H ⊢
    try clear C
    have C := H.cells
    try simp only [cellsOf, cellsM, apartOf, apartM, and_true] at C
    go_wp2_with fail
    refine (HKL.out _ (H.liesUp HL.out) (H.psUp HPS.out)).mono ?_
    rintro _ w7 ⟨fv, pv, rs, rfl, hrs, K⟩
    replace H := H.join K (fun A hA => by simp only [List.mem_cons, List.mem_nil_iff, or_false] at hA; rcases hA with rfl | rfl <;> rfl)
    clear K
    simp only [List.nil_append, List.cons_append] at H
    skip
    try clear C
    try simp only [World.size_alloc, List.nil_append, List.cons_append, List.append_assoc] at H
    have C := H.cells
    try simp only [cellsOf, cellsM, apartOf, apartM, and_true] at C
    dsimp only
    go_wp2_with fail
    refine bodyPost_ret (by simp [results, Tryz.results25, go_sem, C]; try rfl) rfl ?_
    rw [HR.out]
    exact ⟨_, _, rs, rfl, hrs, HS.less (L' := [.row fv 47 2 _ _, Item.many (PsR pv rs)]) H (by repeat (first | exact .slnil | refine .cons_cons _ ?_ | refine .cons _ ?_))⟩
  have k5b : (dk == 5) = false := beq_eq_false_iff_ne.2 k5
  rw [if_neg k5] at hR
  have HR := Lib.hid hR
  clear hR
  go_enter Tryz.func25, Tryz.ntmps25
  have H := HS.start NoD w
  go_upto_region 1 with fail
  generalize hwb : w.alloc _ = w1
  replace H := HS.eqW hwb H.alloc
  try simp only [World.size_alloc, List.nil_append, List.cons_append, List.append_assoc] at H
  clear hwb
  generalize w.heap.size = bD at H ⊢
  try clear C
  have C := H.cells
  try simp only [cellsOf, cellsM, apartOf, apartM, and_true] at C
  go_wp2_with fail
  refine (HCL.out _ (H.liesUp HL.out)).mono ?_
  rintro _ w2 ⟨s1, d1, rfl, hr, hb⟩
  replace H := (H).getsRow hb hr
  clear hb hr
  try clear C
  try simp only [World.size_alloc, List.nil_append, List.cons_append, List.append_assoc] at H
  try clear w1
  have C := H.cells
  try simp only [cellsOf, cellsM, apartOf, apartM, and_true] at C
  dsimp only
  try dsimp only
  go_wp2_with fail
  refine (HCP.out _ (H.psUp HPS.out)).mono ?_
  rintro _ w7 ⟨v1, rs, rfl, hrs, K⟩
  replace H := H.join1 K
  clear K
  simp only [List.nil_append, List.cons_append] at H
  skip
  try clear C
  try simp only [World.size_alloc, List.nil_append, List.cons_append, List.append_assoc] at H
  have C := H.cells
  try simp only [cellsOf, cellsM, apartOf, apartM, and_true] at C
  dsimp only
  go_wp2_with fail
  refine bodyPost_ret (by simp [results, Tryz.results25, go_sem, C]; try rfl) rfl ?_
  rw [HR.out]
  exact ⟨_, _, rs, rfl, hrs, HS.less (L' := [.row (.slice s1 F.length d1) 47 2 F.length (F.flatMap frC), Item.many (PsR v1 rs)]) H (by repeat (first | exact .slnil | refine .cons_cons _ ?_ | refine .cons _ ?_))⟩
theorem Ps.form {w : World} {B : Nat} {v : Value} {ps : List Pr} (h : Ps w B v ps) : ∃ sp n cp, v = .slice sp n cp := by
  obtain ⟨qs, -, ⟨sp, cp, e, -⟩, -⟩ := h
  exact ⟨sp, qs.length, cp, e⟩
set_option maxHeartbeats 16000000 in
theorem capply_any {F : List Fr} (hF : FrV F) {ps : List Pr} (hg : GoodP F.length ps) (d : Dd) {sa : Option Addr} (c : Nat) {v : Value} (w : World) (hl : Lies w w.heap.size sa 2 F.length (fun j => frC F[j]!)) (hp : Ps w w.heap.size v ps) :
    Calls Tryz.prog 11 #[.slice sa F.length c, v, .agg (ddC d).toArray] w (GivesFP (applyP F ps d) w) := by
  have hF2 := hF.high
  obtain ⟨sp, np, cp, rfl⟩ := hp.form
  have HV := Lib.hid (fun w h1 h2 => cvalid_any hF hg (sa := sa) c (v := .slice sp np cp) w h1 h2)
  have HFR := Lib.hid (fun w h => cfree_any d.tq (show F.length ≤ 1000 by omega) (sa := sa) c w h)
  have HSA := Lib.hid (fun e bF bP w h1 l1 h2 l2 hl hp => csame_any (show F.length ≤ 1000 by omega) hg.smallP e (sa := sa) c (v := .slice sp np cp) bF bP w h1 l1 h2 l2 hl hp)
  have HST := Lib.hid (fun h0 h1 w hl hp => cstate_any (show F.length ≤ 1000 by omega) hg d h0 h1 (sa := sa) c (v := .slice sp np cp) w hl hp)
  have HCA := Lib.hid (fun h0 h1 hm w hl hp => ccarry_any hF hg d h0 h1 hm (sa := sa) c (v := .slice sp np cp) w hl hp)
  have HL := Lib.hid hl
  have HPS := Lib.hid hp
  have HSE := Lib.hid (show d.k = 2 ∨ d.k = 3 → stateE F ps d = 0 → (F[d.f.toNat]!).st ≠ 0 by
    intro h1 h2 h3
    unfold stateE at h2
    rw [if_pos] at h2
    · cases h2
    · rcases h1 with h1 | h1
      · exact .inr (.inl ⟨h1, by rw [h3]; decide⟩)
      · exact .inr (.inr ⟨h1, by rw [h3]; decide⟩))
  have HFE := Lib.hid (show freeAtF F d.tq = true → 0 ≤ d.tq ∧ d.tq < F.length ∧ (F[d.tq.toNat]!).st = 0 by
    unfold freeAtF
    intro h
    simp only [Bool.and_eq_true, decide_eq_true_eq] at h
    exact ⟨h.1.1, h.1.2, h.2⟩)
  obtain ⟨R, hR⟩ : ∃ R, R = applyP F ps d := ⟨_, rfl⟩
  rw [← hR]
  unfold applyP at hR
  generalize stateE F ps d = E at HST HSE hR
  generalize carryP F ps d = Q at HCA hR
  generalize freeAtF F d.tq = fr at HFR HFE hR
  obtain ⟨dk, df, dt, dp, dg⟩ := d
  dsimp only at hR HFR HST HCA HSE HFE
  clear hl hp hF hg
  have hQ : Hid _ := HCA
  clear hQ
  show Calls Tryz.prog 11 #[.slice sa F.length c, .slice sp np cp, .agg #[.int .i64 dk, .int .i64 df, .int .i64 dt, .int .i64 dp, .int .i64 dg]] w _
  by_cases k0 : dk < 1
  · rw [if_pos (.inl k0)] at hR
    have HR := Lib.hid hR
    clear hR
    go_enter Tryz.func11, Tryz.ntmps11
    have H := HS.start NoD w
    go_upto_region 1 with fail
    generalize hwb : ((w.alloc _).alloc _).alloc _ = w1
    replace H := HS.eqW hwb H.alloc.alloc.alloc
    try simp only [World.size_alloc, List.nil_append, List.cons_append, List.append_assoc] at H
    clear hwb
    generalize w.heap.size + 2 = bD at H ⊢
    generalize w.heap.size + 1 = bP at H ⊢
    generalize w.heap.size = bF at H ⊢
    try clear C
    have C := H.cells
    try simp only [cellsOf, cellsM, apartOf, apartM, and_true] at C
    go_wp2_with fail
    refine (HV.out _ (H.liesUp HL.out) (H.psUp HPS.out)).mono ?_
    rintro _ w2 ⟨rfl, hb⟩
    replace H := H.below hb
    clear hb
    try clear C
    try simp only [World.size_alloc, List.nil_append, List.cons_append, List.append_assoc] at H
    try clear w1
    have C := H.cells
    try simp only [cellsOf, cellsM, apartOf, apartM, and_true] at C
    dsimp only
    clear HV
    go_wp2_with fail
    refine (HSA.out 2 bF bP _ ((Blk.cell (H.at 0 rfl) 0).trans rfl) (Blk.lt (H.at 0 rfl)) ((Blk.cell (H.at 1 rfl) 0).trans rfl) (Blk.lt (H.at 1 rfl)) (H.liesUp HL.out) (H.psUp HPS.out)).mono ?_
    rintro _ w8 ⟨fv, pv, rs, rfl, hrs, K⟩
    replace H := H.join K (fun A hA => by simp only [List.mem_cons, List.mem_nil_iff, or_false] at hA; rcases hA with rfl | rfl <;> rfl)
    clear K
    simp only [List.nil_append, List.cons_append] at H
    skip
    try clear C
    try simp only [World.size_alloc, List.nil_append, List.cons_append, List.append_assoc] at H
    have C := H.cells
    try simp only [cellsOf, cellsM, apartOf, apartM, and_true] at C
    dsimp only
    go_wp2_with fail
    refine bodyPost_ret (by simp [results, Tryz.results11, go_sem, C]; try rfl) rfl ?_
    rw [HR.out]
    exact ⟨_, _, rs, rfl, hrs, HS.less (L' := [.row fv 47 2 _ _, Item.many (PsR pv rs)]) H (by repeat (first | exact .slnil | refine .cons_cons _ ?_ | refine .cons _ ?_))⟩
  by_cases k9 : 6 < dk
  · rw [if_pos (.inr k9)] at hR
    have HR := Lib.hid hR
    clear hR
    go_enter Tryz.func11, Tryz.ntmps11
    have H := HS.start NoD w
    go_upto_region 1 with fail
    generalize hwb : ((w.alloc _).alloc _).alloc _ = w1
    replace H := HS.eqW hwb H.alloc.alloc.alloc
    try simp only [World.size_alloc, List.nil_append, List.cons_append, List.append_assoc] at H
    clear hwb
    generalize w.heap.size + 2 = bD at H ⊢
    generalize w.heap.size + 1 = bP at H ⊢
    generalize w.heap.size = bF at H ⊢
    try clear C
    have C := H.cells
    try simp only [cellsOf, cellsM, apartOf, apartM, and_true] at C
    go_wp2_with fail
    refine (HV.out _ (H.liesUp HL.out) (H.psUp HPS.out)).mono ?_
    rintro _ w2 ⟨rfl, hb⟩
    replace H := H.below hb
    clear hb
    try clear C
    try simp only [World.size_alloc, List.nil_append, List.cons_append, List.append_assoc] at H
    try clear w1
    have C := H.cells
    try simp only [cellsOf, cellsM, apartOf, apartM, and_true] at C
    dsimp only
    clear HV
    go_wp2_with fail
    refine (HSA.out 2 bF bP _ ((Blk.cell (H.at 0 rfl) 0).trans rfl) (Blk.lt (H.at 0 rfl)) ((Blk.cell (H.at 1 rfl) 0).trans rfl) (Blk.lt (H.at 1 rfl)) (H.liesUp HL.out) (H.psUp HPS.out)).mono ?_
    rintro _ w8 ⟨fv, pv, rs, rfl, hrs, K⟩
    replace H := H.join K (fun A hA => by simp only [List.mem_cons, List.mem_nil_iff, or_false] at hA; rcases hA with rfl | rfl <;> rfl)
    clear K
    simp only [List.nil_append, List.cons_append] at H
    skip
    try clear C
    try simp only [World.size_alloc, List.nil_append, List.cons_append, List.append_assoc] at H
    have C := H.cells
    try simp only [cellsOf, cellsM, apartOf, apartM, and_true] at C
    dsimp only
    go_wp2_with fail
    refine bodyPost_ret (by simp [results, Tryz.results11, go_sem, C]; try rfl) rfl ?_
    rw [HR.out]
    exact ⟨_, _, rs, rfl, hrs, HS.less (L' := [.row fv 47 2 _ _, Item.many (PsR pv rs)]) H (by repeat (first | exact .slnil | refine .cons_cons _ ?_ | refine .cons _ ?_))⟩
  rw [if_neg (fun h => h.elim k0 k9)] at hR
  by_cases k2 : dk = 2
  · subst k2
    by_cases f0 : df < 0
    · rw [if_pos (.inl f0)] at hR
      have HR := Lib.hid hR
      clear hR
      go_enter Tryz.func11, Tryz.ntmps11
      have H := HS.start NoD w
      go_upto_region 1 with fail
      generalize hwb : ((w.alloc _).alloc _).alloc _ = w1
      replace H := HS.eqW hwb H.alloc.alloc.alloc
      try simp only [World.size_alloc, List.nil_append, List.cons_append, List.append_assoc] at H
      clear hwb
      generalize w.heap.size + 2 = bD at H ⊢
      generalize w.heap.size + 1 = bP at H ⊢
      generalize w.heap.size = bF at H ⊢
      try clear C
      have C := H.cells
      try simp only [cellsOf, cellsM, apartOf, apartM, and_true] at C
      go_wp2_with fail
      refine (HV.out _ (H.liesUp HL.out) (H.psUp HPS.out)).mono ?_
      rintro _ w2 ⟨rfl, hb⟩
      replace H := H.below hb
      clear hb
      try clear C
      try simp only [World.size_alloc, List.nil_append, List.cons_append, List.append_assoc] at H
      try clear w1
      have C := H.cells
      try simp only [cellsOf, cellsM, apartOf, apartM, and_true] at C
      dsimp only
      clear HV
      go_wp2_with fail
      refine (HSA.out 43 bF bP _ ((Blk.cell (H.at 0 rfl) 0).trans rfl) (Blk.lt (H.at 0 rfl)) ((Blk.cell (H.at 1 rfl) 0).trans rfl) (Blk.lt (H.at 1 rfl)) (H.liesUp HL.out) (H.psUp HPS.out)).mono ?_
      rintro _ w8 ⟨fv, pv, rs, rfl, hrs, K⟩
      replace H := H.join K (fun A hA => by simp only [List.mem_cons, List.mem_nil_iff, or_false] at hA; rcases hA with rfl | rfl <;> rfl)
      clear K
      simp only [List.nil_append, List.cons_append] at H
      skip
      try clear C
      try simp only [World.size_alloc, List.nil_append, List.cons_append, List.append_assoc] at H
      have C := H.cells
      try simp only [cellsOf, cellsM, apartOf, apartM, and_true] at C
      dsimp only
      go_wp2_with fail
      refine bodyPost_ret (by simp [results, Tryz.results11, go_sem, C]; try rfl) rfl ?_
      rw [HR.out]
      exact ⟨_, _, rs, rfl, hrs, HS.less (L' := [.row fv 47 2 _ _, Item.many (PsR pv rs)]) H (by repeat (first | exact .slnil | refine .cons_cons _ ?_ | refine .cons _ ?_))⟩
    by_cases f1 : (F.length : Int) ≤ df
    · rw [if_pos (.inr (.inl f1))] at hR
      have HR := Lib.hid hR
      clear hR
      go_enter Tryz.func11, Tryz.ntmps11
      have H := HS.start NoD w
      go_upto_region 1 with fail
      generalize hwb : ((w.alloc _).alloc _).alloc _ = w1
      replace H := HS.eqW hwb H.alloc.alloc.alloc
      try simp only [World.size_alloc, List.nil_append, List.cons_append, List.append_assoc] at H
      clear hwb
      generalize w.heap.size + 2 = bD at H ⊢
      generalize w.heap.size + 1 = bP at H ⊢
      generalize w.heap.size = bF at H ⊢
      try clear C
      have C := H.cells
      try simp only [cellsOf, cellsM, apartOf, apartM, and_true] at C
      go_wp2_with fail
      refine (HV.out _ (H.liesUp HL.out) (H.psUp HPS.out)).mono ?_
      rintro _ w2 ⟨rfl, hb⟩
      replace H := H.below hb
      clear hb
      try clear C
      try simp only [World.size_alloc, List.nil_append, List.cons_append, List.append_assoc] at H
      try clear w1
      have C := H.cells
      try simp only [cellsOf, cellsM, apartOf, apartM, and_true] at C
      dsimp only
      clear HV
      go_wp2_with fail
      refine (HSA.out 43 bF bP _ ((Blk.cell (H.at 0 rfl) 0).trans rfl) (Blk.lt (H.at 0 rfl)) ((Blk.cell (H.at 1 rfl) 0).trans rfl) (Blk.lt (H.at 1 rfl)) (H.liesUp HL.out) (H.psUp HPS.out)).mono ?_
      rintro _ w8 ⟨fv, pv, rs, rfl, hrs, K⟩
      replace H := H.join K (fun A hA => by simp only [List.mem_cons, List.mem_nil_iff, or_false] at hA; rcases hA with rfl | rfl <;> rfl)
      clear K
      simp only [List.nil_append, List.cons_append] at H
      skip
      try clear C
      try simp only [World.size_alloc, List.nil_append, List.cons_append, List.append_assoc] at H
      have C := H.cells
      try simp only [cellsOf, cellsM, apartOf, apartM, and_true] at C
      dsimp only
      go_wp2_with fail
      refine bodyPost_ret (by simp [results, Tryz.results11, go_sem, C]; try rfl) rfl ?_
      rw [HR.out]
      exact ⟨_, _, rs, rfl, hrs, HS.less (L' := [.row fv 47 2 _ _, Item.many (PsR pv rs)]) H (by repeat (first | exact .slnil | refine .cons_cons _ ?_ | refine .cons _ ?_))⟩
    have hlo : 0 ≤ df := by omega
    have hhi : df < F.length := by omega
    cases fr with
    | false =>
      rw [if_pos (.inr (.inr ⟨by decide, rfl⟩))] at hR
      have HR := Lib.hid hR
      clear hR
      go_enter Tryz.func11, Tryz.ntmps11
      have H := HS.start NoD w
      go_upto_region 1 with fail
      generalize hwb : ((w.alloc _).alloc _).alloc _ = w1
      replace H := HS.eqW hwb H.alloc.alloc.alloc
      try simp only [World.size_alloc, List.nil_append, List.cons_append, List.append_assoc] at H
      clear hwb
      generalize w.heap.size + 2 = bD at H ⊢
      generalize w.heap.size + 1 = bP at H ⊢
      generalize w.heap.size = bF at H ⊢
      try clear C
      have C := H.cells
      try simp only [cellsOf, cellsM, apartOf, apartM, and_true] at C
      go_wp2_with fail
      refine (HV.out _ (H.liesUp HL.out) (H.psUp HPS.out)).mono ?_
      rintro _ w2 ⟨rfl, hb⟩
      replace H := H.below hb
      clear hb
      try clear C
      try simp only [World.size_alloc, List.nil_append, List.cons_append, List.append_assoc] at H
      try clear w1
      have C := H.cells
      try simp only [cellsOf, cellsM, apartOf, apartM, and_true] at C
      dsimp only
      clear HV
      go_wp2_with fail
      refine (HFR.out _ (H.liesUp HL.out)).mono ?_
      rintro _ w3 ⟨rfl, hb⟩
      replace H := H.below hb
      clear hb
      try clear C
      try simp only [World.size_alloc, List.nil_append, List.cons_append, List.append_assoc] at H
      try clear w2
      have C := H.cells
      try simp only [cellsOf, cellsM, apartOf, apartM, and_true] at C
      dsimp only
      go_wp2_with fail
      refine (HSA.out 43 bF bP _ ((Blk.cell (H.at 0 rfl) 0).trans rfl) (Blk.lt (H.at 0 rfl)) ((Blk.cell (H.at 1 rfl) 0).trans rfl) (Blk.lt (H.at 1 rfl)) (H.liesUp HL.out) (H.psUp HPS.out)).mono ?_
      rintro _ w8 ⟨fv, pv, rs, rfl, hrs, K⟩
      replace H := H.join K (fun A hA => by simp only [List.mem_cons, List.mem_nil_iff, or_false] at hA; rcases hA with rfl | rfl <;> rfl)
      clear K
      simp only [List.nil_append, List.cons_append] at H
      skip
      try clear C
      try simp only [World.size_alloc, List.nil_append, List.cons_append, List.append_assoc] at H
      have C := H.cells
      try simp only [cellsOf, cellsM, apartOf, apartM, and_true] at C
      dsimp only
      go_wp2_with fail
      refine bodyPost_ret (by simp [results, Tryz.results11, go_sem, C]; try rfl) rfl ?_
      rw [HR.out]
      exact ⟨_, _, rs, rfl, hrs, HS.less (L' := [.row fv 47 2 _ _, Item.many (PsR pv rs)]) H (by repeat (first | exact .slnil | refine .cons_cons _ ?_ | refine .cons _ ?_))⟩
    | true =>
      rw [if_neg (fun h => by rcases h with h | h | h; exact absurd h f0; exact absurd h f1; exact absurd h.2 (by decide))] at hR
      by_cases hE : E = 0
      · subst hE
        rw [if_neg (by simp)] at hR
        have HCB := Lib.hid (HCA.out hlo hhi (fun _ => by obtain ⟨a1, a2, a3⟩ := HFE.out rfl; exact ⟨a1, a2, fun h => HSE.out (by decide) rfl (by rw [h]; exact a3)⟩))
        have HSB := Lib.hid (HST.out hlo hhi)
        clear HCA HST HSE HFE
        obtain ⟨qe, F2, ps2⟩ := Q
        dsimp only at hR
        by_cases hq : qe = 0
        · subst hq
          rw [if_neg (by simp)] at hR
          have HR := Lib.hid hR
          clear hR
          go_enter Tryz.func11, Tryz.ntmps11
          have H := HS.start NoD w
          go_upto_region 1 with fail
          generalize hwb : ((w.alloc _).alloc _).alloc _ = w1
          replace H := HS.eqW hwb H.alloc.alloc.alloc
          try simp only [World.size_alloc, List.nil_append, List.cons_append, List.append_assoc] at H
          clear hwb
          generalize w.heap.size + 2 = bD at H ⊢
          generalize w.heap.size + 1 = bP at H ⊢
          generalize w.heap.size = bF at H ⊢
          try clear C
          have C := H.cells
          try simp only [cellsOf, cellsM, apartOf, apartM, and_true] at C
          go_wp2_with fail
          refine (HV.out _ (H.liesUp HL.out) (H.psUp HPS.out)).mono ?_
          rintro _ w2 ⟨rfl, hb⟩
          replace H := H.below hb
          clear hb
          try clear C
          try simp only [World.size_alloc, List.nil_append, List.cons_append, List.append_assoc] at H
          try clear w1
          have C := H.cells
          try simp only [cellsOf, cellsM, apartOf, apartM, and_true] at C
          dsimp only
          clear HV
          go_wp2_with fail
          refine (HFR.out _ (H.liesUp HL.out)).mono ?_
          rintro _ w3 ⟨rfl, hb⟩
          replace H := H.below hb
          clear hb
          try clear C
          try simp only [World.size_alloc, List.nil_append, List.cons_append, List.append_assoc] at H
          try clear w2
          have C := H.cells
          try simp only [cellsOf, cellsM, apartOf, apartM, and_true] at C
          dsimp only
          go_wp2_with fail
          refine (HSB.out _ (H.liesUp HL.out) (H.psUp HPS.out)).mono ?_
          rintro _ w4 ⟨rfl, hb⟩
          replace H := H.below hb
          clear hb
          try clear C
          try simp only [World.size_alloc, List.nil_append, List.cons_append, List.append_assoc] at H
          try clear w3
          have C := H.cells
          try simp only [cellsOf, cellsM, apartOf, apartM, and_true] at C
          dsimp only
          go_wp2_with fail
          refine (HCB.out _ (H.liesUp HL.out) (H.psUp HPS.out)).mono ?_
          rintro _ w8 ⟨fv, pv, rs, rfl, hrs, K⟩
          replace H := H.join K (fun A hA => by simp only [List.mem_cons, List.mem_nil_iff, or_false] at hA; rcases hA with rfl | rfl <;> rfl)
          clear K
          simp only [List.nil_append, List.cons_append] at H
          skip
          try clear C
          try simp only [World.size_alloc, List.nil_append, List.cons_append, List.append_assoc] at H
          have C := H.cells
          try simp only [cellsOf, cellsM, apartOf, apartM, and_true] at C
          dsimp only
          go_wp2_with fail
          refine bodyPost_ret (by simp [results, Tryz.results11, go_sem, C]; try rfl) rfl ?_
          rw [HR.out]
          exact ⟨_, _, rs, rfl, hrs, HS.less (L' := [.row fv 47 2 _ _, Item.many (PsR pv rs)]) H (by repeat (first | exact .slnil | refine .cons_cons _ ?_ | refine .cons _ ?_))⟩
        · have hqb : (qe == 0) = false := beq_eq_false_iff_ne.2 hq
          rw [if_pos hq] at hR
          have HR := Lib.hid hR
          clear hR
          go_enter Tryz.func11, Tryz.ntmps11
          have H := HS.start NoD w
          go_upto_region 1 with fail
          generalize hwb : ((w.alloc _).alloc _).alloc _ = w1
          replace H := HS.eqW hwb H.alloc.alloc.alloc
          try simp only [World.size_alloc, List.nil_append, List.cons_append, List.append_assoc] at H
          clear hwb
          generalize w.heap.size + 2 = bD at H ⊢
          generalize w.heap.size + 1 = bP at H ⊢
          generalize w.heap.size = bF at H ⊢
          try clear C
          have C := H.cells
          try simp only [cellsOf, cellsM, apartOf, apartM, and_true] at C
          go_wp2_with fail
          refine (HV.out _ (H.liesUp HL.out) (H.psUp HPS.out)).mono ?_
          rintro _ w2 ⟨rfl, hb⟩
          replace H := H.below hb
          clear hb
          try clear C
          try simp only [World.size_alloc, List.nil_append, List.cons_append, List.append_assoc] at H
          try clear w1
          have C := H.cells
          try simp only [cellsOf, cellsM, apartOf, apartM, and_true] at C
          dsimp only
          clear HV
          go_wp2_with fail
          refine (HFR.out _ (H.liesUp HL.out)).mono ?_
          rintro _ w3 ⟨rfl, hb⟩
          replace H := H.below hb
          clear hb
          try clear C
          try simp only [World.size_alloc, List.nil_append, List.cons_append, List.append_assoc] at H
          try clear w2
          have C := H.cells
          try simp only [cellsOf, cellsM, apartOf, apartM, and_true] at C
          dsimp only
          go_wp2_with fail
          refine (HSB.out _ (H.liesUp HL.out) (H.psUp HPS.out)).mono ?_
          rintro _ w4 ⟨rfl, hb⟩
          replace H := H.below hb
          clear hb
          try clear C
          try simp only [World.size_alloc, List.nil_append, List.cons_append, List.append_assoc] at H
          try clear w3
          have C := H.cells
          try simp only [cellsOf, cellsM, apartOf, apartM, and_true] at C
          dsimp only
          go_wp2_with fail
          refine (HCB.out _ (H.liesUp HL.out) (H.psUp HPS.out)).mono ?_
          rintro _ w8 ⟨fv, pv, rs, rfl, hrs, K⟩
          replace H := H.below K.done
          clear K hrs
          skip
          try clear C
          try simp only [World.size_alloc, List.nil_append, List.cons_append, List.append_assoc] at H
          have C := H.cells
          try simp only [cellsOf, cellsM, apartOf, apartM, and_true] at C
          dsimp only
          go_wp2_with fail
          refine (HSA.out qe bF bP _ ((Blk.cell (H.at 0 rfl) 0).trans rfl) (Blk.lt (H.at 0 rfl)) ((Blk.cell (H.at 1 rfl) 0).trans rfl) (Blk.lt (H.at 1 rfl)) (H.liesUp HL.out) (H.psUp HPS.out)).mono ?_
          rintro _ w8 ⟨fv, pv, rs, rfl, hrs, K⟩
          replace H := H.join K (fun A hA => by simp only [List.mem_cons, List.mem_nil_iff, or_false] at hA; rcases hA with rfl | rfl <;> rfl)
          clear K
          simp only [List.nil_append, List.cons_append] at H
          skip
          try clear C
          try simp only [World.size_alloc, List.nil_append, List.cons_append, List.append_assoc] at H
          have C := H.cells
          try simp only [cellsOf, cellsM, apartOf, apartM, and_true] at C
          dsimp only
          go_wp2_with fail
          refine bodyPost_ret (by simp [results, Tryz.results11, go_sem, C]; try rfl) rfl ?_
          rw [HR.out]
          exact ⟨_, _, rs, rfl, hrs, HS.less (L' := [.row fv 47 2 _ _, Item.many (PsR pv rs)]) H (by repeat (first | exact .slnil | refine .cons_cons _ ?_ | refine .cons _ ?_))⟩
      · have hEb : (E == 0) = false := beq_eq_false_iff_ne.2 hE
        rw [if_pos hE] at hR
        have HSB := Lib.hid (HST.out hlo hhi)
        clear HCA HST HSE HFE
        have HR := Lib.hid hR
        clear hR
        go_enter Tryz.func11, Tryz.ntmps11
        have H := HS.start NoD w
        go_upto_region 1 with fail
        generalize hwb : ((w.alloc _).alloc _).alloc _ = w1
        replace H := HS.eqW hwb H.alloc.alloc.alloc
        try simp only [World.size_alloc, List.nil_append, List.cons_append, List.append_assoc] at H
        clear hwb
        generalize w.heap.size + 2 = bD at H ⊢
        generalize w.heap.size + 1 = bP at H ⊢
        generalize w.heap.size = bF at H ⊢
        try clear C
        have C := H.cells
        try simp only [cellsOf, cellsM, apartOf, apartM, and_true] at C
        go_wp2_with fail
        refine (HV.out _ (H.liesUp HL.out) (H.psUp HPS.out)).mono ?_
        rintro _ w2 ⟨rfl, hb⟩
        replace H := H.below hb
        clear hb
        try clear C
        try simp only [World.size_alloc, List.nil_append, List.cons_append, List.append_assoc] at H
        try clear w1
        have C := H.cells
        try simp only [cellsOf, cellsM, apartOf, apartM, and_true] at C
        dsimp only
        clear HV
        go_wp2_with fail
        refine (HFR.out _ (H.liesUp HL.out)).mono ?_
        rintro _ w3 ⟨rfl, hb⟩
        replace H := H.below hb
        clear hb
        try clear C
        try simp only [World.size_alloc, List.nil_append, List.cons_append, List.append_assoc] at H
        try clear w2
        have C := H.cells
        try simp only [cellsOf, cellsM, apartOf, apartM, and_true] at C
        dsimp only
        go_wp2_with fail
        refine (HSB.out _ (H.liesUp HL.out) (H.psUp HPS.out)).mono ?_
        rintro _ w4 ⟨rfl, hb⟩
        replace H := H.below hb
        clear hb
        try clear C
        try simp only [World.size_alloc, List.nil_append, List.cons_append, List.append_assoc] at H
        try clear w3
        have C := H.cells
        try simp only [cellsOf, cellsM, apartOf, apartM, and_true] at C
        dsimp only
        go_wp2_with fail
        refine (HSA.out E bF bP _ ((Blk.cell (H.at 0 rfl) 0).trans rfl) (Blk.lt (H.at 0 rfl)) ((Blk.cell (H.at 1 rfl) 0).trans rfl) (Blk.lt (H.at 1 rfl)) (H.liesUp HL.out) (H.psUp HPS.out)).mono ?_
        rintro _ w8 ⟨fv, pv, rs, rfl, hrs, K⟩
        replace H := H.join K (fun A hA => by simp only [List.mem_cons, List.mem_nil_iff, or_false] at hA; rcases hA with rfl | rfl <;> rfl)
        clear K
        simp only [List.nil_append, List.cons_append] at H
        skip
        try clear C
        try simp only [World.size_alloc, List.nil_append, List.cons_append, List.append_assoc] at H
        have C := H.cells
        try simp only [cellsOf, cellsM, apartOf, apartM, and_true] at C
        dsimp only
        go_wp2_with fail
        refine bodyPost_ret (by simp [results, Tryz.results11, go_sem, C]; try rfl) rfl ?_
        rw [HR.out]
        exact ⟨_, _, rs, rfl, hrs, HS.less (L' := [.row fv 47 2 _ _, Item.many (PsR pv rs)]) H (by repeat (first | exact .slnil | refine .cons_cons _ ?_ | refine .cons _ ?_))⟩
  have k2b : (dk == 2) = false := beq_eq_false_iff_ne.2 k2
  by_cases k3 : dk = 3
  · subst k3
    by_cases f0 : df < 0
    · rw [if_pos (.inl f0)] at hR
      have HR := Lib.hid hR
      clear hR
      go_enter Tryz.func11, Tryz.ntmps11
      have H := HS.start NoD w
      go_upto_region 1 with fail
      generalize hwb : ((w.alloc _).alloc _).alloc _ = w1
      replace H := HS.eqW hwb H.alloc.alloc.alloc
      try simp only [World.size_alloc, List.nil_append, List.cons_append, List.append_assoc] at H
      clear hwb
      generalize w.heap.size + 2 = bD at H ⊢
      generalize w.heap.size + 1 = bP at H ⊢
      generalize w.heap.size = bF at H ⊢
      try clear C
      have C := H.cells
      try simp only [cellsOf, cellsM, apartOf, apartM, and_true] at C
      go_wp2_with fail
      refine (HV.out _ (H.liesUp HL.out) (H.psUp HPS.out)).mono ?_
      rintro _ w2 ⟨rfl, hb⟩
      replace H := H.below hb
      clear hb
      try clear C
      try simp only [World.size_alloc, List.nil_append, List.cons_append, List.append_assoc] at H
      try clear w1
      have C := H.cells
      try simp only [cellsOf, cellsM, apartOf, apartM, and_true] at C
      dsimp only
      clear HV
      go_wp2_with fail
      refine (HSA.out 43 bF bP _ ((Blk.cell (H.at 0 rfl) 0).trans rfl) (Blk.lt (H.at 0 rfl)) ((Blk.cell (H.at 1 rfl) 0).trans rfl) (Blk.lt (H.at 1 rfl)) (H.liesUp HL.out) (H.psUp HPS.out)).mono ?_
      rintro _ w8 ⟨fv, pv, rs, rfl, hrs, K⟩
      replace H := H.join K (fun A hA => by simp only [List.mem_cons, List.mem_nil_iff, or_false] at hA; rcases hA with rfl | rfl <;> rfl)
      clear K
      simp only [List.nil_append, List.cons_append] at H
      skip
      try clear C
      try simp only [World.size_alloc, List.nil_append, List.cons_append, List.append_assoc] at H
      have C := H.cells
      try simp only [cellsOf, cellsM, apartOf, apartM, and_true] at C
      dsimp only
      go_wp2_with fail
      refine bodyPost_ret (by simp [results, Tryz.results11, go_sem, C]; try rfl) rfl ?_
      rw [HR.out]
      exact ⟨_, _, rs, rfl, hrs, HS.less (L' := [.row fv 47 2 _ _, Item.many (PsR pv rs)]) H (by repeat (first | exact .slnil | refine .cons_cons _ ?_ | refine .cons _ ?_))⟩
    by_cases f1 : (F.length : Int) ≤ df
    · rw [if_pos (.inr (.inl f1))] at hR
      have HR := Lib.hid hR
      clear hR
      go_enter Tryz.func11, Tryz.ntmps11
      have H := HS.start NoD w
      go_upto_region 1 with fail
      generalize hwb : ((w.alloc _).alloc _).alloc _ = w1
      replace H := HS.eqW hwb H.alloc.alloc.alloc
      try simp only [World.size_alloc, List.nil_append, List.cons_append, List.append_assoc] at H
      clear hwb
      generalize w.heap.size + 2 = bD at H ⊢
      generalize w.heap.size + 1 = bP at H ⊢
      generalize w.heap.size = bF at H ⊢
      try clear C
      have C := H.cells
      try simp only [cellsOf, cellsM, apartOf, apartM, and_true] at C
      go_wp2_with fail
      refine (HV.out _ (H.liesUp HL.out) (H.psUp HPS.out)).mono ?_
      rintro _ w2 ⟨rfl, hb⟩
      replace H := H.below hb
      clear hb
      try clear C
      try simp only [World.size_alloc, List.nil_append, List.cons_append, List.append_assoc] at H
      try clear w1
      have C := H.cells
      try simp only [cellsOf, cellsM, apartOf, apartM, and_true] at C
      dsimp only
      clear HV
      go_wp2_with fail
      refine (HSA.out 43 bF bP _ ((Blk.cell (H.at 0 rfl) 0).trans rfl) (Blk.lt (H.at 0 rfl)) ((Blk.cell (H.at 1 rfl) 0).trans rfl) (Blk.lt (H.at 1 rfl)) (H.liesUp HL.out) (H.psUp HPS.out)).mono ?_
      rintro _ w8 ⟨fv, pv, rs, rfl, hrs, K⟩
      replace H := H.join K (fun A hA => by simp only [List.mem_cons, List.mem_nil_iff, or_false] at hA; rcases hA with rfl | rfl <;> rfl)
      clear K
      simp only [List.nil_append, List.cons_append] at H
      skip
      try clear C
      try simp only [World.size_alloc, List.nil_append, List.cons_append, List.append_assoc] at H
      have C := H.cells
      try simp only [cellsOf, cellsM, apartOf, apartM, and_true] at C
      dsimp only
      go_wp2_with fail
      refine bodyPost_ret (by simp [results, Tryz.results11, go_sem, C]; try rfl) rfl ?_
      rw [HR.out]
      exact ⟨_, _, rs, rfl, hrs, HS.less (L' := [.row fv 47 2 _ _, Item.many (PsR pv rs)]) H (by repeat (first | exact .slnil | refine .cons_cons _ ?_ | refine .cons _ ?_))⟩
    have hlo : 0 ≤ df := by omega
    have hhi : df < F.length := by omega
    cases fr with
    | false =>
      rw [if_pos (.inr (.inr ⟨by decide, rfl⟩))] at hR
      have HR := Lib.hid hR
      clear hR
      go_enter Tryz.func11, Tryz.ntmps11
      have H := HS.start NoD w
      go_upto_region 1 with fail
      generalize hwb : ((w.alloc _).alloc _).alloc _ = w1
      replace H := HS.eqW hwb H.alloc.alloc.alloc
      try simp only [World.size_alloc, List.nil_append, List.cons_append, List.append_assoc] at H
      clear hwb
      generalize w.heap.size + 2 = bD at H ⊢
      generalize w.heap.size + 1 = bP at H ⊢
      generalize w.heap.size = bF at H ⊢
      try clear C
      have C := H.cells
      try simp only [cellsOf, cellsM, apartOf, apartM, and_true] at C
      go_wp2_with fail
      refine (HV.out _ (H.liesUp HL.out) (H.psUp HPS.out)).mono ?_
      rintro _ w2 ⟨rfl, hb⟩
      replace H := H.below hb
      clear hb
      try clear C
      try simp only [World.size_alloc, List.nil_append, List.cons_append, List.append_assoc] at H
      try clear w1
      have C := H.cells
      try simp only [cellsOf, cellsM, apartOf, apartM, and_true] at C
      dsimp only
      clear HV
      go_wp2_with fail
      refine (HFR.out _ (H.liesUp HL.out)).mono ?_
      rintro _ w3 ⟨rfl, hb⟩
      replace H := H.below hb
      clear hb
      try clear C
      try simp only [World.size_alloc, List.nil_append, List.cons_append, List.append_assoc] at H
      try clear w2
      have C := H.cells
      try simp only [cellsOf, cellsM, apartOf, apartM, and_true] at C
      dsimp only
      go_wp2_with fail
      refine (HSA.out 43 bF bP _ ((Blk.cell (H.at 0 rfl) 0).trans rfl) (Blk.lt (H.at 0 rfl)) ((Blk.cell (H.at 1 rfl) 0).trans rfl) (Blk.lt (H.at 1 rfl)) (H.liesUp HL.out) (H.psUp HPS.out)).mono ?_
      rintro _ w8 ⟨fv, pv, rs, rfl, hrs, K⟩
      replace H := H.join K (fun A hA => by simp only [List.mem_cons, List.mem_nil_iff, or_false] at hA; rcases hA with rfl | rfl <;> rfl)
      clear K
      simp only [List.nil_append, List.cons_append] at H
      skip
      try clear C
      try simp only [World.size_alloc, List.nil_append, List.cons_append, List.append_assoc] at H
      have C := H.cells
      try simp only [cellsOf, cellsM, apartOf, apartM, and_true] at C
      dsimp only
      go_wp2_with fail
      refine bodyPost_ret (by simp [results, Tryz.results11, go_sem, C]; try rfl) rfl ?_
      rw [HR.out]
      exact ⟨_, _, rs, rfl, hrs, HS.less (L' := [.row fv 47 2 _ _, Item.many (PsR pv rs)]) H (by repeat (first | exact .slnil | refine .cons_cons _ ?_ | refine .cons _ ?_))⟩
    | true =>
      rw [if_neg (fun h => by rcases h with h | h | h; exact absurd h f0; exact absurd h f1; exact absurd h.2 (by decide))] at hR
      by_cases hE : E = 0
      · subst hE
        rw [if_neg (by simp)] at hR
        have HCB := Lib.hid (HCA.out hlo hhi (fun _ => by obtain ⟨a1, a2, a3⟩ := HFE.out rfl; exact ⟨a1, a2, fun h => HSE.out (by decide) rfl (by rw [h]; exact a3)⟩))
        have HSB := Lib.hid (HST.out hlo hhi)
        clear HCA HST HSE HFE
        obtain ⟨qe, F2, ps2⟩ := Q
        dsimp only at hR
        by_cases hq : qe = 0
        · subst hq
          rw [if_neg (by simp)] at hR
          have HR := Lib.hid hR
          clear hR
          go_enter Tryz.func11, Tryz.ntmps11
          have H := HS.start NoD w
          go_upto_region 1 with fail
          generalize hwb : ((w.alloc _).alloc _).alloc _ = w1
          replace H := HS.eqW hwb H.alloc.alloc.alloc
          try simp only [World.size_alloc, List.nil_append, List.cons_append, List.append_assoc] at H
          clear hwb
          generalize w.heap.size + 2 = bD at H ⊢
          generalize w.heap.size + 1 = bP at H ⊢
          generalize w.heap.size = bF at H ⊢
          try clear C
          have C := H.cells
          try simp only [cellsOf, cellsM, apartOf, apartM, and_true] at C
          go_wp2_with fail
          refine (HV.out _ (H.liesUp HL.out) (H.psUp HPS.out)).mono ?_
          rintro _ w2 ⟨rfl, hb⟩
          replace H := H.below hb
          clear hb
          try clear C
          try simp only [World.size_alloc, List.nil_append, List.cons_append, List.append_assoc] at H
          try clear w1
          have C := H.cells
          try simp only [cellsOf, cellsM, apartOf, apartM, and_true] at C
          dsimp only
          clear HV
          go_wp2_with fail
          refine (HFR.out _ (H.liesUp HL.out)).mono ?_
          rintro _ w3 ⟨rfl, hb⟩
          replace H := H.below hb
          clear hb
          try clear C
          try simp only [World.size_alloc, List.nil_append, List.cons_append, List.append_assoc] at H
          try clear w2
          have C := H.cells
          try simp only [cellsOf, cellsM, apartOf, apartM, and_true] at C
          dsimp only
          go_wp2_with fail
          refine (HSB.out _ (H.liesUp HL.out) (H.psUp HPS.out)).mono ?_
          rintro _ w4 ⟨rfl, hb⟩
          replace H := H.below hb
          clear hb
          try clear C
          try simp only [World.size_alloc, List.nil_append, List.cons_append, List.append_assoc] at H
          try clear w3
          have C := H.cells
          try simp only [cellsOf, cellsM, apartOf, apartM, and_true] at C
          dsimp only
          go_wp2_with fail
          refine (HCB.out _ (H.liesUp HL.out) (H.psUp HPS.out)).mono ?_
          rintro _ w8 ⟨fv, pv, rs, rfl, hrs, K⟩
          replace H := H.join K (fun A hA => by simp only [List.mem_cons, List.mem_nil_iff, or_false] at hA; rcases hA with rfl | rfl <;> rfl)
          clear K
          simp only [List.nil_append, List.cons_append] at H
          skip
          try clear C
          try simp only [World.size_alloc, List.nil_append, List.cons_append, List.append_assoc] at H
          have C := H.cells
          try simp only [cellsOf, cellsM, apartOf, apartM, and_true] at C
          dsimp only
          go_wp2_with fail
          refine bodyPost_ret (by simp [results, Tryz.results11, go_sem, C]; try rfl) rfl ?_
          rw [HR.out]
          exact ⟨_, _, rs, rfl, hrs, HS.less (L' := [.row fv 47 2 _ _, Item.many (PsR pv rs)]) H (by repeat (first | exact .slnil | refine .cons_cons _ ?_ | refine .cons _ ?_))⟩
        · have hqb : (qe == 0) = false := beq_eq_false_iff_ne.2 hq
          rw [if_pos hq] at hR
          have HR := Lib.hid hR
          clear hR
          go_enter Tryz.func11, Tryz.ntmps11
          have H := HS.start NoD w
          go_upto_region 1 with fail
          generalize hwb : ((w.alloc _).alloc _).alloc _ = w1
          replace H := HS.eqW hwb H.alloc.alloc.alloc
          try simp only [World.size_alloc, List.nil_append, List.cons_append, List.append_assoc] at H
          clear hwb
          generalize w.heap.size + 2 = bD at H ⊢
          generalize w.heap.size + 1 = bP at H ⊢
          generalize w.heap.size = bF at H ⊢
          try clear C
          have C := H.cells
          try simp only [cellsOf, cellsM, apartOf, apartM, and_true] at C
          go_wp2_with fail
          refine (HV.out _ (H.liesUp HL.out) (H.psUp HPS.out)).mono ?_
          rintro _ w2 ⟨rfl, hb⟩
          replace H := H.below hb
          clear hb
          try clear C
          try simp only [World.size_alloc, List.nil_append, List.cons_append, List.append_assoc] at H
          try clear w1
          have C := H.cells
          try simp only [cellsOf, cellsM, apartOf, apartM, and_true] at C
          dsimp only
          clear HV
          go_wp2_with fail
          refine (HFR.out _ (H.liesUp HL.out)).mono ?_
          rintro _ w3 ⟨rfl, hb⟩
          replace H := H.below hb
          clear hb
          try clear C
          try simp only [World.size_alloc, List.nil_append, List.cons_append, List.append_assoc] at H
          try clear w2
          have C := H.cells
          try simp only [cellsOf, cellsM, apartOf, apartM, and_true] at C
          dsimp only
          go_wp2_with fail
          refine (HSB.out _ (H.liesUp HL.out) (H.psUp HPS.out)).mono ?_
          rintro _ w4 ⟨rfl, hb⟩
          replace H := H.below hb
          clear hb
          try clear C
          try simp only [World.size_alloc, List.nil_append, List.cons_append, List.append_assoc] at H
          try clear w3
          have C := H.cells
          try simp only [cellsOf, cellsM, apartOf, apartM, and_true] at C
          dsimp only
          go_wp2_with fail
          refine (HCB.out _ (H.liesUp HL.out) (H.psUp HPS.out)).mono ?_
          rintro _ w8 ⟨fv, pv, rs, rfl, hrs, K⟩
          replace H := H.below K.done
          clear K hrs
          skip
          try clear C
          try simp only [World.size_alloc, List.nil_append, List.cons_append, List.append_assoc] at H
          have C := H.cells
          try simp only [cellsOf, cellsM, apartOf, apartM, and_true] at C
          dsimp only
          go_wp2_with fail
          refine (HSA.out qe bF bP _ ((Blk.cell (H.at 0 rfl) 0).trans rfl) (Blk.lt (H.at 0 rfl)) ((Blk.cell (H.at 1 rfl) 0).trans rfl) (Blk.lt (H.at 1 rfl)) (H.liesUp HL.out) (H.psUp HPS.out)).mono ?_
          rintro _ w8 ⟨fv, pv, rs, rfl, hrs, K⟩
          replace H := H.join K (fun A hA => by simp only [List.mem_cons, List.mem_nil_iff, or_false] at hA; rcases hA with rfl | rfl <;> rfl)
          clear K
          simp only [List.nil_append, List.cons_append] at H
          skip
          try clear C
          try simp only [World.size_alloc, List.nil_append, List.cons_append, List.append_assoc] at H
          have C := H.cells
          try simp only [cellsOf, cellsM, apartOf, apartM, and_true] at C
          dsimp only
          go_wp2_with fail
          refine bodyPost_ret (by simp [results, Tryz.results11, go_sem, C]; try rfl) rfl ?_
          rw [HR.out]
          exact ⟨_, _, rs, rfl, hrs, HS.less (L' := [.row fv 47 2 _ _, Item.many (PsR pv rs)]) H (by repeat (first | exact .slnil | refine .cons_cons _ ?_ | refine .cons _ ?_))⟩
      · have hEb : (E == 0) = false := beq_eq_false_iff_ne.2 hE
        rw [if_pos hE] at hR
        have HSB := Lib.hid (HST.out hlo hhi)
        clear HCA HST HSE HFE
        have HR := Lib.hid hR
        clear hR
        go_enter Tryz.func11, Tryz.ntmps11
        have H := HS.start NoD w
        go_upto_region 1 with fail
        generalize hwb : ((w.alloc _).alloc _).alloc _ = w1
        replace H := HS.eqW hwb H.alloc.alloc.alloc
        try simp only [World.size_alloc, List.nil_append, List.cons_append, List.append_assoc] at H
        clear hwb
        generalize w.heap.size + 2 = bD at H ⊢
        generalize w.heap.size + 1 = bP at H ⊢
        generalize w.heap.size = bF at H ⊢
        try clear C
        have C := H.cells
        try simp only [cellsOf, cellsM, apartOf, apartM, and_true] at C
        go_wp2_with fail
        refine (HV.out _ (H.liesUp HL.out) (H.psUp HPS.out)).mono ?_
        rintro _ w2 ⟨rfl, hb⟩
        replace H := H.below hb
        clear hb
        try clear C
        try simp only [World.size_alloc, List.nil_append, List.cons_append, List.append_assoc] at H
        try clear w1
        have C := H.cells
        try simp only [cellsOf, cellsM, apartOf, apartM, and_true] at C
        dsimp only
        clear HV
        go_wp2_with fail
        refine (HFR.out _ (H.liesUp HL.out)).mono ?_
        rintro _ w3 ⟨rfl, hb⟩
        replace H := H.below hb
        clear hb
        try clear C
        try simp only [World.size_alloc, List.nil_append, List.cons_append, List.append_assoc] at H
        try clear w2
        have C := H.cells
        try simp only [cellsOf, cellsM, apartOf, apartM, and_true] at C
        dsimp only
        go_wp2_with fail
        refine (HSB.out _ (H.liesUp HL.out) (H.psUp HPS.out)).mono ?_
        rintro _ w4 ⟨rfl, hb⟩
        replace H := H.below hb
        clear hb
        try clear C
        try simp only [World.size_alloc, List.nil_append, List.cons_append, List.append_assoc] at H
        try clear w3
        have C := H.cells
        try simp only [cellsOf, cellsM, apartOf, apartM, and_true] at C
        dsimp only
        go_wp2_with fail
        refine (HSA.out E bF bP _ ((Blk.cell (H.at 0 rfl) 0).trans rfl) (Blk.lt (H.at 0 rfl)) ((Blk.cell (H.at 1 rfl) 0).trans rfl) (Blk.lt (H.at 1 rfl)) (H.liesUp HL.out) (H.psUp HPS.out)).mono ?_
        rintro _ w8 ⟨fv, pv, rs, rfl, hrs, K⟩
        replace H := H.join K (fun A hA => by simp only [List.mem_cons, List.mem_nil_iff, or_false] at hA; rcases hA with rfl | rfl <;> rfl)
        clear K
        simp only [List.nil_append, List.cons_append] at H
        skip
        try clear C
        try simp only [World.size_alloc, List.nil_append, List.cons_append, List.append_assoc] at H
        have C := H.cells
        try simp only [cellsOf, cellsM, apartOf, apartM, and_true] at C
        dsimp only
        go_wp2_with fail
        refine bodyPost_ret (by simp [results, Tryz.results11, go_sem, C]; try rfl) rfl ?_
        rw [HR.out]
        exact ⟨_, _, rs, rfl, hrs, HS.less (L' := [.row fv 47 2 _ _, Item.many (PsR pv rs)]) H (by repeat (first | exact .slnil | refine .cons_cons _ ?_ | refine .cons _ ?_))⟩
  have k3b : (dk == 3) = false := beq_eq_false_iff_ne.2 k3
  by_cases f0 : df < 0
  · rw [if_pos (.inl f0)] at hR
    have HR := Lib.hid hR
    clear hR
    go_enter Tryz.func11, Tryz.ntmps11
    have H := HS.start NoD w
    go_upto_region 1 with fail
    generalize hwb : ((w.alloc _).alloc _).alloc _ = w1
    replace H := HS.eqW hwb H.alloc.alloc.alloc
    try simp only [World.size_alloc, List.nil_append, List.cons_append, List.append_assoc] at H
    clear hwb
    generalize w.heap.size + 2 = bD at H ⊢
    generalize w.heap.size + 1 = bP at H ⊢
    generalize w.heap.size = bF at H ⊢
    try clear C
    have C := H.cells
    try simp only [cellsOf, cellsM, apartOf, apartM, and_true] at C
    go_wp2_with fail
    refine (HV.out _ (H.liesUp HL.out) (H.psUp HPS.out)).mono ?_
    rintro _ w2 ⟨rfl, hb⟩
    replace H := H.below hb
    clear hb
    try clear C
    try simp only [World.size_alloc, List.nil_append, List.cons_append, List.append_assoc] at H
    try clear w1
    have C := H.cells
    try simp only [cellsOf, cellsM, apartOf, apartM, and_true] at C
    dsimp only
    clear HV
    go_wp2_with fail
    refine (HSA.out 43 bF bP _ ((Blk.cell (H.at 0 rfl) 0).trans rfl) (Blk.lt (H.at 0 rfl)) ((Blk.cell (H.at 1 rfl) 0).trans rfl) (Blk.lt (H.at 1 rfl)) (H.liesUp HL.out) (H.psUp HPS.out)).mono ?_
    rintro _ w8 ⟨fv, pv, rs, rfl, hrs, K⟩
    replace H := H.join K (fun A hA => by simp only [List.mem_cons, List.mem_nil_iff, or_false] at hA; rcases hA with rfl | rfl <;> rfl)
    clear K
    simp only [List.nil_append, List.cons_append] at H
    skip
    try clear C
    try simp only [World.size_alloc, List.nil_append, List.cons_append, List.append_assoc] at H
    have C := H.cells
    try simp only [cellsOf, cellsM, apartOf, apartM, and_true] at C
    dsimp only
    go_wp2_with fail
    refine bodyPost_ret (by simp [results, Tryz.results11, go_sem, C]; try rfl) rfl ?_
    rw [HR.out]
    exact ⟨_, _, rs, rfl, hrs, HS.less (L' := [.row fv 47 2 _ _, Item.many (PsR pv rs)]) H (by repeat (first | exact .slnil | refine .cons_cons _ ?_ | refine .cons _ ?_))⟩
  by_cases f1 : (F.length : Int) ≤ df
  · rw [if_pos (.inr (.inl f1))] at hR
    have HR := Lib.hid hR
    clear hR
    go_enter Tryz.func11, Tryz.ntmps11
    have H := HS.start NoD w
    go_upto_region 1 with fail
    generalize hwb : ((w.alloc _).alloc _).alloc _ = w1
    replace H := HS.eqW hwb H.alloc.alloc.alloc
    try simp only [World.size_alloc, List.nil_append, List.cons_append, List.append_assoc] at H
    clear hwb
    generalize w.heap.size + 2 = bD at H ⊢
    generalize w.heap.size + 1 = bP at H ⊢
    generalize w.heap.size = bF at H ⊢
    try clear C
    have C := H.cells
    try simp only [cellsOf, cellsM, apartOf, apartM, and_true] at C
    go_wp2_with fail
    refine (HV.out _ (H.liesUp HL.out) (H.psUp HPS.out)).mono ?_
    rintro _ w2 ⟨rfl, hb⟩
    replace H := H.below hb
    clear hb
    try clear C
    try simp only [World.size_alloc, List.nil_append, List.cons_append, List.append_assoc] at H
    try clear w1
    have C := H.cells
    try simp only [cellsOf, cellsM, apartOf, apartM, and_true] at C
    dsimp only
    clear HV
    go_wp2_with fail
    refine (HSA.out 43 bF bP _ ((Blk.cell (H.at 0 rfl) 0).trans rfl) (Blk.lt (H.at 0 rfl)) ((Blk.cell (H.at 1 rfl) 0).trans rfl) (Blk.lt (H.at 1 rfl)) (H.liesUp HL.out) (H.psUp HPS.out)).mono ?_
    rintro _ w8 ⟨fv, pv, rs, rfl, hrs, K⟩
    replace H := H.join K (fun A hA => by simp only [List.mem_cons, List.mem_nil_iff, or_false] at hA; rcases hA with rfl | rfl <;> rfl)
    clear K
    simp only [List.nil_append, List.cons_append] at H
    skip
    try clear C
    try simp only [World.size_alloc, List.nil_append, List.cons_append, List.append_assoc] at H
    have C := H.cells
    try simp only [cellsOf, cellsM, apartOf, apartM, and_true] at C
    dsimp only
    go_wp2_with fail
    refine bodyPost_ret (by simp [results, Tryz.results11, go_sem, C]; try rfl) rfl ?_
    rw [HR.out]
    exact ⟨_, _, rs, rfl, hrs, HS.less (L' := [.row fv 47 2 _ _, Item.many (PsR pv rs)]) H (by repeat (first | exact .slnil | refine .cons_cons _ ?_ | refine .cons _ ?_))⟩
  have hlo : 0 ≤ df := by omega
  have hhi : df < F.length := by omega
  rw [if_neg (fun h => by rcases h with h | h | h; exact absurd h f0; exact absurd h f1; exact absurd h.1 (fun h => h.elim k2 k3))] at hR
  by_cases hE : E = 0
  · subst hE
    rw [if_neg (by simp)] at hR
    have HCB := Lib.hid (HCA.out hlo hhi (fun h => absurd h (fun h => h.elim k2 k3)))
    have HSB := Lib.hid (HST.out hlo hhi)
    clear HCA HST HSE HFE
    obtain ⟨qe, F2, ps2⟩ := Q
    dsimp only at hR
    by_cases hq : qe = 0
    · subst hq
      rw [if_neg (by simp)] at hR
      have HR := Lib.hid hR
      clear hR
      go_enter Tryz.func11, Tryz.ntmps11
      have H := HS.start NoD w
      go_upto_region 1 with fail
      generalize hwb : ((w.alloc _).alloc _).alloc _ = w1
      replace H := HS.eqW hwb H.alloc.alloc.alloc
      try simp only [World.size_alloc, List.nil_append, List.cons_append, List.append_assoc] at H
      clear hwb
      generalize w.heap.size + 2 = bD at H ⊢
      generalize w.heap.size + 1 = bP at H ⊢
      generalize w.heap.size = bF at H ⊢
      try clear C
      have C := H.cells
      try simp only [cellsOf, cellsM, apartOf, apartM, and_true] at C
      go_wp2_with fail
      refine (HV.out _ (H.liesUp HL.out) (H.psUp HPS.out)).mono ?_
      rintro _ w2 ⟨rfl, hb⟩
      replace H := H.below hb
      clear hb
      try clear C
      try simp only [World.size_alloc, List.nil_append, List.cons_append, List.append_assoc] at H
      try clear w1
      have C := H.cells
      try simp only [cellsOf, cellsM, apartOf, apartM, and_true] at C
      dsimp only
      clear HV
      go_wp2_with fail
      refine (HSB.out _ (H.liesUp HL.out) (H.psUp HPS.out)).mono ?_
      rintro _ w3 ⟨rfl, hb⟩
      replace H := H.below hb
      clear hb
      try clear C
      try simp only [World.size_alloc, List.nil_append, List.cons_append, List.append_assoc] at H
      try clear w2
      have C := H.cells
      try simp only [cellsOf, cellsM, apartOf, apartM, and_true] at C
      dsimp only
      go_wp2_with fail
      refine (HCB.out _ (H.liesUp HL.out) (H.psUp HPS.out)).mono ?_
      rintro _ w8 ⟨fv, pv, rs, rfl, hrs, K⟩
      replace H := H.join K (fun A hA => by simp only [List.mem_cons, List.mem_nil_iff, or_false] at hA; rcases hA with rfl | rfl <;> rfl)
      clear K
      simp only [List.nil_append, List.cons_append] at H
      skip
      try clear C
      try simp only [World.size_alloc, List.nil_append, List.cons_append, List.append_assoc] at H
      have C := H.cells
      try simp only [cellsOf, cellsM, apartOf, apartM, and_true] at C
      dsimp only
      go_wp2_with fail
      refine bodyPost_ret (by simp [results, Tryz.results11, go_sem, C]; try rfl) rfl ?_
      rw [HR.out]
      exact ⟨_, _, rs, rfl, hrs, HS.less (L' := [.row fv 47 2 _ _, Item.many (PsR pv rs)]) H (by repeat (first | exact .slnil | refine .cons_cons _ ?_ | refine .cons _ ?_))⟩
    · have hqb : (qe == 0) = false := beq_eq_false_iff_ne.2 hq
      rw [if_pos hq] at hR
      have HR := Lib.hid hR
      clear hR
      go_enter Tryz.func11, Tryz.ntmps11
      have H := HS.start NoD w
      go_upto_region 1 with fail
      generalize hwb : ((w.alloc _).alloc _).alloc _ = w1
      replace H := HS.eqW hwb H.alloc.alloc.alloc
      try simp only [World.size_alloc, List.nil_append, List.cons_append, List.append_assoc] at H
      clear hwb
      generalize w.heap.size + 2 = bD at H ⊢
      generalize w.heap.size + 1 = bP at H ⊢
      generalize w.heap.size = bF at H ⊢
      try clear C
      have C := H.cells
      try simp only [cellsOf, cellsM, apartOf, apartM, and_true] at C
      go_wp2_with fail
      refine (HV.out _ (H.liesUp HL.out) (H.psUp HPS.out)).mono ?_
      rintro _ w2 ⟨rfl, hb⟩
      replace H := H.below hb
      clear hb
      try clear C
      try simp only [World.size_alloc, List.nil_append, List.cons_append, List.append_assoc] at H
      try clear w1
      have C := H.cells
      try simp only [cellsOf, cellsM, apartOf, apartM, and_true] at C
      dsimp only
      clear HV
      go_wp2_with fail
      refine (HSB.out _ (H.liesUp HL.out) (H.psUp HPS.out)).mono ?_
      rintro _ w3 ⟨rfl, hb⟩
      replace H := H.below hb
      clear hb
      try clear C
      try simp only [World.size_alloc, List.nil_append, List.cons_append, List.append_assoc] at H
      try clear w2
      have C := H.cells
      try simp only [cellsOf, cellsM, apartOf, apartM, and_true] at C
      dsimp only
      go_wp2_with fail
      refine (HCB.out _ (H.liesUp HL.out) (H.psUp HPS.out)).mono ?_
      rintro _ w8 ⟨fv, pv, rs, rfl, hrs, K⟩
      replace H := H.below K.done
      clear K hrs
      skip
      try clear C
      try simp only [World.size_alloc, List.nil_append, List.cons_append, List.append_assoc] at H
      have C := H.cells
      try simp only [cellsOf, cellsM, apartOf, apartM, and_true] at C
      dsimp only
      go_wp2_with fail
      refine (HSA.out qe bF bP _ ((Blk.cell (H.at 0 rfl) 0).trans rfl) (Blk.lt (H.at 0 rfl)) ((Blk.cell (H.at 1 rfl) 0).trans rfl) (Blk.lt (H.at 1 rfl)) (H.liesUp HL.out) (H.psUp HPS.out)).mono ?_
      rintro _ w8 ⟨fv, pv, rs, rfl, hrs, K⟩
      replace H := H.join K (fun A hA => by simp only [List.mem_cons, List.mem_nil_iff, or_false] at hA; rcases hA with rfl | rfl <;> rfl)
      clear K
      simp only [List.nil_append, List.cons_append] at H
      skip
      try clear C
      try simp only [World.size_alloc, List.nil_append, List.cons_append, List.append_assoc] at H
      have C := H.cells
      try simp only [cellsOf, cellsM, apartOf, apartM, and_true] at C
      dsimp only
      go_wp2_with fail
      refine bodyPost_ret (by simp [results, Tryz.results11, go_sem, C]; try rfl) rfl ?_
      rw [HR.out]
      exact ⟨_, _, rs, rfl, hrs, HS.less (L' := [.row fv 47 2 _ _, Item.many (PsR pv rs)]) H (by repeat (first | exact .slnil | refine .cons_cons _ ?_ | refine .cons _ ?_))⟩
  · have hEb : (E == 0) = false := beq_eq_false_iff_ne.2 hE
    rw [if_pos hE] at hR
    have HSB := Lib.hid (HST.out hlo hhi)
    clear HCA HST HSE HFE
    have HR := Lib.hid hR
    clear hR
    go_enter Tryz.func11, Tryz.ntmps11
    have H := HS.start NoD w
    go_upto_region 1 with fail
    generalize hwb : ((w.alloc _).alloc _).alloc _ = w1
    replace H := HS.eqW hwb H.alloc.alloc.alloc
    try simp only [World.size_alloc, List.nil_append, List.cons_append, List.append_assoc] at H
    clear hwb
    generalize w.heap.size + 2 = bD at H ⊢
    generalize w.heap.size + 1 = bP at H ⊢
    generalize w.heap.size = bF at H ⊢
    try clear C
    have C := H.cells
    try simp only [cellsOf, cellsM, apartOf, apartM, and_true] at C
    go_wp2_with fail
    refine (HV.out _ (H.liesUp HL.out) (H.psUp HPS.out)).mono ?_
    rintro _ w2 ⟨rfl, hb⟩
    replace H := H.below hb
    clear hb
    try clear C
    try simp only [World.size_alloc, List.nil_append, List.cons_append, List.append_assoc] at H
    try clear w1
    have C := H.cells
    try simp only [cellsOf, cellsM, apartOf, apartM, and_true] at C
    dsimp only
    clear HV
    go_wp2_with fail
    refine (HSB.out _ (H.liesUp HL.out) (H.psUp HPS.out)).mono ?_
    rintro _ w3 ⟨rfl, hb⟩
    replace H := H.below hb
    clear hb
    try clear C
    try simp only [World.size_alloc, List.nil_append, List.cons_append, List.append_assoc] at H
    try clear w2
    have C := H.cells
    try simp only [cellsOf, cellsM, apartOf, apartM, and_true] at C
    dsimp only
    go_wp2_with fail
    refine (HSA.out E bF bP _ ((Blk.cell (H.at 0 rfl) 0).trans rfl) (Blk.lt (H.at 0 rfl)) ((Blk.cell (H.at 1 rfl) 0).trans rfl) (Blk.lt (H.at 1 rfl)) (H.liesUp HL.out) (H.psUp HPS.out)).mono ?_
    rintro _ w8 ⟨fv, pv, rs, rfl, hrs, K⟩
    replace H := H.join K (fun A hA => by simp only [List.mem_cons, List.mem_nil_iff, or_false] at hA; rcases hA with rfl | rfl <;> rfl)
    clear K
    simp only [List.nil_append, List.cons_append] at H
    skip
    try clear C
    try simp only [World.size_alloc, List.nil_append, List.cons_append, List.append_assoc] at H
    have C := H.cells
    try simp only [cellsOf, cellsM, apartOf, apartM, and_true] at C
    dsimp only
    go_wp2_with fail
    refine bodyPost_ret (by simp [results, Tryz.results11, go_sem, C]; try rfl) rfl ?_
    rw [HR.out]
    exact ⟨_, _, rs, rfl, hrs, HS.less (L' := [.row fv 47 2 _ _, Item.many (PsR pv rs)]) H (by repeat (first | exact .slnil | refine .cons_cons _ ?_ | refine .cons _ ?_))⟩
end Go.Proofs.YtedbpmckgiifpaaGreat
