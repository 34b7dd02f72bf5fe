/- Valid frames and programs, whatever they are; contain.Decide and memfaultref33.right on any. -/
import Derived.Test.YtedbpmckgiifpaaGreatRv
import Derived.Test.YtedbpmckgiifpaaGreatC5
namespace Go.Proofs.YtedbpmckgiifpaaGreat
set_option linter.unusedSimpArgs false
set_option linter.unusedVariables false
open Go.RowKit
set_option maxRecDepth 100000
attribute [local go_sem] lt_more ne_more ne_more'
attribute [local irreducible] wpX wpF Calls

noncomputable def frB (F : List Fr) : Bool := @decide (FrV F) (Classical.propDecidable _)
theorem frB_t {F : List Fr} (h : FrV F) : frB F = true := @decide_eq_true _ (Classical.propDecidable _) h
theorem frB_f {F : List Fr} (h : ¬ FrV F) : frB F = false := @decide_eq_false _ (Classical.propDecidable _) h
theorem frB_iff {F : List Fr} : frB F = true ↔ FrV F := @decide_eq_true_iff _ (Classical.propDecidable _)
theorem goodB_iff {F : Int} {ps : List Pr} : goodB F ps = true ↔ GoodP F ps := @decide_eq_true_iff _ (Classical.propDecidable _)
noncomputable def okB (F : List Fr) (ps : List Pr) : Bool := frB F && goodB F.length ps
theorem frV_any (F : List Fr) : FrV F ↔ 1 ≤ F.length ∧ F.length ≤ 64 ∧ F.any (fun x => !fitB x.st x.bl) = false := by
  constructor
  · intro h
    refine ⟨h.low, h.high, ?_⟩
    rw [List.any_eq_false]
    intro x hx
    rw [h.fit x hx]; decide
  · rintro ⟨h1, h2, h3⟩
    refine ⟨h1, h2, fun x hx => ?_⟩
    have := List.any_eq_false.1 h3 x hx
    simpa using this
theorem fvalid_gen {F : List Fr} (hx : F.length ≤ 1000) {sa : Option Addr} (c : Nat) (w : World) (hl : Lies w w.heap.size sa 2 F.length (fun j => frC F[j]!)) :
    Calls Tryz.prog 42 #[.slice sa F.length c] w (Gives (.bool (frB F)) w) := by
  have hcon := containsFr 62 (fun _ _ => rfl) #[] (fun x => !fitB x.st x.bl) c (by omega) w hl (fun W x _ => fvalid1_any x W)
  obtain ⟨R, hR⟩ : ∃ R, R = frB F := ⟨_, rfl⟩
  have HI := Lib.hid (frV_any F)
  have HRT := Lib.hid (fun h => hR.trans (frB_t (HI.out.2 h)))
  have HRF := Lib.hid (fun (h : ¬ (1 ≤ F.length ∧ F.length ≤ 64 ∧ F.any (fun x => !fitB x.st x.bl) = false)) => hR.trans (frB_f (fun g => h (HI.out.1 g))))
  rw [← hR]
  clear hl hR HI
  by_cases h1 : 1 ≤ F.length
  · have h1i : (1 : Int) ≤ F.length := by omega
    by_cases h2 : F.length ≤ 64
    · have h2i : (F.length : Int) ≤ 64 := by omega
      cases hany : F.any (fun x => !fitB x.st x.bl) with
      | false =>
        have HF9 := Lib.hid (HRT.out ⟨h1, h2, hany⟩)
        rw [hany] at hcon
        have HCO := Lib.hid hcon
        clear hcon hany
        go_enter Tryz.func42, Tryz.ntmps42
        have H := HS.start NoD w
        go_wp2_with fail
        refine (HCO.out).mono ?_
        rintro _ w1 ⟨rfl, hb⟩
        replace H := H.below hb
        clear hb
        try clear C
        try simp only [World.size_alloc, List.nil_append, List.cons_append, List.append_assoc] at H
        have C := H.cells
        try simp only [cellsOf, cellsM, apartOf, apartM, and_true] at C
        dsimp only
        go_wp2_with fail
        go_ret
        exact ⟨by rw [HF9.out]; simp, H.done⟩
      | true =>
        have HF9 := Lib.hid (HRF.out (fun h => by rw [hany] at h; cases h.2.2))
        rw [hany] at hcon
        have HCO := Lib.hid hcon
        clear hcon hany
        go_enter Tryz.func42, Tryz.ntmps42
        have H := HS.start NoD w
        go_wp2_with fail
        refine (HCO.out).mono ?_
        rintro _ w1 ⟨rfl, hb⟩
        replace H := H.below hb
        clear hb
        try clear C
        try simp only [World.size_alloc, List.nil_append, List.cons_append, List.append_assoc] at H
        have C := H.cells
        try simp only [cellsOf, cellsM, apartOf, apartM, and_true] at C
        dsimp only
        go_wp2_with fail
        go_ret
        exact ⟨by rw [HF9.out]; simp, H.done⟩
    · have h2i : ¬ (F.length : Int) ≤ 64 := by omega
      have HF9 := Lib.hid (HRF.out (fun h => h2 h.2.1))
      clear hcon
      go_enter Tryz.func42, Tryz.ntmps42
      have H := HS.start NoD w
      go_wp2_with fail
      go_ret
      exact ⟨by rw [HF9.out]; simp <;> omega, H.done⟩
  · have h1i : ¬ (1 : Int) ≤ F.length := by omega
    have HF9 := Lib.hid (HRF.out (fun h => h1 h.1))
    clear hcon
    go_enter Tryz.func42, Tryz.ntmps42
    have H := HS.start NoD w
    go_wp2_with fail
    go_ret
    exact ⟨by rw [HF9.out]; simp <;> omega, H.done⟩
theorem rfits_any (s b : Int) (w : World) : Calls Tryz.prog 74 #[.int .i64 s, .int .i64 b] w (Gives (.bool (fitB s b)) w) := by
  by_cases h1 : s = 1
  · subst h1
    by_cases h2 : 1 ≤ b
    · go_enter Tryz.func74, Tryz.ntmps74
      have H := HS.start NoD w
      go_wp2_with fail
      go_ret
      exact ⟨by unfold fitB; simp [h2], H.done⟩
    · go_enter Tryz.func74, Tryz.ntmps74
      have H := HS.start NoD w
      go_wp2_with fail
      go_ret
      exact ⟨by unfold fitB; simp; omega, H.done⟩
  · have hb : (s == 1) = false := beq_eq_false_iff_ne.2 h1
    by_cases h2 : 0 ≤ s
    · by_cases h3 : s ≤ 5
      · go_enter Tryz.func74, Tryz.ntmps74
        have H := HS.start NoD w
        go_wp2_with fail
        go_ret
        exact ⟨by unfold fitB; simp [h1, h2, h3]; rfl, H.done⟩
      · go_enter Tryz.func74, Tryz.ntmps74
        have H := HS.start NoD w
        go_wp2_with fail
        go_ret
        exact ⟨by unfold fitB; simp [h1]; omega, H.done⟩
    · go_enter Tryz.func74, Tryz.ntmps74
      have H := HS.start NoD w
      go_wp2_with fail
      go_ret
      exact ⟨by unfold fitB; simp [h1]; omega, H.done⟩
theorem r28valid_gen {F : List Fr} (hx : F.length ≤ 1000) {sa : Option Addr} (c : Nat) (w : World) (hl : Lies w w.heap.size sa 2 F.length (fun j => frC F[j]!)) :
    Calls Tryz.prog 50 #[.slice sa F.length c] w (Gives (.bool (frB F)) w) := by
  have HL := Lib.hid hl
  obtain ⟨R, hR⟩ : ∃ R, R = frB F := ⟨_, rfl⟩
  have HRT := Lib.hid (fun (h : FrV F) => hR.trans (frB_t h))
  have HRF := Lib.hid (fun (h : ¬ FrV F) => hR.trans (frB_f h))
  rw [← hR]
  clear hl hR
  go_enter Tryz.func50, Tryz.ntmps50
  have H := HS.start NoD w
  go_wp2_with fail
  go_loopw [7] (fun i wr => ∃ (j : Nat), i = .int .i64 j ∧ j ≤ F.length ∧ Hid (∀ i, i < j → fitB (F[i]!).st (F[i]!).bl = true) ∧ HS NoD w [] wr) (fun i _ => F.length - (intOf i).toNat)
  case atStart => exact ⟨0, rfl, Nat.zero_le _, fun i hi => absurd hi (Nat.not_lt_zero _), H⟩
  case round =>
    clear H
    obtain ⟨j, rfl, hj, HF, H⟩ := hrel
    skip
    by_cases hlt : j < F.length
    · obtain ⟨b, o, rfl, hb, hc⟩ := (H.lies HL.out).at hlt
      obtain ⟨xo, hxo⟩ : ∃ x, x = F[j]! := ⟨_, rfl⟩
      rw [← hxo] at hc
      have HX := Lib.hid hxo
      obtain ⟨s, bl⟩ := xo
      have c0 : wr.cell? ⟨b, o + j * 2, none⟩ = some (.int .i64 s) := hc 0 _ rfl
      have c1 : wr.cell? ⟨b, o + j * 2 + 1, none⟩ = some (.int .i64 bl) := hc 1 _ rfl
      clear hc hxo
      go_upto_region 4 with fail
      clear c0 c1
      generalize hwb : wr.alloc _ = w1
      replace H := HS.eqW hwb H.alloc
      try simp only [World.size_alloc, List.nil_append, List.cons_append, List.append_assoc] at H
      clear hwb
      generalize wr.heap.size = bX at H ⊢
      try clear C
      try clear wr
      have C := H.cells
      try simp only [cellsOf, cellsM, apartOf, apartM, and_true] at C
      have HFT := Lib.hid (fun w => rfits_any s bl w)
      cases hq : fitB s bl with
      | false =>
        rw [hq] at HFT
        have HF9 := Lib.hid (HRF.out (fun g => by have := g.fit _ (at_mem hlt); rw [← HX.out] at this; rw [hq] at this; cases this))
        clear hq
        skip
        go_wp2_with fail
        refine (HFT.out _).mono ?_
        rintro _ w2 ⟨rfl, hb⟩
        replace H := H.below hb
        clear hb
        try clear C
        try simp only [World.size_alloc, List.nil_append, List.cons_append, List.append_assoc] at H
        try clear w1
        have C := H.cells
        try simp only [cellsOf, cellsM, apartOf, apartM, and_true] at C
        dsimp only
        go_wp2_with fail
        go_ret
        exact ⟨by rw [HF9.out]; rfl, H.done⟩
      | true =>
        rw [hq] at HFT
        have HQ := Lib.hid hq
        clear hq
        skip
        go_wp2_with fail
        refine (HFT.out _).mono ?_
        rintro _ w3 ⟨rfl, hb⟩
        replace H := H.below hb
        clear hb
        try clear C
        try simp only [World.size_alloc, List.nil_append, List.cons_append, List.append_assoc] at H
        try clear w1
        have C := H.cells
        try simp only [cellsOf, cellsM, apartOf, apartM, and_true] at C
        dsimp only
        go_wp2_with fail
        go_roundw
        case rel =>
          refine ⟨j + 1, by go_num, by omega, (show Hid _ from fun i hi => ?_), H.less (by repeat (first | exact .slnil | refine .cons_cons _ ?_ | refine .cons _ ?_))⟩
          rcases Nat.lt_succ_iff_lt_or_eq.1 hi with hi | rfl
          · exact HF.out i hi
          · rw [← HX.out]; exact HQ.out
        case measure => simp [intOf]; omega
    · have HALL : Hid (∀ x ∈ F, fitB x.st x.bl = true) := fun x hx => by
        obtain ⟨i, hi, rfl⟩ := List.getElem_of_mem hx
        have := HF.out i (by omega)
        rw [getElem!_pos F i hi] at this
        exact this
      by_cases h1 : 1 ≤ F.length
      · have h1i : (1 : Int) ≤ F.length := by omega
        by_cases h2 : F.length ≤ 64
        · have h2i : (F.length : Int) ≤ 64 := by omega
          have HF9 := Lib.hid (HRT.out ⟨h1, h2, HALL.out⟩)
          skip
          go_wp2_with fail
          go_ret
          exact ⟨by rw [HF9.out]; simp, H.done⟩
        · have h2i : ¬ (F.length : Int) ≤ 64 := by omega
          have HF9 := Lib.hid (HRF.out (fun h => h2 h.high))
          skip
          go_wp2_with fail
          go_ret
          exact ⟨by rw [HF9.out]; simp <;> omega, H.done⟩
      · have h1i : ¬ (1 : Int) ≤ F.length := by omega
        have HF9 := Lib.hid (HRF.out (fun h => h1 h.low))
        skip
        go_wp2_with fail
        go_ret
        exact ⟨by rw [HF9.out]; simp <;> omega, H.done⟩
section
variable {F : List Fr} (hx : F.length ≤ 1000) {ps : List Pr} (hs : SmallP ps) {sa : Option Addr} (c : Nat) {v : Value} (w : World) (hl : Lies w w.heap.size sa 2 F.length (fun j => frC F[j]!)) (hp : Ps w w.heap.size v ps)
include hx hs hl hp
theorem cvalid_gen : Calls Tryz.prog 22 #[.slice sa F.length c, v] w (Gives (.bool (okB F ps)) w) := by
  have HV := Lib.hid (fvalid_gen hx c w hl)
  have HO := Lib.hid (fun w h => ovalid_gen (F := F.length) (v := v) hs w h)
  have HPS := Lib.hid hp
  obtain ⟨R, hR⟩ : ∃ R, R = okB F ps := ⟨_, rfl⟩
  have HR := Lib.hid (show R = (frB F && goodB F.length ps) from hR)
  rw [← hR]
  clear hl hp hR
  generalize frB F = b1 at HV HR
  generalize goodB F.length ps = b2 at HO HR
  cases b1 with
  | false =>
    go_enter Tryz.func22, Tryz.ntmps22
    have H := HS.start NoD w
    go_wp2_with fail
    refine (HV.out).mono ?_
    rintro _ w1 ⟨rfl, hb⟩
    replace H := H.below hb
    clear hb
    try clear C
    try simp only [World.size_alloc, List.nil_append, List.cons_append, List.append_assoc] at H
    have C := H.cells
    try simp only [cellsOf, cellsM, apartOf, apartM, and_true] at C
    dsimp only
    go_wp2_with fail
    go_ret
    exact ⟨by rw [HR.out]; rfl, H.done⟩
  | true =>
    go_enter Tryz.func22, Tryz.ntmps22
    have H := HS.start NoD w
    go_wp2_with fail
    refine (HV.out).mono ?_
    rintro _ w1 ⟨rfl, hb⟩
    replace H := H.below hb
    clear hb
    try clear C
    try simp only [World.size_alloc, List.nil_append, List.cons_append, List.append_assoc] at H
    have C := H.cells
    try simp only [cellsOf, cellsM, apartOf, apartM, and_true] at C
    dsimp only
    go_wp2_with fail
    refine (HO.out _ (H.psUp HPS.out)).mono ?_
    rintro _ w2 ⟨rfl, hb⟩
    replace H := H.below hb
    clear hb
    try clear C
    try simp only [World.size_alloc, List.nil_append, List.cons_append, List.append_assoc] at H
    try clear w1
    have C := H.cells
    try simp only [cellsOf, cellsM, apartOf, apartM, and_true] at C
    dsimp only
    go_wp2_with fail
    go_ret
    exact ⟨by rw [HR.out]; rfl, H.done⟩
theorem right_gen : Calls Tryz.prog 27 #[.slice sa F.length c, v] w (Gives (.bool (okB F ps)) w) := by
  have HV := Lib.hid (r28valid_gen hx c w hl)
  have HO := Lib.hid (fun w h => rvalid_gen (F := F.length) (v := v) hs w h)
  have HPS := Lib.hid hp
  obtain ⟨R, hR⟩ : ∃ R, R = okB F ps := ⟨_, rfl⟩
  have HR := Lib.hid (show R = (frB F && goodB F.length ps) from hR)
  rw [← hR]
  clear hl hp hR
  generalize frB F = b1 at HV HR
  generalize goodB F.length ps = b2 at HO HR
  cases b1 with
  | false =>
    go_enter Tryz.func27, Tryz.ntmps27
    have H := HS.start NoD w
    go_wp2_with fail
    refine (HV.out).mono ?_
    rintro _ w1 ⟨rfl, hb⟩
    replace H := H.below hb
    clear hb
    try clear C
    try simp only [World.size_alloc, List.nil_append, List.cons_append, List.append_assoc] at H
    have C := H.cells
    try simp only [cellsOf, cellsM, apartOf, apartM, and_true] at C
    dsimp only
    go_wp2_with fail
    go_ret
    exact ⟨by rw [HR.out]; rfl, H.done⟩
  | true =>
    go_enter Tryz.func27, Tryz.ntmps27
    have H := HS.start NoD w
    go_wp2_with fail
    refine (HV.out).mono ?_
    rintro _ w1 ⟨rfl, hb⟩
    replace H := H.below hb
    clear hb
    try clear C
    try simp only [World.size_alloc, List.nil_append, List.cons_append, List.append_assoc] at H
    have C := H.cells
    try simp only [cellsOf, cellsM, apartOf, apartM, and_true] at C
    dsimp only
    go_wp2_with fail
    refine (HO.out _ (H.psUp HPS.out)).mono ?_
    rintro _ w2 ⟨rfl, hb⟩
    replace H := H.below hb
    clear hb
    try clear C
    try simp only [World.size_alloc, List.nil_append, List.cons_append, List.append_assoc] at H
    try clear w1
    have C := H.cells
    try simp only [cellsOf, cellsM, apartOf, apartM, and_true] at C
    dsimp only
    go_wp2_with fail
    go_ret
    exact ⟨by rw [HR.out]; rfl, H.done⟩
theorem cdecide_gen (f tq : Int) : Calls Tryz.prog 15 #[.slice sa F.length c, v, .int .i64 f, .int .i64 tq] w (GivesD (decP (okB F ps) F ps f tq) w) := by
  cases hb : okB F ps with
  | true =>
    have hb' : (frB F && goodB F.length ps) = true := hb
    rw [Bool.and_eq_true] at hb'
    exact cdecide_any (frB_iff.1 hb'.1) (goodB_iff.1 hb'.2) f tq c w hl hp
  | false =>
    have HV := Lib.hid (cvalid_gen hx hs c w hl hp)
    rw [hb] at HV
    rw [show decP false F ps f tq = (1, []) from rfl]
    clear hb hl hp
    go_enter Tryz.func15, Tryz.ntmps15
    have H := HS.start NoD w
    go_wp2_with fail
    refine (HV.out).mono ?_
    rintro _ w1 ⟨rfl, hb⟩
    replace H := H.below hb
    clear hb
    try clear C
    try simp only [World.size_alloc, List.nil_append, List.cons_append, List.append_assoc] at H
    have C := H.cells
    try simp only [cellsOf, cellsM, apartOf, apartM, and_true] at C
    dsimp only
    go_wp2_with fail
    refine bodyPost_ret (by simp [results, Tryz.results15, go_sem, C]; try rfl) rfl ?_
    exact givesD_nil H 1
end
end Go.Proofs.YtedbpmckgiifpaaGreat
