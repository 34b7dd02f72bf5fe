/- contain.Decide on valid frames and programs. -/
import Derived.Test.YtedbpmckgiifpaaGreatC3
namespace Go.Proofs.YtedbpmckgiifpaaGreat
set_option linter.unusedSimpArgs false
set_option linter.unusedVariables false
open Go.RowKit
set_option maxRecDepth 100000
attribute [local go_sem] lt_more ne_more ne_more'
attribute [local irreducible] wpX wpF Calls

theorem HS.blkRow {D : Nat → Prop} {W w : World} {L : List Item} (h : HS D W L w) (i : Nat) {b n k : Nat} {cs : Array Value} {t : TypeId} (hi : L[i]? = some (.blk b cs t)) (hm : n ≤ maxLen) (hs : cs.size = n * k) : HS D W (L.set i (.row (.slice (some ⟨b, 0, none⟩) n n) t k n cs.toList)) w := by
  rw [set_at _ hi]
  rw [split_at hi] at h
  have h1 : Blk w b cs t := h.ok (.blk b cs t) (by simp)
  exact h.swap (X := .blk b cs t) (Y := .row (.slice (some ⟨b, 0, none⟩) n n) t k n cs.toList) rfl rfl rfl (Nat.le_refl _) (fun _ _ _ => rfl)
    ⟨by simpa using hs, .inr ⟨b, n, cs, rfl, Nat.zero_le _, h1, Nat.le_refl _, hm, hs, List.take_of_length_le (by rw [Array.length_toList, hs]; exact Nat.le_refl _)⟩⟩
    (fun k hk => .inl (show k = b by have : some b = some k := hk; injection this with e; exact e.symm)) (.inr rfl)
/-- What Decide hands back. -/
def GivesD (R : Int × List Dd) (w : World) (x : Ending) (w' : World) : Prop := GivesS (fun v => .tuple #[v, .int .i64 R.1]) 24 5 R.2.length (R.2.flatMap ddC) w x w'
theorem givesD_nil {w w' : World} {L : List Item} (H : HS NoD w L w') (e : Int) : GivesD (e, []) w (.returned (.tuple #[.slice none 0 0, .int .i64 e])) w' :=
  (H.nilRow 24 5).givesS L.length (by simp)
theorem givesD_lit {w w' : World} {L : List Item} (H : HS NoD w L w') (i : Nat) {b : Nat} {cs : Array Value} (l : List Dd) (hi : L[i]? = some (.blk b cs 24)) (hl : l.length ≤ 10) (hc : cs.toList = l.flatMap ddC) : GivesD (0, l) w (.returned (.tuple #[.slice (some ⟨b, 0, none⟩) l.length l.length, .int .i64 0])) w' := by
  have hs : cs.size = l.length * 5 := by rw [← Array.length_toList, hc, flat_len ddC_len]
  have h := H.blkRow (n := l.length) (k := 5) i hi (by unfold maxLen; omega) hs
  rw [hc] at h
  have hlt : i < L.length := (List.getElem?_eq_some_iff.1 hi).1
  exact h.givesS i (by rw [List.getElem?_set_self (by simpa using hlt)])
theorem givesD_app {w w' : World} {L : List Item} (H : HS NoD w L w') (i : Nat) {l : List Dd} {d : Dd} {sa : Option Addr} {c : Nat} (hi : L[i]? = some (.row (.slice sa (l.length + 1) c) 24 5 (l.length + 1) (l.flatMap ddC ++ ddC d))) : GivesD (0, l ++ [d]) w (.returned (.tuple #[.slice sa (l.length + 1) c, .int .i64 0])) w' := by
  unfold GivesD
  dsimp only
  rw [List.length_append, ddC_snoc]
  exact H.givesS (mk := fun v => .tuple #[v, .int .i64 0]) i hi
set_option maxHeartbeats 16000000 in
theorem cdecide_any {F : List Fr} (hF : FrV F) {ps : List Pr} (hg : GoodP F.length ps) (f tq : Int) {sa : Option Addr} (c : Nat) {v : Value} (w : World) (hl : Lies w w.heap.size sa 2 F.length (fun j => frC F[j]!)) (hp : Ps w w.heap.size v ps) :
    Calls Tryz.prog 15 #[.slice sa F.length c, v, .int .i64 f, .int .i64 tq] w (GivesD (decP true F ps f tq) w) := by
  have HV := Lib.hid (cvalid_any hF hg c w hl hp)
  have HFR := Lib.hid (fun w h => cfree_any tq (show F.length ≤ 1000 by have := hF.high; omega) (sa := sa) c w h)
  have HVI := Lib.hid (fun w h => victims_any f hg (v := v) w h)
  have hF1 := hF.low
  have hF2 := hF.high
  have HL := Lib.hid hl
  have HPS := Lib.hid hp
  have hvl : (vicP ps f).length ≤ 100000 := by
    have h1 := hg.smallP
    have : ∀ l : List Pr, (∀ p ∈ l, p.pages.length ≤ 1000) → (usersL l f).length ≤ 1000 * l.length := fun l => by
      induction l with
      | nil => intro _; exact Nat.zero_le _
      | cons p l ih =>
        intro h
        have h2 := ih fun q hq => h q (by simp [hq])
        have h3 := cnt_cons p l f
        unfold cnt at h3
        rw [h3, List.length_cons]
        have h4 : cf p.pages f ≤ p.pages.length := List.length_filter_le _ _
        have h5 := h p (by simp)
        omega
    have h6 := this ps fun p hp => (h1.2 p hp).1
    have h7 := hg.len
    unfold vicP
    rw [List.length_map]
    omega
  clear hF hg hl hp
  by_cases hf0 : f < 0
  · rw [show decP true F ps f tq = (43, []) by unfold decP; rw [if_neg (by decide), if_pos (.inl hf0)]]
    go_enter Tryz.func15, Tryz.ntmps15
    have H := HS.start NoD w
    go_wp2_with fail
    refine (HV.out).mono ?_
    rintro _ w1 ⟨rfl, hb⟩
    replace H := H.below hb
    clear hb
    try clear C
    try simp only [World.size_alloc, List.nil_append, List.cons_append, List.append_assoc] at H
    have C := H.cells
    try simp only [cellsOf, cellsM, apartOf, apartM, and_true] at C
    dsimp only
    go_wp2_with fail
    refine bodyPost_ret (by simp [results, Tryz.results15, go_sem, C]; try rfl) rfl ?_
    exact givesD_nil H 43
  by_cases hf1 : (F.length : Int) ≤ f
  · rw [show decP true F ps f tq = (43, []) by unfold decP; rw [if_neg (by decide), if_pos (.inr hf1)]]
    go_enter Tryz.func15, Tryz.ntmps15
    have H := HS.start NoD w
    go_wp2_with fail
    refine (HV.out).mono ?_
    rintro _ w1 ⟨rfl, hb⟩
    replace H := H.below hb
    clear hb
    try clear C
    try simp only [World.size_alloc, List.nil_append, List.cons_append, List.append_assoc] at H
    have C := H.cells
    try simp only [cellsOf, cellsM, apartOf, apartM, and_true] at C
    dsimp only
    go_wp2_with fail
    refine bodyPost_ret (by simp [results, Tryz.results15, go_sem, C]; try rfl) rfl ?_
    exact givesD_nil H 43
  have e1 : ¬ (f < 0 ∨ (F.length : Int) ≤ f) := by omega
  obtain ⟨k, rfl⟩ : ∃ k : Nat, f = k := ⟨f.toNat, by omega⟩
  have hkl : k < F.length := by omega
  obtain ⟨b, o, rfl, hb, hc⟩ := HL.out.at hkl
  obtain ⟨s, hs⟩ : ∃ s, s = (F[k]!).st := ⟨_, rfl⟩
  have hc0 : w.cell? ⟨b, o + k * 2, none⟩ = some (.int .i64 s) := by rw [hs]; exact hc 0 _ rfl
  have HC0 := Lib.hid hc0
  have HB := Lib.hid hb
  obtain ⟨R, hR⟩ : ∃ R, R = decP true F ps k tq := ⟨_, rfl⟩
  rw [← hR]
  have hRS : R = _ := hR
  unfold decP at hRS
  rw [if_neg (by decide), if_neg e1] at hRS
  have e3 : (F[((k : Nat) : Int).toNat]!).st = s := hs.symm
  rw [e3] at hRS
  dsimp only at hRS
  clear e3 hs hc hc0 hb e1 hR

  by_cases ht : tq = -1
  · subst ht
    rw [if_neg (fun h => h.1 rfl)] at hRS
    by_cases h5 : s = 5
    · subst h5
      have HR := Lib.hid (show R = (0, []) by rw [hRS]; try (rfl))
      clear hRS
      rw [HR.out]
      go_enter Tryz.func15, Tryz.ntmps15
      have H := HS.start NoD w
      go_wp2_with fail
      refine (HV.out).mono ?_
      rintro _ w1 ⟨rfl, hb⟩
      replace H := H.below hb
      clear hb
      try clear C
      try simp only [World.size_alloc, List.nil_append, List.cons_append, List.append_assoc] at H
      have C := H.cells
      try simp only [cellsOf, cellsM, apartOf, apartM, and_true] at C
      dsimp only
      have c0 : w1.cell? ⟨b, o + k * 2, none⟩ = some (.int .i64 5) := (H.was (p := ⟨b, o + k * 2, none⟩) HB.out id).trans HC0.out
      go_upto_region 8 with fail
      clear c0
      generalize hwb : w1.alloc _ = w2
      replace H := HS.eqW hwb H.alloc
      try simp only [World.size_alloc, List.nil_append, List.cons_append, List.append_assoc] at H
      clear hwb
      generalize w1.heap.size = bR at H ⊢
      try clear C
      try clear w1
      have C := H.cells
      try simp only [cellsOf, cellsM, apartOf, apartM, and_true] at C
      have c0 : w2.cell? ⟨b, o + k * 2, none⟩ = some (.int .i64 5) := (H.was (p := ⟨b, o + k * 2, none⟩) HB.out id).trans HC0.out
      go_wp2_with fail
      refine bodyPost_ret (by simp [results, Tryz.results15, go_sem, C]; try rfl) rfl ?_
      exact givesD_nil H 0
    have h5b : (s == 5) = false := beq_eq_false_iff_ne.2 h5
    rw [if_neg h5] at hRS
    by_cases h0 : s = 0
    · subst h0
      have HR := Lib.hid (show R = (0, [⟨1, k, 0, 0, 0⟩]) by rw [hRS]; try (rfl))
      clear hRS
      rw [HR.out]
      go_enter Tryz.func15, Tryz.ntmps15
      have H := HS.start NoD w
      go_wp2_with fail
      refine (HV.out).mono ?_
      rintro _ w1 ⟨rfl, hb⟩
      replace H := H.below hb
      clear hb
      try clear C
      try simp only [World.size_alloc, List.nil_append, List.cons_append, List.append_assoc] at H
      have C := H.cells
      try simp only [cellsOf, cellsM, apartOf, apartM, and_true] at C
      dsimp only
      have c0 : w1.cell? ⟨b, o + k * 2, none⟩ = some (.int .i64 0) := (H.was (p := ⟨b, o + k * 2, none⟩) HB.out id).trans HC0.out
      go_upto_region 8 with fail
      clear c0
      generalize hwb : w1.alloc _ = w2
      replace H := HS.eqW hwb H.alloc
      try simp only [World.size_alloc, List.nil_append, List.cons_append, List.append_assoc] at H
      clear hwb
      generalize w1.heap.size = bR at H ⊢
      try clear C
      try clear w1
      have C := H.cells
      try simp only [cellsOf, cellsM, apartOf, apartM, and_true] at C
      have c0 : w2.cell? ⟨b, o + k * 2, none⟩ = some (.int .i64 0) := (H.was (p := ⟨b, o + k * 2, none⟩) HB.out id).trans HC0.out
      go_wp2_with fail
      refine bodyPost_ret (by simp [results, Tryz.results15, go_sem, C]; try rfl) rfl ?_
      exact givesD_lit H.alloc 1 _ rfl (by simp) rfl
    have h0b : (s == 0) = false := beq_eq_false_iff_ne.2 h0
    rw [if_neg h0] at hRS
    by_cases h4 : s = 4
    · subst h4
      have HR := Lib.hid (show R = (0, [⟨6, k, 0, 0, 0⟩]) by rw [hRS]; try (rw [if_pos (.inl rfl)]))
      clear hRS
      rw [HR.out]
      go_enter Tryz.func15, Tryz.ntmps15
      have H := HS.start NoD w
      go_wp2_with fail
      refine (HV.out).mono ?_
      rintro _ w1 ⟨rfl, hb⟩
      replace H := H.below hb
      clear hb
      try clear C
      try simp only [World.size_alloc, List.nil_append, List.cons_append, List.append_assoc] at H
      have C := H.cells
      try simp only [cellsOf, cellsM, apartOf, apartM, and_true] at C
      dsimp only
      have c0 : w1.cell? ⟨b, o + k * 2, none⟩ = some (.int .i64 4) := (H.was (p := ⟨b, o + k * 2, none⟩) HB.out id).trans HC0.out
      go_upto_region 8 with fail
      clear c0
      generalize hwb : w1.alloc _ = w2
      replace H := HS.eqW hwb H.alloc
      try simp only [World.size_alloc, List.nil_append, List.cons_append, List.append_assoc] at H
      clear hwb
      generalize w1.heap.size = bR at H ⊢
      try clear C
      try clear w1
      have C := H.cells
      try simp only [cellsOf, cellsM, apartOf, apartM, and_true] at C
      have c0 : w2.cell? ⟨b, o + k * 2, none⟩ = some (.int .i64 4) := (H.was (p := ⟨b, o + k * 2, none⟩) HB.out id).trans HC0.out
      go_wp2_with fail
      refine bodyPost_ret (by simp [results, Tryz.results15, go_sem, C]; try rfl) rfl ?_
      exact givesD_lit H.alloc 1 _ rfl (by simp) rfl
    have h4b : (s == 4) = false := beq_eq_false_iff_ne.2 h4
    by_cases h3 : s = 3
    · subst h3
      have HR := Lib.hid (show R = (0, [⟨6, k, 0, 0, 0⟩]) by rw [hRS]; try (rw [if_pos (.inr ⟨rfl, rfl⟩)]))
      clear hRS
      rw [HR.out]
      go_enter Tryz.func15, Tryz.ntmps15
      have H := HS.start NoD w
      go_wp2_with fail
      refine (HV.out).mono ?_
      rintro _ w1 ⟨rfl, hb⟩
      replace H := H.below hb
      clear hb
      try clear C
      try simp only [World.size_alloc, List.nil_append, List.cons_append, List.append_assoc] at H
      have C := H.cells
      try simp only [cellsOf, cellsM, apartOf, apartM, and_true] at C
      dsimp only
      have c0 : w1.cell? ⟨b, o + k * 2, none⟩ = some (.int .i64 3) := (H.was (p := ⟨b, o + k * 2, none⟩) HB.out id).trans HC0.out
      go_upto_region 8 with fail
      clear c0
      generalize hwb : w1.alloc _ = w2
      replace H := HS.eqW hwb H.alloc
      try simp only [World.size_alloc, List.nil_append, List.cons_append, List.append_assoc] at H
      clear hwb
      generalize w1.heap.size = bR at H ⊢
      try clear C
      try clear w1
      have C := H.cells
      try simp only [cellsOf, cellsM, apartOf, apartM, and_true] at C
      have c0 : w2.cell? ⟨b, o + k * 2, none⟩ = some (.int .i64 3) := (H.was (p := ⟨b, o + k * 2, none⟩) HB.out id).trans HC0.out
      go_wp2_with fail
      refine bodyPost_ret (by simp [results, Tryz.results15, go_sem, C]; try rfl) rfl ?_
      exact givesD_lit H.alloc 1 _ rfl (by simp) rfl
    have h3b : (s == 3) = false := beq_eq_false_iff_ne.2 h3
    rw [if_neg (fun h => h.elim h4 (fun h => h3 h.1)), if_neg h3] at hRS
    rw [if_neg (fun h => h.2 rfl)] at hRS
    by_cases h1 : s = 1
    · subst h1
      have HR := Lib.hid (show R = (0, vicP ps k ++ [⟨1, k, 0, 0, 0⟩]) by rw [hRS]; try (rfl))
      clear hRS
      rw [HR.out]
      go_enter Tryz.func15, Tryz.ntmps15
      have H := HS.start NoD w
      go_wp2_with fail
      refine (HV.out).mono ?_
      rintro _ w1 ⟨rfl, hb⟩
      replace H := H.below hb
      clear hb
      try clear C
      try simp only [World.size_alloc, List.nil_append, List.cons_append, List.append_assoc] at H
      have C := H.cells
      try simp only [cellsOf, cellsM, apartOf, apartM, and_true] at C
      dsimp only
      have c0 : w1.cell? ⟨b, o + k * 2, none⟩ = some (.int .i64 1) := (H.was (p := ⟨b, o + k * 2, none⟩) HB.out id).trans HC0.out
      go_upto_region 8 with fail
      clear c0
      generalize hwb : w1.alloc _ = w2
      replace H := HS.eqW hwb H.alloc
      try simp only [World.size_alloc, List.nil_append, List.cons_append, List.append_assoc] at H
      clear hwb
      generalize w1.heap.size = bR at H ⊢
      try clear C
      try clear w1
      have C := H.cells
      try simp only [cellsOf, cellsM, apartOf, apartM, and_true] at C
      have c0 : w2.cell? ⟨b, o + k * 2, none⟩ = some (.int .i64 1) := (H.was (p := ⟨b, o + k * 2, none⟩) HB.out id).trans HC0.out
      go_upto_region 19 with fail
      clear c0
      go_region_law (first
        | (go_simp; go_at_call 35
           first
             | (refine (HVI.out _ (H.drew.psUp HPS.out)).mono ?_; rintro _ wa ⟨s1, d1, rfl, hr, hb1⟩; have H1 := (H.drew.getsRow hb1 hr).alloc (cs := #[.int .i64 1, .int .i64 k, .int .i64 0, .int .i64 0, .int .i64 0]) (t := 24); have C1 := (H.drew.getsRow hb1 hr).cells)
             | (refine (HVI.out _ (H.drew.alloc.psUp HPS.out)).mono ?_; rintro _ wa ⟨s1, d1, rfl, hr, hb1⟩; have H1 := H.drew.alloc.getsRow hb1 hr; have C1 := H1.cells)
           simp only [List.nil_append, List.cons_append, List.append_assoc, cellsOf, cellsM, apartOf, apartM, and_true] at H1 C1; clear hr hb1)
        | (skip; (first
             | refine step_append_src (hgd := rfl) (s := .tmp 91) (x := .tmp 93) (t := 39) (ho := rfl) (hE := elemDd) (H := H1) (k := 1) (hk := rfl) (hs := rfl) (m := 1) (c := 1) (news := [.int .i64 1, .int .i64 k, .int .i64 0, .int .i64 0, .int .i64 0]) (hx := by first | rfl | (simp [Act.eval, Act.put]; done) | (simp [Act.eval, Act.put]; rfl)) (hsrc := .inr ⟨_, rfl, World.news_of_block (H1.at 2 rfl)⟩) (hl := rfl) (h1 := fun y hy => by simp only [List.mem_cons, List.mem_nil_iff, or_false] at hy; rcases hy with rfl | rfl | rfl | rfl | rfl <;> rfl) (h63 := by unfold maxLen; omega) (hbytes := by omega) (N := (vicP ps k).length + 1) (hN := rfl) (h := fun s2 c2 wb H2 hg2 => ?_)
             | refine step_append_src (hgd := rfl) (s := .tmp 91) (x := .tmp 93) (t := 39) (ho := rfl) (hE := elemDd) (H := H1) (k := 2) (hk := rfl) (hs := rfl) (m := 1) (c := 1) (news := [.int .i64 1, .int .i64 k, .int .i64 0, .int .i64 0, .int .i64 0]) (hx := by first | rfl | (simp [Act.eval, Act.put]; done) | (simp [Act.eval, Act.put]; rfl)) (hsrc := .inr ⟨_, rfl, World.news_of_block (H1.at 1 rfl)⟩) (hl := rfl) (h1 := fun y hy => by simp only [List.mem_cons, List.mem_nil_iff, or_false] at hy; rcases hy with rfl | rfl | rfl | rfl | rfl <;> rfl) (h63 := by unfold maxLen; omega) (hbytes := by omega) (N := (vicP ps k).length + 1) (hN := rfl) (h := fun s2 c2 wb H2 hg2 => ?_))))
      all_goals
        go_wp2_with fail
        refine bodyPost_ret (by simp [results, Tryz.results15, go_sem, C]; try rfl) rfl ?_
        first
          | exact givesD_app H2 1 rfl
          | exact givesD_app H2 2 rfl
    have h1b : (s == 1) = false := beq_eq_false_iff_ne.2 h1
    have HR := Lib.hid (show R = (0, vicP ps k ++ [⟨1, k, 0, 0, 0⟩]) by rw [hRS]; try (rfl))
    clear hRS
    rw [HR.out]
    go_enter Tryz.func15, Tryz.ntmps15
    have H := HS.start NoD w
    go_wp2_with fail
    refine (HV.out).mono ?_
    rintro _ w1 ⟨rfl, hb⟩
    replace H := H.below hb
    clear hb
    try clear C
    try simp only [World.size_alloc, List.nil_append, List.cons_append, List.append_assoc] at H
    have C := H.cells
    try simp only [cellsOf, cellsM, apartOf, apartM, and_true] at C
    dsimp only
    have c0 : w1.cell? ⟨b, o + k * 2, none⟩ = some (.int .i64 s) := (H.was (p := ⟨b, o + k * 2, none⟩) HB.out id).trans HC0.out
    go_upto_region 8 with fail
    clear c0
    generalize hwb : w1.alloc _ = w2
    replace H := HS.eqW hwb H.alloc
    try simp only [World.size_alloc, List.nil_append, List.cons_append, List.append_assoc] at H
    clear hwb
    generalize w1.heap.size = bR at H ⊢
    try clear C
    try clear w1
    have C := H.cells
    try simp only [cellsOf, cellsM, apartOf, apartM, and_true] at C
    have c0 : w2.cell? ⟨b, o + k * 2, none⟩ = some (.int .i64 s) := (H.was (p := ⟨b, o + k * 2, none⟩) HB.out id).trans HC0.out
    go_upto_region 19 with fail
    clear c0
    go_region_law (first
      | (go_simp; go_at_call 35
         first
           | (refine (HVI.out _ (H.drew.psUp HPS.out)).mono ?_; rintro _ wa ⟨s1, d1, rfl, hr, hb1⟩; have H1 := (H.drew.getsRow hb1 hr).alloc (cs := #[.int .i64 1, .int .i64 k, .int .i64 0, .int .i64 0, .int .i64 0]) (t := 24); have C1 := (H.drew.getsRow hb1 hr).cells)
           | (refine (HVI.out _ (H.drew.alloc.psUp HPS.out)).mono ?_; rintro _ wa ⟨s1, d1, rfl, hr, hb1⟩; have H1 := H.drew.alloc.getsRow hb1 hr; have C1 := H1.cells)
         simp only [List.nil_append, List.cons_append, List.append_assoc, cellsOf, cellsM, apartOf, apartM, and_true] at H1 C1; clear hr hb1)
      | (skip; (first
           | refine step_append_src (hgd := rfl) (s := .tmp 91) (x := .tmp 93) (t := 39) (ho := rfl) (hE := elemDd) (H := H1) (k := 1) (hk := rfl) (hs := rfl) (m := 1) (c := 1) (news := [.int .i64 1, .int .i64 k, .int .i64 0, .int .i64 0, .int .i64 0]) (hx := by first | rfl | (simp [Act.eval, Act.put]; done) | (simp [Act.eval, Act.put]; rfl)) (hsrc := .inr ⟨_, rfl, World.news_of_block (H1.at 2 rfl)⟩) (hl := rfl) (h1 := fun y hy => by simp only [List.mem_cons, List.mem_nil_iff, or_false] at hy; rcases hy with rfl | rfl | rfl | rfl | rfl <;> rfl) (h63 := by unfold maxLen; omega) (hbytes := by omega) (N := (vicP ps k).length + 1) (hN := rfl) (h := fun s2 c2 wb H2 hg2 => ?_)
           | refine step_append_src (hgd := rfl) (s := .tmp 91) (x := .tmp 93) (t := 39) (ho := rfl) (hE := elemDd) (H := H1) (k := 2) (hk := rfl) (hs := rfl) (m := 1) (c := 1) (news := [.int .i64 1, .int .i64 k, .int .i64 0, .int .i64 0, .int .i64 0]) (hx := by first | rfl | (simp [Act.eval, Act.put]; done) | (simp [Act.eval, Act.put]; rfl)) (hsrc := .inr ⟨_, rfl, World.news_of_block (H1.at 1 rfl)⟩) (hl := rfl) (h1 := fun y hy => by simp only [List.mem_cons, List.mem_nil_iff, or_false] at hy; rcases hy with rfl | rfl | rfl | rfl | rfl <;> rfl) (h63 := by unfold maxLen; omega) (hbytes := by omega) (N := (vicP ps k).length + 1) (hN := rfl) (h := fun s2 c2 wb H2 hg2 => ?_))))
    all_goals
      go_wp2_with fail
      refine bodyPost_ret (by simp [results, Tryz.results15, go_sem, C]; try rfl) rfl ?_
      first
        | exact givesD_app H2 1 rfl
        | exact givesD_app H2 2 rfl
  have htb : (tq == -1) = false := beq_eq_false_iff_ne.2 ht
  by_cases htf : tq = k
  · subst htf
    rw [if_pos ⟨ht, .inl rfl⟩] at hRS
    have HR := Lib.hid hRS
    clear hRS
    rw [HR.out]
    go_enter Tryz.func15, Tryz.ntmps15
    have H := HS.start NoD w
    go_wp2_with fail
    refine (HV.out).mono ?_
    rintro _ w1 ⟨rfl, hb⟩
    replace H := H.below hb
    clear hb
    try clear C
    try simp only [World.size_alloc, List.nil_append, List.cons_append, List.append_assoc] at H
    have C := H.cells
    try simp only [cellsOf, cellsM, apartOf, apartM, and_true] at C
    dsimp only
    go_wp2_with fail
    refine bodyPost_ret (by simp [results, Tryz.results15, go_sem, C]; try rfl) rfl ?_
    exact givesD_nil H 40
  have htfb : (tq == (k : Int)) = false := beq_eq_false_iff_ne.2 htf
  cases hfr : freeAtF F tq with
  | false =>
    rw [if_pos ⟨ht, .inr hfr⟩] at hRS
    have HFT : Hid (∀ w, _ → _) := HFR
    rw [hfr] at HFT
    have HR := Lib.hid hRS
    clear hRS
    rw [HR.out]
    go_enter Tryz.func15, Tryz.ntmps15
    have H := HS.start NoD w
    go_wp2_with fail
    refine (HV.out).mono ?_
    rintro _ w1 ⟨rfl, hb⟩
    replace H := H.below hb
    clear hb
    try clear C
    try simp only [World.size_alloc, List.nil_append, List.cons_append, List.append_assoc] at H
    have C := H.cells
    try simp only [cellsOf, cellsM, apartOf, apartM, and_true] at C
    dsimp only
    go_wp2_with fail
    refine (HFT.out _ (H.liesUp HL.out)).mono ?_
    rintro _ w2 ⟨rfl, hb⟩
    replace H := H.below hb
    clear hb
    try clear C
    try simp only [World.size_alloc, List.nil_append, List.cons_append, List.append_assoc] at H
    try clear w1
    have C := H.cells
    try simp only [cellsOf, cellsM, apartOf, apartM, and_true] at C
    dsimp only
    go_wp2_with fail
    refine bodyPost_ret (by simp [results, Tryz.results15, go_sem, C]; try rfl) rfl ?_
    exact givesD_nil H 40
  | true =>
    rw [if_neg (fun h => h.2.elim htf (fun h => by rw [hfr] at h; cases h))] at hRS
    have HFT : Hid (∀ w, _ → _) := HFR
    rw [hfr] at HFT
    by_cases h5 : s = 5
    · subst h5
      have HR := Lib.hid (show R = (0, []) by rw [hRS]; try (rfl))
      clear hRS
      rw [HR.out]
      go_enter Tryz.func15, Tryz.ntmps15
      have H := HS.start NoD w
      go_wp2_with fail
      refine (HV.out).mono ?_
      rintro _ w1 ⟨rfl, hb⟩
      replace H := H.below hb
      clear hb
      try clear C
      try simp only [World.size_alloc, List.nil_append, List.cons_append, List.append_assoc] at H
      have C := H.cells
      try simp only [cellsOf, cellsM, apartOf, apartM, and_true] at C
      dsimp only
      go_wp2_with fail
      refine (HFT.out _ (H.liesUp HL.out)).mono ?_
      rintro _ w2 ⟨rfl, hb⟩
      replace H := H.below hb
      clear hb
      try clear C
      try simp only [World.size_alloc, List.nil_append, List.cons_append, List.append_assoc] at H
      try clear w1
      have C := H.cells
      try simp only [cellsOf, cellsM, apartOf, apartM, and_true] at C
      dsimp only
      have c0 : w2.cell? ⟨b, o + k * 2, none⟩ = some (.int .i64 5) := (H.was (p := ⟨b, o + k * 2, none⟩) HB.out id).trans HC0.out
      go_upto_region 8 with fail
      clear c0
      generalize hwb : w2.alloc _ = w3
      replace H := HS.eqW hwb H.alloc
      try simp only [World.size_alloc, List.nil_append, List.cons_append, List.append_assoc] at H
      clear hwb
      generalize w2.heap.size = bR at H ⊢
      try clear C
      try clear w2
      have C := H.cells
      try simp only [cellsOf, cellsM, apartOf, apartM, and_true] at C
      have c0 : w3.cell? ⟨b, o + k * 2, none⟩ = some (.int .i64 5) := (H.was (p := ⟨b, o + k * 2, none⟩) HB.out id).trans HC0.out
      go_wp2_with fail
      refine bodyPost_ret (by simp [results, Tryz.results15, go_sem, C]; try rfl) rfl ?_
      exact givesD_nil H 0
    have h5b : (s == 5) = false := beq_eq_false_iff_ne.2 h5
    rw [if_neg h5] at hRS
    by_cases h0 : s = 0
    · subst h0
      have HR := Lib.hid (show R = (0, [⟨1, k, 0, 0, 0⟩]) by rw [hRS]; try (rfl))
      clear hRS
      rw [HR.out]
      go_enter Tryz.func15, Tryz.ntmps15
      have H := HS.start NoD w
      go_wp2_with fail
      refine (HV.out).mono ?_
      rintro _ w1 ⟨rfl, hb⟩
      replace H := H.below hb
      clear hb
      try clear C
      try simp only [World.size_alloc, List.nil_append, List.cons_append, List.append_assoc] at H
      have C := H.cells
      try simp only [cellsOf, cellsM, apartOf, apartM, and_true] at C
      dsimp only
      go_wp2_with fail
      refine (HFT.out _ (H.liesUp HL.out)).mono ?_
      rintro _ w2 ⟨rfl, hb⟩
      replace H := H.below hb
      clear hb
      try clear C
      try simp only [World.size_alloc, List.nil_append, List.cons_append, List.append_assoc] at H
      try clear w1
      have C := H.cells
      try simp only [cellsOf, cellsM, apartOf, apartM, and_true] at C
      dsimp only
      have c0 : w2.cell? ⟨b, o + k * 2, none⟩ = some (.int .i64 0) := (H.was (p := ⟨b, o + k * 2, none⟩) HB.out id).trans HC0.out
      go_upto_region 8 with fail
      clear c0
      generalize hwb : w2.alloc _ = w3
      replace H := HS.eqW hwb H.alloc
      try simp only [World.size_alloc, List.nil_append, List.cons_append, List.append_assoc] at H
      clear hwb
      generalize w2.heap.size = bR at H ⊢
      try clear C
      try clear w2
      have C := H.cells
      try simp only [cellsOf, cellsM, apartOf, apartM, and_true] at C
      have c0 : w3.cell? ⟨b, o + k * 2, none⟩ = some (.int .i64 0) := (H.was (p := ⟨b, o + k * 2, none⟩) HB.out id).trans HC0.out
      go_wp2_with fail
      refine bodyPost_ret (by simp [results, Tryz.results15, go_sem, C]; try rfl) rfl ?_
      exact givesD_lit H.alloc 1 _ rfl (by simp) rfl
    have h0b : (s == 0) = false := beq_eq_false_iff_ne.2 h0
    rw [if_neg h0] at hRS
    by_cases h4 : s = 4
    · subst h4
      have HR := Lib.hid (show R = (0, [⟨6, k, 0, 0, 0⟩]) by rw [hRS]; try (rw [if_pos (.inl rfl)]))
      clear hRS
      rw [HR.out]
      go_enter Tryz.func15, Tryz.ntmps15
      have H := HS.start NoD w
      go_wp2_with fail
      refine (HV.out).mono ?_
      rintro _ w1 ⟨rfl, hb⟩
      replace H := H.below hb
      clear hb
      try clear C
      try simp only [World.size_alloc, List.nil_append, List.cons_append, List.append_assoc] at H
      have C := H.cells
      try simp only [cellsOf, cellsM, apartOf, apartM, and_true] at C
      dsimp only
      go_wp2_with fail
      refine (HFT.out _ (H.liesUp HL.out)).mono ?_
      rintro _ w2 ⟨rfl, hb⟩
      replace H := H.below hb
      clear hb
      try clear C
      try simp only [World.size_alloc, List.nil_append, List.cons_append, List.append_assoc] at H
      try clear w1
      have C := H.cells
      try simp only [cellsOf, cellsM, apartOf, apartM, and_true] at C
      dsimp only
      have c0 : w2.cell? ⟨b, o + k * 2, none⟩ = some (.int .i64 4) := (H.was (p := ⟨b, o + k * 2, none⟩) HB.out id).trans HC0.out
      go_upto_region 8 with fail
      clear c0
      generalize hwb : w2.alloc _ = w3
      replace H := HS.eqW hwb H.alloc
      try simp only [World.size_alloc, List.nil_append, List.cons_append, List.append_assoc] at H
      clear hwb
      generalize w2.heap.size = bR at H ⊢
      try clear C
      try clear w2
      have C := H.cells
      try simp only [cellsOf, cellsM, apartOf, apartM, and_true] at C
      have c0 : w3.cell? ⟨b, o + k * 2, none⟩ = some (.int .i64 4) := (H.was (p := ⟨b, o + k * 2, none⟩) HB.out id).trans HC0.out
      go_wp2_with fail
      refine bodyPost_ret (by simp [results, Tryz.results15, go_sem, C]; try rfl) rfl ?_
      exact givesD_lit H.alloc 1 _ rfl (by simp) rfl
    have h4b : (s == 4) = false := beq_eq_false_iff_ne.2 h4
    by_cases h3 : s = 3
    · subst h3
      have HR := Lib.hid (show R = (0, [⟨3, k, tq, 0, 0⟩, ⟨1, k, 0, 0, 0⟩]) by rw [hRS]; try (rw [if_neg (fun h => h.elim (by decide) (fun h => ht h.2)), if_pos rfl]))
      clear hRS
      rw [HR.out]
      go_enter Tryz.func15, Tryz.ntmps15
      have H := HS.start NoD w
      go_wp2_with fail
      refine (HV.out).mono ?_
      rintro _ w1 ⟨rfl, hb⟩
      replace H := H.below hb
      clear hb
      try clear C
      try simp only [World.size_alloc, List.nil_append, List.cons_append, List.append_assoc] at H
      have C := H.cells
      try simp only [cellsOf, cellsM, apartOf, apartM, and_true] at C
      dsimp only
      go_wp2_with fail
      refine (HFT.out _ (H.liesUp HL.out)).mono ?_
      rintro _ w2 ⟨rfl, hb⟩
      replace H := H.below hb
      clear hb
      try clear C
      try simp only [World.size_alloc, List.nil_append, List.cons_append, List.append_assoc] at H
      try clear w1
      have C := H.cells
      try simp only [cellsOf, cellsM, apartOf, apartM, and_true] at C
      dsimp only
      have c0 : w2.cell? ⟨b, o + k * 2, none⟩ = some (.int .i64 3) := (H.was (p := ⟨b, o + k * 2, none⟩) HB.out id).trans HC0.out
      go_upto_region 8 with fail
      clear c0
      generalize hwb : w2.alloc _ = w3
      replace H := HS.eqW hwb H.alloc
      try simp only [World.size_alloc, List.nil_append, List.cons_append, List.append_assoc] at H
      clear hwb
      generalize w2.heap.size = bR at H ⊢
      try clear C
      try clear w2
      have C := H.cells
      try simp only [cellsOf, cellsM, apartOf, apartM, and_true] at C
      have c0 : w3.cell? ⟨b, o + k * 2, none⟩ = some (.int .i64 3) := (H.was (p := ⟨b, o + k * 2, none⟩) HB.out id).trans HC0.out
      go_wp2_with fail
      refine bodyPost_ret (by simp [results, Tryz.results15, go_sem, C]; try rfl) rfl ?_
      exact givesD_lit H.alloc 1 _ rfl (by simp) rfl
    have h3b : (s == 3) = false := beq_eq_false_iff_ne.2 h3
    rw [if_neg (fun h => h.elim h4 (fun h => h3 h.1)), if_neg h3] at hRS
    by_cases h1 : s = 1
    · subst h1
      have HR := Lib.hid (show R = (0, [⟨2, k, tq, 0, 0⟩, ⟨1, k, 0, 0, 0⟩]) by rw [hRS]; try (rw [if_pos ⟨rfl, ht⟩]))
      clear hRS
      rw [HR.out]
      go_enter Tryz.func15, Tryz.ntmps15
      have H := HS.start NoD w
      go_wp2_with fail
      refine (HV.out).mono ?_
      rintro _ w1 ⟨rfl, hb⟩
      replace H := H.below hb
      clear hb
      try clear C
      try simp only [World.size_alloc, List.nil_append, List.cons_append, List.append_assoc] at H
      have C := H.cells
      try simp only [cellsOf, cellsM, apartOf, apartM, and_true] at C
      dsimp only
      go_wp2_with fail
      refine (HFT.out _ (H.liesUp HL.out)).mono ?_
      rintro _ w2 ⟨rfl, hb⟩
      replace H := H.below hb
      clear hb
      try clear C
      try simp only [World.size_alloc, List.nil_append, List.cons_append, List.append_assoc] at H
      try clear w1
      have C := H.cells
      try simp only [cellsOf, cellsM, apartOf, apartM, and_true] at C
      dsimp only
      have c0 : w2.cell? ⟨b, o + k * 2, none⟩ = some (.int .i64 1) := (H.was (p := ⟨b, o + k * 2, none⟩) HB.out id).trans HC0.out
      go_upto_region 8 with fail
      clear c0
      generalize hwb : w2.alloc _ = w3
      replace H := HS.eqW hwb H.alloc
      try simp only [World.size_alloc, List.nil_append, List.cons_append, List.append_assoc] at H
      clear hwb
      generalize w2.heap.size = bR at H ⊢
      try clear C
      try clear w2
      have C := H.cells
      try simp only [cellsOf, cellsM, apartOf, apartM, and_true] at C
      have c0 : w3.cell? ⟨b, o + k * 2, none⟩ = some (.int .i64 1) := (H.was (p := ⟨b, o + k * 2, none⟩) HB.out id).trans HC0.out
      go_wp2_with fail
      refine bodyPost_ret (by simp [results, Tryz.results15, go_sem, C]; try rfl) rfl ?_
      exact givesD_lit H.alloc 1 _ rfl (by simp) rfl
    have h1b : (s == 1) = false := beq_eq_false_iff_ne.2 h1
    rw [if_neg (fun h => h1 h.1)] at hRS
    have HR := Lib.hid (show R = (0, vicP ps k ++ [⟨1, k, 0, 0, 0⟩]) by rw [hRS]; try (rfl))
    clear hRS
    rw [HR.out]
    go_enter Tryz.func15, Tryz.ntmps15
    have H := HS.start NoD w
    go_wp2_with fail
    refine (HV.out).mono ?_
    rintro _ w1 ⟨rfl, hb⟩
    replace H := H.below hb
    clear hb
    try clear C
    try simp only [World.size_alloc, List.nil_append, List.cons_append, List.append_assoc] at H
    have C := H.cells
    try simp only [cellsOf, cellsM, apartOf, apartM, and_true] at C
    dsimp only
    go_wp2_with fail
    refine (HFT.out _ (H.liesUp HL.out)).mono ?_
    rintro _ w2 ⟨rfl, hb⟩
    replace H := H.below hb
    clear hb
    try clear C
    try simp only [World.size_alloc, List.nil_append, List.cons_append, List.append_assoc] at H
    try clear w1
    have C := H.cells
    try simp only [cellsOf, cellsM, apartOf, apartM, and_true] at C
    dsimp only
    have c0 : w2.cell? ⟨b, o + k * 2, none⟩ = some (.int .i64 s) := (H.was (p := ⟨b, o + k * 2, none⟩) HB.out id).trans HC0.out
    go_upto_region 8 with fail
    clear c0
    generalize hwb : w2.alloc _ = w3
    replace H := HS.eqW hwb H.alloc
    try simp only [World.size_alloc, List.nil_append, List.cons_append, List.append_assoc] at H
    clear hwb
    generalize w2.heap.size = bR at H ⊢
    try clear C
    try clear w2
    have C := H.cells
    try simp only [cellsOf, cellsM, apartOf, apartM, and_true] at C
    have c0 : w3.cell? ⟨b, o + k * 2, none⟩ = some (.int .i64 s) := (H.was (p := ⟨b, o + k * 2, none⟩) HB.out id).trans HC0.out
    go_upto_region 19 with fail
    clear c0
    go_region_law (first
      | (go_simp; go_at_call 35
         first
           | (refine (HVI.out _ (H.drew.psUp HPS.out)).mono ?_; rintro _ wa ⟨s1, d1, rfl, hr, hb1⟩; have H1 := (H.drew.getsRow hb1 hr).alloc (cs := #[.int .i64 1, .int .i64 k, .int .i64 0, .int .i64 0, .int .i64 0]) (t := 24); have C1 := (H.drew.getsRow hb1 hr).cells)
           | (refine (HVI.out _ (H.drew.alloc.psUp HPS.out)).mono ?_; rintro _ wa ⟨s1, d1, rfl, hr, hb1⟩; have H1 := H.drew.alloc.getsRow hb1 hr; have C1 := H1.cells)
         simp only [List.nil_append, List.cons_append, List.append_assoc, cellsOf, cellsM, apartOf, apartM, and_true] at H1 C1; clear hr hb1)
      | (skip; (first
           | refine step_append_src (hgd := rfl) (s := .tmp 91) (x := .tmp 93) (t := 39) (ho := rfl) (hE := elemDd) (H := H1) (k := 1) (hk := rfl) (hs := rfl) (m := 1) (c := 1) (news := [.int .i64 1, .int .i64 k, .int .i64 0, .int .i64 0, .int .i64 0]) (hx := by first | rfl | (simp [Act.eval, Act.put]; done) | (simp [Act.eval, Act.put]; rfl)) (hsrc := .inr ⟨_, rfl, World.news_of_block (H1.at 2 rfl)⟩) (hl := rfl) (h1 := fun y hy => by simp only [List.mem_cons, List.mem_nil_iff, or_false] at hy; rcases hy with rfl | rfl | rfl | rfl | rfl <;> rfl) (h63 := by unfold maxLen; omega) (hbytes := by omega) (N := (vicP ps k).length + 1) (hN := rfl) (h := fun s2 c2 wb H2 hg2 => ?_)
           | refine step_append_src (hgd := rfl) (s := .tmp 91) (x := .tmp 93) (t := 39) (ho := rfl) (hE := elemDd) (H := H1) (k := 2) (hk := rfl) (hs := rfl) (m := 1) (c := 1) (news := [.int .i64 1, .int .i64 k, .int .i64 0, .int .i64 0, .int .i64 0]) (hx := by first | rfl | (simp [Act.eval, Act.put]; done) | (simp [Act.eval, Act.put]; rfl)) (hsrc := .inr ⟨_, rfl, World.news_of_block (H1.at 1 rfl)⟩) (hl := rfl) (h1 := fun y hy => by simp only [List.mem_cons, List.mem_nil_iff, or_false] at hy; rcases hy with rfl | rfl | rfl | rfl | rfl <;> rfl) (h63 := by unfold maxLen; omega) (hbytes := by omega) (N := (vicP ps k).length + 1) (hN := rfl) (h := fun s2 c2 wb H2 hg2 => ?_))))
    all_goals
      go_wp2_with fail
      refine bodyPost_ret (by simp [results, Tryz.results15, go_sem, C]; try rfl) rfl ?_
      first
        | exact givesD_app H2 1 rfl
        | exact givesD_app H2 2 rfl
end Go.Proofs.YtedbpmckgiifpaaGreat
