/- mill.Store; stores as lists: plain words. -/
import Derived.Test.YtheccfiidollpaaRlJ
namespace Go.Proofs.Ytheccfiidollpaa
set_option linter.unusedSimpArgs false
set_option linter.unusedVariables false
open Go.RowKit
set_option maxRecDepth 100000
attribute [local irreducible] wpX wpF Calls

theorem GoodS.nil (size : Nat) : GoodS size [] := ⟨fun i hi => absurd hi (Nat.not_lt_zero _), fun i hi => absurd hi (Nat.not_lt_zero _)⟩
theorem GoodS.snoc {size : Nat} {l : List Bm} (h : GoodS size l) {b : Bm} (hb : GoodB size b) (hlt : ∀ i, i < l.length → (l[i]!).id < b.id) : GoodS size (l ++ [b]) := by
  refine ⟨fun i hi => ?_, fun i hi => ?_⟩
  · rw [List.length_append] at hi
    by_cases e : i < l.length
    · rw [app_get1 e]; exact h.good i e
    · obtain rfl : i = l.length := by simp at hi; omega
      rw [app_get2]; exact hb
  · rw [List.length_append] at hi
    simp at hi
    by_cases e : i + 1 < l.length
    · rw [app_get1 (by omega), app_get1 e]; exact h.asc i e
    · have hli : l.length = i + 1 := by omega
      rw [app_get1 (by omega)]
      have := app_get2 l b
      rw [show l.length = i + 1 by omega] at this
      rw [this]; exact hlt i (by omega)
/-- A store behind a put. -/
theorem GoodS.put {size : Nat} {l : List Bm} (h : GoodS size l) {b : Bm} (hb : GoodB size b) {i : Nat} (hp : PosOf l b.id i) : GoodS size (putAt l i b) := by
  unfold putAt
  split
  · rename_i hex
    obtain ⟨hi, he⟩ := hex
    refine ⟨fun k hk => ?_, fun k hk => ?_⟩
    · rw [List.length_set] at hk
      rw [set_get _ _ _ _ hk]
      split
      · exact hb
      · exact h.good k hk
    · rw [List.length_set] at hk
      rw [set_get _ _ _ _ (by omega), set_get _ _ _ _ hk]
      have h1 := h.asc k hk
      by_cases e1 : k = i
      · subst e1; rw [if_pos rfl, if_neg (by omega), ← he]; exact h1
      · rw [if_neg e1]
        by_cases e2 : k + 1 = i
        · subst e2; rw [if_pos rfl, ← he]; exact h1
        · rw [if_neg e2]; exact h1
  · rename_i hex
    have hi := hp.le
    refine ⟨fun k hk => ?_, fun k hk => ?_⟩
    · rw [ins_len _ _ hi] at hk
      rw [ins_get _ _ hi k hk]
      split
      · exact h.good k (by omega)
      · split
        · exact hb
        · exact h.good (k - 1) (by omega)
    · rw [ins_len _ _ hi] at hk
      rw [ins_get _ _ hi k (by omega), ins_get _ _ hi (k + 1) (by omega)]
      by_cases e1 : k + 1 < i
      · rw [if_pos (by omega), if_pos e1]; exact h.asc k (by omega)
      · rw [if_neg e1]
        by_cases e2 : k + 1 = i
        · rw [if_pos (by omega), if_pos e2]; exact hp.low k (by omega)
        · rw [if_neg e2, if_neg (by omega)]
          by_cases e3 : k = i
          · subst e3
            rw [if_pos rfl, show k + 1 - 1 = k by omega]
            have h1 := hp.high k (Nat.le_refl _) (by omega)
            have h2 : ¬ (l[k]!).id = b.id := fun e => hex ⟨by omega, e⟩
            omega
          · rw [if_neg e3]
            have := h.asc (k - 1) (by omega)
            rwa [show k - 1 + 1 = k + 1 - 1 by omega] at this
theorem putAt_new {l : List Bm} {i : Nat} {b : Bm} (hi : i ≤ l.length) (hn : ∀ k, k < l.length → (l[k]!).id ≠ b.id) : (putAt l i b).length = l.length + 1 := by
  unfold putAt
  rw [if_neg (fun h => hn i h.1 h.2), ins_len _ _ hi]
/-- A full store has all numbers. -/
theorem full_len {size : Nat} {l : List Bm} (h : GoodS size l) (hu : UnusedIs l 0) : l.length = 64 := by
  have key : ∀ k : Nat, k < 64 → ∃ i, k ≤ i ∧ i < l.length ∧ (l[i]!).id = (k : Int) + 1 := by
    intro k
    induction k with
    | zero => intro _; obtain ⟨i, hi, e⟩ := hu.2 1 (by omega) (by omega) (.inr rfl); exact ⟨i, by omega, hi, by rw [e]; rfl⟩
    | succ k ih =>
      intro hk
      obtain ⟨i, h1, h2, h3⟩ := ih (by omega)
      obtain ⟨j, hj, e⟩ := hu.2 ((k : Int) + 2) (by omega) (by omega) (.inr rfl)
      refine ⟨j, ?_, hj, by rw [e]; omega⟩
      have : i < j := by
        refine Nat.lt_of_not_le fun hle => ?_
        have := h.lt (i - j) j (by omega)
        rw [show j + (i - j) = i by omega] at this
        omega
      omega
  obtain ⟨i, h1, h2, -⟩ := key 63 (by omega)
  have := h.len
  omega
/-- A store drawn from a stream. -/
def GivesStoreD (size : Nat) (B b : Nat) (w : World) (e : Ending) (w' : World) : Prop :=
  ∃ (l : List Bm) (s : Option Addr) (c : Nat) (qs : List Bv) (F : Nat → Prop), GoodS size l ∧ qs.length = l.length ∧ e = .returned (.slice s l.length c) ∧ HS (OneD b) w [.dice B b, rowB s l.length c qs, anyB F qs l] w'
set_option maxHeartbeats 8000000 in
theorem mstore_any (size : Nat) (hsz : size ≤ 32) (B b : Nat) (w : World) (hd : Dice B w b) (hB : B ≤ w.heap.size) :
    Calls Try.prog 8 #[.pointer (some ⟨b, 0, none⟩), .int .i64 size] w (GivesStoreD size B b w) := by
  have HBL := Lib.hid (fun w hd hB => mblob_any size hsz B b w hd hB)
  have HBB := Lib.hid hB
  go_enter Try.func8, Try.ntmps8
  have H := HS.startDice hd hB
  have C := H.cells
  try simp only [cellsOf, cellsM, apartOf, apartM, and_true] at C
  clear hd
  have hn1 := (H.nilRow 32 2).anyNil
  clear H
  have H := hn1
  clear hn1
  simp only [List.nil_append, List.cons_append] at H
  try clear C
  try simp only [World.size_alloc, List.nil_append, List.cons_append, List.append_assoc] at H
  have C := H.cells
  try simp only [cellsOf, cellsM, apartOf, apartM, and_true] at C
  go_wp2_with fail
  go_loopw [5, 6] (fun u kk wr => ∃ (k : Nat) (l : List Bm) (s : Option Addr) (c : Nat) (qs : List Bv) (F : Nat → Prop), kk = .int .i64 k ∧ 1 ≤ k ∧ k ≤ 7 ∧ u = .slice s l.length c ∧ qs.length = l.length ∧ Hid (GoodS size l) ∧ Hid (∀ i, i < l.length → (l[i]!).id < k) ∧ HS (OneD b) w [.dice B b, rowB s l.length c qs, anyB F qs l] wr) (fun _ kk _ => 7 - (intOf kk).toNat)
  case atStart => exact ⟨1, [], none, 0, [], fun _ => False, rfl, by omega, by omega, rfl, rfl, GoodS.nil _, (show Hid _ from fun i hi => absurd hi (Nat.not_lt_zero _)), HS.weak (L := [_, _]) H (fun _ _ i hi => absurd hi (Nat.not_lt_zero _))⟩
  case round =>
    clear H C
    obtain ⟨k, l, s, c, qs, F, rfl, hk1, hk2, rfl, hql, HG, HLT, H⟩ := hrel
    skip
    try clear C
    try simp only [World.size_alloc, List.nil_append, List.cons_append, List.append_assoc] at H
    have C := H.cells
    try simp only [cellsOf, cellsM, apartOf, apartM, and_true] at C
    skip
    by_cases hlt : k ≤ 6
    · have hki : (k : Int) ≤ 6 := by omega
      have HQL := Lib.hid hql
      have hl64 := HG.out.len
      clear hql
      go_wp2_with fail
      refine (next_any 2 (by omega) B b _ (H.at 0 rfl)).mono ?_
      rintro _ w1 ⟨v0, rfl, hv0, hd, hg⟩
      replace H := (H).diceAt 0 rfl hg hd
      clear hg hd
      try clear C
      try simp only [World.size_alloc, List.nil_append, List.cons_append, List.append_assoc] at H
      try clear wr
      have C := H.cells
      try simp only [cellsOf, cellsM, apartOf, apartM, and_true] at C
      dsimp only
      clear hv0
      skip
      by_cases h0 : v0 = 0
      · subst h0
        go_wp2_with fail
        refine (HBL.out _ (H.at 0 rfl) (Nat.le_trans HBB.out H.size)).mono ?_
        rintro _ w4 ⟨q, bm, G, rfl, hid1, hid6, hgb, K⟩
        replace H := HS.joinDice H 0 rfl K (one_low rfl)
        clear K
        try simp only [List.nil_append, List.cons_append] at H
        obtain ⟨qi, qa, qn, qc⟩ := q
        have HGB := Lib.hid hgb
        clear hid1 hid6 hgb
        skip
        try clear C
        try simp only [World.size_alloc, List.nil_append, List.cons_append, List.append_assoc] at H
        have C := H.cells
        try simp only [cellsOf, cellsM, apartOf, apartM, and_true] at C
        dsimp only [vBv]
        go_upto_region 7 with fail
        generalize hwb : w4.alloc _ = w2
        replace H := HS.eqW hwb H.alloc
        try simp only [World.size_alloc, List.nil_append, List.cons_append, List.append_assoc] at H
        clear hwb
        generalize w4.heap.size = bX at H ⊢
        try clear C
        try clear w4
        have C := H.cells
        try simp only [cellsOf, cellsM, apartOf, apartM, and_true] at C
        go_upto_region 8 with fail
        generalize hwb : World.setCell _ _ _ = w5
        replace H := HS.eqW hwb (H.setTo (o := 0) (v := .int .i64 k) 4 rfl rfl)
        clear hwb
        simp only [List.set_cons_succ, List.set_cons_zero] at H
        skip
        try clear C
        try simp only [World.size_alloc, List.nil_append, List.cons_append, List.append_assoc] at H
        have C := H.cells
        try simp only [cellsOf, cellsM, apartOf, apartM, and_true] at C
        have HBV := Lib.hid (fun (q : Nat) => show qs.flatMap bvC ++ [.int .i64 k, .slice qa qn qc] = (qs ++ [(⟨k, ⟨qa, qn, qc⟩⟩ : Bv)]).flatMap bvC by rw [List.flatMap_append]; rfl)
        go_upto_region 4 with (at_builtin; refine wpList_append_H rfl (.tmp 20) (.tmp 22) 27 rfl elemBb H.alloc 1 rfl rfl 5 rfl rfl rfl rfl (by decide) (by unfold maxLen; omega) (by omega) (fun g1 d1 wz HZ => ?_); clear H C)
        simp only [List.nil_append, List.cons_append, List.append_assoc, List.set_cons_succ, List.set_cons_zero] at HZ
        have H8 := HS.less (L' := [_, _, _, _]) HZ (by repeat (first | exact .slnil | refine .cons_cons _ ?_ | refine .cons _ ?_))
        clear HZ
        have H7 := HS.merge (L := [_, _]) H8
        have hbg : GoodB size ⟨k, bm.ws⟩ := ⟨by dsimp only; omega, by dsimp only; omega, HGB.out.2.2.1, HGB.out.2.2.2⟩
        have hG2 := Lib.hid (HG.out.snoc hbg HLT.out)
        have hL2 := Lib.hid (show ∀ i, i < (l ++ [(⟨k, bm.ws⟩ : Bm)]).length → ((l ++ [(⟨k, bm.ws⟩ : Bm)])[i]!).id < ((k + 1 : Nat) : Int) from fun i hi => by
          rw [List.length_append] at hi
          simp at hi
          by_cases e : i < l.length
          · rw [app_get1 e]; have := HLT.out i e; omega
          · obtain rfl : i = l.length := by omega
            rw [app_get2]; dsimp only; omega)
        have H6 := HS.weak (L := [_, _]) H7 (K' := fun w => ∀ i, i < (l ++ [(⟨k, bm.ws⟩ : Bm)]).length → BlobAt w (qs ++ [(⟨k, ⟨qa, qn, qc⟩⟩ : Bv)])[i]! (l ++ [(⟨k, bm.ws⟩ : Bm)])[i]!) (fun w' ⟨a1, a2⟩ i hi => by
          rw [List.length_append] at hi
          simp at hi
          by_cases e : i < l.length
          · rw [app_get1 (by rw [HQL.out]; exact e), app_get1 e]; exact a1 i e
          · obtain rfl : i = l.length := by omega
            have e1 := app_get2 qs (⟨k, ⟨qa, qn, qc⟩⟩ : Bv)
            rw [HQL.out] at e1
            rw [e1, app_get2]
            exact ⟨rfl, a2.2⟩)
        have hbv := HBV.out 0
        have hll : l.length + 1 = (l ++ [(⟨k, bm.ws⟩ : Bm)]).length := by simp
        obtain ⟨F6, H6⟩ : ∃ F6, HS (OneD b) w [.dice B b, rowB (some ⟨g1, 0, none⟩) (l.length + 1) d1 (qs ++ [(⟨k, ⟨qa, qn, qc⟩⟩ : Bv)]), anyB F6 (qs ++ [(⟨k, ⟨qa, qn, qc⟩⟩ : Bv)]) (l ++ [(⟨k, bm.ws⟩ : Bm)])] wz := ⟨_, by unfold rowB; rw [← hbv]; exact H6⟩
        clear H7 H8 hbv
        rw [hll] at H6
        have H6 := Lib.hid H6
        clear hll
        go_wp2_with fail
        go_roundw
        case rel => exact ⟨k + 1, l ++ [(⟨k, bm.ws⟩ : Bm)], some ⟨g1, 0, none⟩, d1, qs ++ [(⟨k, ⟨qa, qn, qc⟩⟩ : Bv)], F6, by go_num, by omega, by omega, by simp, by rw [List.length_append, List.length_append, HQL.out]; rfl, hG2, hL2, H6.out⟩
        case measure => simp [intOf]; omega
      · have h0b : (v0 == 0) = false := beq_eq_false_iff_ne.2 h0
        skip
        go_wp2_with fail
        go_roundw
        case rel => exact ⟨k + 1, l, s, c, qs, F, by go_num, by omega, by omega, rfl, HQL.out, HG, (show Hid _ from fun i hi => by have := HLT.out i hi; omega), H⟩
        case measure => simp [intOf]; omega
    · obtain rfl : k = 7 := by omega
      have HQL := Lib.hid hql
      clear hql
      skip
      go_wp2_with fail
      go_ret
      exact ⟨l, s, c, qs, F, HG.out, HQL.out, rfl, H⟩
end Go.Proofs.Ytheccfiidollpaa
