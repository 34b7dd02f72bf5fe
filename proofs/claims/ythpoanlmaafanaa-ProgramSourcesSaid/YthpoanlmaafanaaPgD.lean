/- program.state.do: an operation is carried out. -/
import Derived.Test.YthpoanlmaafanaaPgF
import Derived.Test.YthpoanlmaafanaaPgM
namespace Go.Proofs.Ythpoanlmaafanaa
set_option linter.unusedSimpArgs false
set_option linter.unusedVariables false
open Go.RowKit
set_option maxRecDepth 100000
attribute [local go_sem] run_mkMapG
attribute [local irreducible] wpX wpF Calls

/-- A call that turns a map of one's own. -/
theorem HS.mapAt {D : Nat → Prop} {W w w' : World} {L : List Item} (h : HS D W L w) (i : Nat) {b : Nat} {es : Array MapEntry} {clock : Nat} (hi : L[i]? = some (.obj b (.map es clock))) {f : PgF} (hg : Chg b w w') (hm : MapAt w' b f) : ∃ es' clock' M', HS D W (L.set i (.obj b (.map es' clock'))) w' ∧ MapG kU es' clock' M' ∧ ∀ x, getG x M' = (f x).map vQ := by
  obtain ⟨es', clock', M', h1, h2, h3⟩ := hm
  refine ⟨es', clock', M', ?_, h2, h3⟩
  rw [set_at _ hi]
  rw [split_at hi] at h
  exact h.swap (X := .obj b (.map es clock)) (Y := .obj b (.map es' clock')) hg.os hg.tape hg.output hg.size (fun k hk hn => hg.block k hk hn) h1 (fun k hk => .inl hk) (.inr rfl)
theorem doF_no {i : Int} {x : Ox} {f : PgF} (h : meansO x = false) : doF i x f = f := by unfold doF; rw [if_pos h]
theorem means_k {x : Ox} (h : meansO x = true) : x.k = 1 ∧ 0 ≤ x.w ∧ x.w ≤ 3 ∨ x.k = 2 ∧ 0 ≤ x.w ∧ x.w ≤ 3 ∨ x.k = 3 ∨ x.k = 4 ∧ x.o ≠ x.p ∨ x.k = 5 ∨ x.k = 6 := by
  unfold meansO validO at h
  simp only [Bool.and_eq_true] at h
  obtain ⟨-, h⟩ := h
  by_cases k1 : x.k = 1
  · rw [if_pos k1] at h
    simp only [Bool.and_eq_true, inB_t] at h
    exact .inl ⟨k1, h.1.1.1, h.1.1.2⟩
  rw [if_neg k1] at h
  by_cases k2 : x.k = 2
  · rw [if_pos k2] at h
    simp only [Bool.and_eq_true, inB_t] at h
    exact .inr (.inl ⟨k2, h.1.1.1, h.1.1.2⟩)
  rw [if_neg k2] at h
  by_cases k3 : x.k = 3 ∨ x.k = 5 ∨ x.k = 6
  · rcases k3 with k3 | k3 | k3
    · exact .inr (.inr (.inl k3))
    · exact .inr (.inr (.inr (.inr (.inl k3))))
    · exact .inr (.inr (.inr (.inr (.inr k3))))
  rw [if_neg k3] at h
  by_cases k4 : x.k = 4
  · rw [if_pos k4] at h
    simp only [Bool.and_eq_true, Bool.not_eq_true', decide_eq_false_iff_not] at h
    exact .inr (.inr (.inr (.inl ⟨k4, h.1.1.1.2⟩)))
  rw [if_neg k4] at h
  cases h
set_option maxHeartbeats 8000000 in
theorem do_any {b : Nat} {f : PgF} (i : Int) (x : Ox) (w : World) (hm : MapAt w b f) :
    Calls Try.prog 23 #[.map (some b), .int .i64 i, vOx x] w (fun e w' => e = .returned (.tuple #[]) ∧ MapAt w' b (doF i x f) ∧ Chg b w w') := by
  obtain ⟨es, clock, M, hb, hM, hf⟩ := hm
  have HME := Lib.hid (fun w => means_any x w)
  have HFK := Lib.hid (fun b f hne w hm => fork_any (b := b) (f := f) x hne w hm)
  obtain ⟨g, hg⟩ : ∃ g, g = doF i x f := ⟨_, rfl⟩
  rw [← hg]
  have HNO := Lib.hid (fun h => hg.trans (doF_no h))
  have HDO := Lib.hid (fun (h : meansO x = true) => hg.trans (show doF i x f = _ by unfold doF; rw [if_neg (by rw [h]; decide)]))
  have HMK := Lib.hid (fun h => means_k (x := x) h)
  clear hg
  generalize hmb : meansO x = mb at HME
  have HMB := Lib.hid hmb
  clear hmb
  obtain ⟨xk, xp, xg, xw, xo, sa, n, c⟩ := x
  dsimp only at HDO HMK
  have HM := Lib.hid hM
  have HF := Lib.hid hf
  clear hM hf
  have HT : Try.prog.underlying 51 = some (.map 40 54) := by kernel_rfl
  have HE : ∀ w, (zeroValue 54).run Try.prog w = .ok (.agg #[.int .i64 0, .int .i64 0, .int .i64 0, .int .i64 0]) w := fun w => by rfl
  obtain ⟨q0, q1, q2, q3, ok, hqv, hqo, hqf⟩ : ∃ q0 q1 q2 q3 ok, (getG (xp, xg) M).getD (.agg #[.int .i64 0, .int .i64 0, .int .i64 0, .int .i64 0]) = .agg #[.int .i64 q0, .int .i64 q1, .int .i64 q2, .int .i64 q3] ∧ (getG (xp, xg) M).isSome = ok ∧ f (xp, xg) = if ok = true then some ⟨q0, q1, q2, q3⟩ else none := by
    have h1 := HF.out (xp, xg)
    cases hq : f (xp, xg) with
    | none => rw [hq] at h1; rw [h1]; exact ⟨0, 0, 0, 0, false, rfl, rfl, rfl⟩
    | some q => rw [hq] at h1; rw [h1]; obtain ⟨q0, q1, q2, q3⟩ := q; exact ⟨q0, q1, q2, q3, true, rfl, rfl, rfl⟩
  have HQV := Lib.hid hqv
  have HQO := Lib.hid hqo
  have HQF := Lib.hid hqf
  clear hqv hqo hqf
  show Calls Try.prog 23 #[.map (some b), .int .i64 i, .agg #[.int .i64 xk, .int .i64 xp, .int .i64 xg, .int .i64 xw, .int .i64 xo, .slice sa n c]] w _
  go_enter Try.func23, Try.ntmps23
  have H := HS.start NoD w
  clear H
  have H := HS.startObj hb
  clear hb
  have C := H.cells
  simp only [cellsOf, cellsM, apartOf, apartM, and_true] at C
  go_upto_region 2 with fail
  generalize hwb : (w.alloc _).alloc _ = w1
  replace H := HS.eqW hwb H.alloc.alloc
  try simp only [World.size_alloc, List.nil_append, List.cons_append, List.append_assoc] at H
  clear hwb
  generalize w.heap.size + 1 = bU at H ⊢
  generalize w.heap.size = bX at H ⊢
  try clear C
  have C := H.cells
  try simp only [cellsOf, cellsM, apartOf, apartM, and_true] at C
  go_upto_region 3 with (at_lookup; refine wpList_lookup_G rfl (.tmp 16) (.tmp 17) rfl HT keyU HE H 0 rfl HM.out rfl (n := (xp, xg)) rfl HQV.out HQO.out ?_)
  generalize hwb : w1.alloc _ = w2
  replace H := HS.eqW hwb H.alloc
  try simp only [World.size_alloc, List.nil_append, List.cons_append, List.append_assoc] at H
  clear hwb
  generalize w1.heap.size = bF at H ⊢
  try clear C
  try clear w1
  have C := H.cells
  try simp only [cellsOf, cellsM, apartOf, apartM, and_true] at C
  go_wp2_with fail
  refine (HME.out _).mono ?_
  rintro _ w3 ⟨rfl, hb⟩
  replace H := H.below hb
  clear hb
  try clear C
  try simp only [World.size_alloc, List.nil_append, List.cons_append, List.append_assoc] at H
  try clear w2
  have C := H.cells
  try simp only [cellsOf, cellsM, apartOf, apartM, and_true] at C
  dsimp only
  clear HME
  skip
  cases mb with
  | false =>
    have HG := Lib.hid (HNO.out HMB.out)
    go_wp2_with fail
    go_end0
    exact ⟨rfl, ⟨es, clock, M, H.at 0 rfl, HM.out, by rw [HG.out]; exact HF.out⟩, H.doneDice⟩
  | true =>
    have HG := Lib.hid (HDO.out HMB.out)
    have hkk := HMK.out HMB.out
    clear HNO HDO HMK
    rcases hkk with ⟨kk, -, -⟩ | ⟨kk, hw0, hw3⟩ | kk | ⟨kk, hne⟩ | kk | kk
    · subst kk
      skip
      go_wp2_with fail
      go_end0
      exact ⟨rfl, ⟨es, clock, M, H.at 0 rfl, HM.out, by rw [HG.out]; exact HF.out⟩, H.doneDice⟩
    · subst kk
      skip
      cases ok with
      | false =>
        go_wp2_with fail
        go_end0
        refine ⟨rfl, ⟨es, clock, M, H.at 0 rfl, HM.out, fun y => ?_⟩, H.doneDice⟩
        rw [HG.out, HF.out]
        show _ = Option.map vQ (if y = (xp, xg) then (f (xp, xg)).map (fun q => q.put xw i) else f y)
        by_cases hy : y = (xp, xg)
        · rw [if_pos hy, hy, HQF.out]; rfl
        · rw [if_neg hy]
      | true =>
        skip
        have hw : xw = 0 ∨ xw = 1 ∨ xw = 2 ∨ xw = 3 := by omega
        clear hw0 hw3
        rcases hw with hw | hw | hw | hw
        · subst hw
          skip
          go_upto_region 15 with fail
          generalize hwb : World.setCell _ _ _ = w9
          replace H := HS.eqW hwb (H.setTo 3 rfl rfl)
          clear hwb
          simp only [List.set_cons_succ, List.set_cons_zero] at H
          skip
          try clear C
          try simp only [World.size_alloc, List.nil_append, List.cons_append, List.append_assoc] at H
          have C := H.cells
          try simp only [cellsOf, cellsM, apartOf, apartM, and_true] at C
          go_wp2_with (at_mapUpdate; refine wpList_update_G rfl (.tmp 60) (.tmp 61) (.tmp 62) rfl HT keyU H 0 rfl HM.out rfl (n := (xp, xg)) (u := vQ ⟨i, q1, q2, q3⟩) rfl rfl (fun wy es' c' hM' HZ => ?_); clear H C)
          simp only [List.set_cons_succ, List.set_cons_zero] at HZ
          go_end0
          refine ⟨rfl, ⟨es', c', _, HZ.at 0 rfl, hM', fun y => ?_⟩, HZ.doneDice⟩
          rw [getG_put, HG.out]
          show _ = Option.map vQ (if y = (xp, xg) then (f (xp, xg)).map (fun q => q.put 0 i) else f y)
          by_cases hy : y = (xp, xg)
          · rw [if_pos hy, if_pos hy, HQF.out]; rfl
          · rw [if_neg hy, if_neg hy]; exact HF.out y
        · subst hw
          skip
          go_upto_region 15 with fail
          generalize hwb : World.setCell _ _ _ = w9
          replace H := HS.eqW hwb (H.setTo 3 rfl rfl)
          clear hwb
          simp only [List.set_cons_succ, List.set_cons_zero] at H
          skip
          try clear C
          try simp only [World.size_alloc, List.nil_append, List.cons_append, List.append_assoc] at H
          have C := H.cells
          try simp only [cellsOf, cellsM, apartOf, apartM, and_true] at C
          go_wp2_with (at_mapUpdate; refine wpList_update_G rfl (.tmp 60) (.tmp 61) (.tmp 62) rfl HT keyU H 0 rfl HM.out rfl (n := (xp, xg)) (u := vQ ⟨q0, i, q2, q3⟩) rfl rfl (fun wy es' c' hM' HZ => ?_); clear H C)
          simp only [List.set_cons_succ, List.set_cons_zero] at HZ
          go_end0
          refine ⟨rfl, ⟨es', c', _, HZ.at 0 rfl, hM', fun y => ?_⟩, HZ.doneDice⟩
          rw [getG_put, HG.out]
          show _ = Option.map vQ (if y = (xp, xg) then (f (xp, xg)).map (fun q => q.put 1 i) else f y)
          by_cases hy : y = (xp, xg)
          · rw [if_pos hy, if_pos hy, HQF.out]; rfl
          · rw [if_neg hy, if_neg hy]; exact HF.out y
        · subst hw
          skip
          go_upto_region 15 with fail
          generalize hwb : World.setCell _ _ _ = w9
          replace H := HS.eqW hwb (H.setTo 3 rfl rfl)
          clear hwb
          simp only [List.set_cons_succ, List.set_cons_zero] at H
          skip
          try clear C
          try simp only [World.size_alloc, List.nil_append, List.cons_append, List.append_assoc] at H
          have C := H.cells
          try simp only [cellsOf, cellsM, apartOf, apartM, and_true] at C
          go_wp2_with (at_mapUpdate; refine wpList_update_G rfl (.tmp 60) (.tmp 61) (.tmp 62) rfl HT keyU H 0 rfl HM.out rfl (n := (xp, xg)) (u := vQ ⟨q0, q1, i, q3⟩) rfl rfl (fun wy es' c' hM' HZ => ?_); clear H C)
          simp only [List.set_cons_succ, List.set_cons_zero] at HZ
          go_end0
          refine ⟨rfl, ⟨es', c', _, HZ.at 0 rfl, hM', fun y => ?_⟩, HZ.doneDice⟩
          rw [getG_put, HG.out]
          show _ = Option.map vQ (if y = (xp, xg) then (f (xp, xg)).map (fun q => q.put 2 i) else f y)
          by_cases hy : y = (xp, xg)
          · rw [if_pos hy, if_pos hy, HQF.out]; rfl
          · rw [if_neg hy, if_neg hy]; exact HF.out y
        · subst hw
          skip
          go_upto_region 15 with fail
          generalize hwb : World.setCell _ _ _ = w9
          replace H := HS.eqW hwb (H.setTo 3 rfl rfl)
          clear hwb
          simp only [List.set_cons_succ, List.set_cons_zero] at H
          skip
          try clear C
          try simp only [World.size_alloc, List.nil_append, List.cons_append, List.append_assoc] at H
          have C := H.cells
          try simp only [cellsOf, cellsM, apartOf, apartM, and_true] at C
          go_wp2_with (at_mapUpdate; refine wpList_update_G rfl (.tmp 60) (.tmp 61) (.tmp 62) rfl HT keyU H 0 rfl HM.out rfl (n := (xp, xg)) (u := vQ ⟨q0, q1, q2, i⟩) rfl rfl (fun wy es' c' hM' HZ => ?_); clear H C)
          simp only [List.set_cons_succ, List.set_cons_zero] at HZ
          go_end0
          refine ⟨rfl, ⟨es', c', _, HZ.at 0 rfl, hM', fun y => ?_⟩, HZ.doneDice⟩
          rw [getG_put, HG.out]
          show _ = Option.map vQ (if y = (xp, xg) then (f (xp, xg)).map (fun q => q.put 3 i) else f y)
          by_cases hy : y = (xp, xg)
          · rw [if_pos hy, if_pos hy, HQF.out]; rfl
          · rw [if_neg hy, if_neg hy]; exact HF.out y
    · subst kk
      skip
      cases ok with
      | false =>
        go_wp2_with fail
        go_loopw [9, 33] (fun _ jj wr => ∃ (j : Nat) (a0 a1 a2 a3 : Int), jj = .int .i64 j ∧ j ≤ 4 ∧ Hid ((0 < j → a0 = i) ∧ (1 < j → a1 = i) ∧ (2 < j → a2 = i) ∧ (3 < j → a3 = i)) ∧ HS (OneD b) w [.obj b (.map es clock), .blk bX #[.int .i64 3, .int .i64 xp, .int .i64 xg, .int .i64 xw, .int .i64 xo, .slice sa n c] 38, .blk bU #[.int .i64 xp, .int .i64 xg] 40, .blk bF #[.int .i64 a0, .int .i64 a1, .int .i64 a2, .int .i64 a3] 54] wr) (fun _ jj _ => 4 - (intOf jj).toNat)
        case atStart => exact ⟨0, q0, q1, q2, q3, rfl, by omega, ⟨fun h => by omega, fun h => by omega, fun h => by omega, fun h => by omega⟩, H⟩
        case round =>
          clear H C
          obtain ⟨j, a0, a1, a2, a3, rfl, hj, HA, H⟩ := hrel
          skip
          try clear C
          try simp only [World.size_alloc, List.nil_append, List.cons_append, List.append_assoc] at H
          have C := H.cells
          try simp only [cellsOf, cellsM, apartOf, apartM, and_true] at C
          by_cases hlt : j < 4
          · have hj4 : j = 0 ∨ j = 1 ∨ j = 2 ∨ j = 3 := by omega
            rcases hj4 with hj4 | hj4 | hj4 | hj4
            · subst hj4
              go_wp2_with fail
              go_roundw
              case rel => exact ⟨1, i, a1, a2, a3, by go_num, by omega, ⟨fun _ => rfl, fun h => by omega, fun h => by omega, fun h => by omega⟩, H.setTo 3 rfl rfl⟩
              case measure => simp [intOf]
            · subst hj4
              have e0 := Lib.hid (HA.out.1 (by omega))
              go_wp2_with fail
              go_roundw
              case rel => exact ⟨2, a0, i, a2, a3, by go_num, by omega, ⟨fun _ => e0.out, fun _ => rfl, fun h => by omega, fun h => by omega⟩, H.setTo 3 rfl rfl⟩
              case measure => simp [intOf]
            · subst hj4
              have e0 := Lib.hid (HA.out.1 (by omega))
              have e1 := Lib.hid (HA.out.2.1 (by omega))
              go_wp2_with fail
              go_roundw
              case rel => exact ⟨3, a0, a1, i, a3, by go_num, by omega, ⟨fun _ => e0.out, fun _ => e1.out, fun _ => rfl, fun h => by omega⟩, H.setTo 3 rfl rfl⟩
              case measure => simp [intOf]
            · subst hj4
              have e0 := Lib.hid (HA.out.1 (by omega))
              have e1 := Lib.hid (HA.out.2.1 (by omega))
              have e2 := Lib.hid (HA.out.2.2.1 (by omega))
              go_wp2_with fail
              go_roundw
              case rel => exact ⟨4, a0, a1, a2, i, by go_num, by omega, ⟨fun _ => e0.out, fun _ => e1.out, fun _ => e2.out, fun _ => rfl⟩, H.setTo 3 rfl rfl⟩
              case measure => simp [intOf]
          · obtain rfl : j = 4 := by omega
            obtain ⟨e0, e1, e2, e3⟩ := HA.out
            obtain rfl := e0 (by omega)
            obtain rfl := e1 (by omega)
            obtain rfl := e2 (by omega)
            obtain rfl := e3 (by omega)
            clear e0 e1 e2 e3 HA hj hlt
            go_wp2_with (at_mapUpdate; refine wpList_update_G rfl (.tmp 40) (.tmp 41) (.tmp 42) rfl HT keyU H 0 rfl HM.out rfl (n := (xp, xg)) (u := vQ ⟨a3, a3, a3, a3⟩) rfl rfl (fun wy es' c' hM' HZ => ?_); clear H C)
            simp only [List.set_cons_succ, List.set_cons_zero] at HZ
            go_end0
            refine ⟨rfl, ⟨es', c', _, HZ.at 0 rfl, hM', fun y => ?_⟩, HZ.doneDice⟩
            rw [getG_put, HG.out]
            show _ = Option.map vQ (if y = (xp, xg) ∧ f (xp, xg) = none then some ⟨a3, a3, a3, a3⟩ else f y)
            by_cases hy : y = (xp, xg)
            · rw [if_pos hy, if_pos ⟨hy, by rw [HQF.out]; rfl⟩]; rfl
            · rw [if_neg hy, if_neg (fun h => hy h.1)]; exact HF.out y
      | true =>
        skip
        go_wp2_with fail
        go_end0
        refine ⟨rfl, ⟨es, clock, M, H.at 0 rfl, HM.out, fun y => ?_⟩, H.doneDice⟩
        rw [HG.out, HF.out]
        show _ = Option.map vQ (if y = (xp, xg) ∧ f (xp, xg) = none then some ⟨i, i, i, i⟩ else f y)
        rw [if_neg (fun h => by rw [HQF.out] at h; exact absurd h.2 (by simp))]
    · subst kk
      skip
      go_wp2_with fail
      refine (HFK.out b f hne _ ⟨es, clock, M, H.at 0 rfl, HM.out, HF.out⟩).mono ?_
      rintro _ w8 ⟨rfl, hm8, hg8⟩
      obtain ⟨es8, c8, M8, H8, hM8, hf8⟩ := H.mapAt 0 rfl hg8 hm8
      clear H C hm8 hg8
      go_wp2_with fail
      go_end0
      refine ⟨rfl, ⟨es8, c8, M8, H8.at 0 rfl, hM8, fun y => ?_⟩, H8.doneDice⟩
      rw [HG.out]
      exact hf8 y
    · subst kk
      skip
      go_wp2_with (at_delete; refine wpList_delete_G rfl (.tmp 47) (.tmp 48) rfl HT keyU H 0 rfl HM.out rfl (n := (xp, xg)) rfl (fun wy es' hM' hsub HZ => ?_); clear H C)
      simp only [List.set_cons_succ, List.set_cons_zero] at HZ
      go_end0
      refine ⟨rfl, ⟨es', clock, _, HZ.at 0 rfl, hM', fun y => ?_⟩, HZ.doneDice⟩
      rw [getG_del _ _ _ HM.out.keys, HG.out]
      show _ = Option.map vQ (if y = (xp, xg) then none else f y)
      by_cases hy : y = (xp, xg)
      · rw [if_pos hy, if_pos hy]; rfl
      · rw [if_neg hy, if_neg hy]; exact HF.out y
    · subst kk
      skip
      go_wp2_with fail
      go_end0
      exact ⟨rfl, ⟨es, clock, M, H.at 0 rfl, HM.out, by rw [HG.out]; exact HF.out⟩, H.doneDice⟩
end Go.Proofs.Ythpoanlmaafanaa
