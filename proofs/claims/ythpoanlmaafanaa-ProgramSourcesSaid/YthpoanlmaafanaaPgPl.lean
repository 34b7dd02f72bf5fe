/- memfaultref40.play: the map of pages behind operations. -/
import Derived.Test.YthpoanlmaafanaaPgN
import Derived.Test.YthpoanlmaafanaaPgP
namespace Go.Proofs.Ythpoanlmaafanaa
set_option linter.unusedSimpArgs false
set_option linter.unusedVariables false
open Go.RowKit
set_option maxRecDepth 100000
attribute [local go_sem] run_mkMapG
attribute [local irreducible] wpX wpF Calls

/-- The pages below n of a program are those of another one; the others are as they were, without that program's. -/
def PartF (p o : Int) (n : Int) (f : PgF) : PgF := fun y => if y.1 = o then (if 0 ≤ y.2 ∧ y.2 < n then f (p, y.2) else none) else f y
theorem partF_end {p o : Int} {f : PgF} (hb : BoxF f) : PartF p o 1000 f = forkF p o f := by
  funext y
  unfold PartF forkF
  split
  · split
    · rfl
    · rename_i h
      cases hf : f (p, y.2) with
      | none => rfl
      | some q => have := hb p y.2 (by rw [hf]; simp); omega
  · rfl
theorem partF_step {p o : Int} {n : Nat} {f : PgF} (hne : o ≠ p) {q : Q4} (hq : f (p, n) = some q) : PartF p o ((n + 1 : Nat) : Int) f = fun y => if y = (o, (n : Int)) then some q else PartF p o n f y := by
  funext y
  obtain ⟨y1, y2⟩ := y
  unfold PartF
  dsimp only
  by_cases h1 : y1 = o
  · subst h1
    by_cases h2 : y2 = n
    · subst h2
      rw [if_pos rfl, if_pos (by omega), if_pos rfl, hq]
    · have h4 : ¬ (y1, y2) = (y1, (n : Int)) := fun h => h2 (by injection h)
      by_cases h3 : 0 ≤ y2 ∧ y2 < n
      · have h5 : 0 ≤ y2 ∧ y2 < ((n + 1 : Nat) : Int) := by omega
        simp only [h3, h4, h5, if_true, if_false, and_self]
      · have h5 : ¬ (0 ≤ y2 ∧ y2 < ((n + 1 : Nat) : Int)) := by omega
        simp only [h3, h4, h5, if_true, if_false]
  · have h4 : ¬ (y1, y2) = (o, (n : Int)) := fun h => h1 (by injection h)
    simp only [h1, h4, if_false]
theorem partF_skip {p o : Int} {n : Nat} {f : PgF} (hq : f (p, n) = none) : PartF p o ((n + 1 : Nat) : Int) f = PartF p o n f := by
  funext y
  obtain ⟨y1, y2⟩ := y
  unfold PartF
  dsimp only
  by_cases h1 : y1 = o
  · rw [if_pos h1, if_pos h1]
    by_cases h3 : 0 ≤ y2 ∧ y2 < n
    · rw [if_pos (by omega), if_pos h3]
    · by_cases h4 : y2 = n
      · subst h4; rw [if_pos (by omega), if_neg h3, hq]
      · rw [if_neg (by omega), if_neg h3]
  · rw [if_neg h1, if_neg h1]
theorem partF_at {p o : Int} {n : Int} {f : PgF} (hne : o ≠ p) (g : Int) : PartF p o n f (p, g) = f (p, g) := by
  unfold PartF
  rw [if_neg (by dsimp only; exact fun h => hne h.symm)]
def GivesMap (f : PgF) (w : World) (e : Ending) (w' : World) : Prop :=
  ∃ (b : Nat) (es : Array MapEntry) (ck : Nat) (M : List ((Int × Int) × Value)), e = .returned (.map (some b)) ∧ MapG kU es ck M ∧ (∀ x, getG x M = (f x).map vQ) ∧ HS NoD w [.obj b (.map es ck)] w'
set_option maxHeartbeats 16000000 in
theorem rplay_any {l : List Ox} (hx : l.length ≤ 1000000) {sa : Option Addr} (c : Nat) (w : World) (hl : Lies w w.heap.size sa 6 l.length (fun j => oxC l[j]!)) :
    Calls Try.prog 25 #[.slice sa l.length c] w (GivesMap (runF 0 l noF) w) := by
  have HL := Lib.hid hl
  clear hl
  have HT : Try.prog.underlying 57 = some (.map 40 53) := by kernel_rfl
  have HE : ∀ w, (zeroValue 53).run Try.prog w = .ok (.agg #[.int .i64 0, .int .i64 0, .int .i64 0, .int .i64 0]) w := fun w => by rfl
  go_enter Try.func25, Try.ntmps25
  have H := HS.start NoD w
  go_upto_region 2 with fail
  generalize hwb : World.alloc _ _ = w3
  replace H := HS.eqW hwb H.allocObj
  clear hwb
  simp only [List.nil_append] at H
  generalize w.heap.size = bM at H ⊢
  skip
  try clear C
  try simp only [World.size_alloc, List.nil_append, List.cons_append, List.append_assoc] at H
  have C := H.cells
  try simp only [cellsOf, cellsM, apartOf, apartM, and_true] at C
  go_wp2_with fail
  go_loopw [4, 5, 6, 7, 8, 16] (fun _ _ _ _ _ jj wr => ∃ (j : Nat) (es : Array MapEntry) (ck : Nat) (M : List ((Int × Int) × Value)), jj = .int .i64 j ∧ j ≤ l.length ∧ Hid (MapG kU es ck M) ∧ Hid (∀ x, getG x M = (runF 0 (l.take j) noF x).map vQ) ∧ HS NoD w [.obj bM (.map es ck)] wr) (fun _ _ _ _ _ jj _ => l.length - (intOf jj).toNat)
  case atStart => exact ⟨0, #[], 0, [], rfl, Nat.zero_le _, MapG.nil kU, fun _ => rfl, H⟩
  case round =>
    clear H C
    obtain ⟨j, es, ck, M, rfl, hj, HM, HF, H⟩ := hrel
    skip
    try clear C
    try simp only [World.size_alloc, List.nil_append, List.cons_append, List.append_assoc] at H
    have C := H.cells
    try simp only [cellsOf, cellsM, apartOf, apartM, and_true] at C
    by_cases hlt : j < l.length
    · obtain ⟨b, o, rfl, hb, d0, d1, d2, d3, d4, d5⟩ := oxCells (H.lies HL.out) hlt
      have HRS := Lib.hid (runF_step hlt)
      have HBX := Lib.hid (runF_box (l.take j) 0 noF_box)
      obtain ⟨y, hy⟩ : ∃ y, y = l[j]! := ⟨_, rfl⟩
      rw [← hy] at HRS d0 d1 d2 d3 d4 d5
      clear hy
      have HME := Lib.hid (fun w => rmeans_any y w)
      generalize runF 0 (l.take j) noF = f at HRS HF HBX
      obtain ⟨g, hge⟩ : ∃ g, g = runF 0 (l.take (j + 1)) noF := ⟨_, rfl⟩
      rw [← hge] at HRS
      have HGE := Lib.hid hge
      clear hge
      have HNO := Lib.hid (fun h => HRS.out.trans (doF_no h))
      have HDO := Lib.hid (fun (h : meansO y = true) => HRS.out.trans (show doF j y f = _ by unfold doF; rw [if_neg (by rw [h]; decide)]))
      have HMK := Lib.hid (fun h => means_k (x := y) h)
      clear HRS
      generalize hmb : meansO y = mb at HME
      have HMB := Lib.hid hmb
      clear hmb
      obtain ⟨xk, xp, xg, xw, xo, xsa, xn, xc⟩ := y
      dsimp only at d0 d1 d2 d3 d4 d5 HMK
      have hbl : b < wr.heap.size := Nat.lt_of_lt_of_le hb H.size
      have q1 : (b = wr.heap.size) = False := eq_false (by omega)
      have q2 : (wr.heap.size = b) = False := eq_false (by omega)
      obtain ⟨q0, q1', q2', q3, ok, hqv, hqo, hqf⟩ : ∃ q0 q1 q2 q3 ok, (getG (xp, xg) M).getD (.agg #[.int .i64 0, .int .i64 0, .int .i64 0, .int .i64 0]) = .agg #[.int .i64 q0, .int .i64 q1, .int .i64 q2, .int .i64 q3] ∧ (getG (xp, xg) M).isSome = ok ∧ f (xp, xg) = if ok = true then some ⟨q0, q1, q2, q3⟩ else none := by
        have h1 := HF.out (xp, xg)
        cases hq : f (xp, xg) with
        | none => rw [hq] at h1; rw [h1]; exact ⟨0, 0, 0, 0, false, rfl, rfl, rfl⟩
        | some q => rw [hq] at h1; rw [h1]; obtain ⟨q0, q1, q2, q3⟩ := q; exact ⟨q0, q1, q2, q3, true, rfl, rfl, rfl⟩
      have HQV := Lib.hid hqv
      have HQO := Lib.hid hqo
      have HQF := Lib.hid hqf
      clear hqv hqo hqf
      go_upto_region 5 with fail
      clear d0 d1 d2 d3 d4 d5 q1 q2 hbl hb
      generalize hwb : wr.alloc _ = w1
      replace H := HS.eqW hwb H.alloc
      try simp only [World.size_alloc, List.nil_append, List.cons_append, List.append_assoc] at H
      clear hwb
      generalize wr.heap.size = bO at H ⊢
      try clear C
      try clear wr
      have C := H.cells
      try simp only [cellsOf, cellsM, apartOf, apartM, and_true] at C
      go_upto_region 6 with fail
      generalize hwb : w1.alloc _ = w2
      replace H := HS.eqW hwb H.alloc
      try simp only [World.size_alloc, List.nil_append, List.cons_append, List.append_assoc] at H
      clear hwb
      generalize w1.heap.size = bU at H ⊢
      try clear C
      try clear w1
      have C := H.cells
      try simp only [cellsOf, cellsM, apartOf, apartM, and_true] at C
      go_upto_region 7 with (at_lookup; refine wpList_lookup_G rfl (.tmp 27) (.tmp 28) rfl HT keyU HE H 0 rfl HM.out rfl (n := (xp, xg)) rfl HQV.out HQO.out ?_)
      generalize hwb : w2.alloc _ = w3
      replace H := HS.eqW hwb H.alloc
      try simp only [World.size_alloc, List.nil_append, List.cons_append, List.append_assoc] at H
      clear hwb
      generalize w2.heap.size = bF at H ⊢
      try clear C
      try clear w2
      have C := H.cells
      try simp only [cellsOf, cellsM, apartOf, apartM, and_true] at C
      have HVO := Lib.hid (show vOx ⟨xk, xp, xg, xw, xo, xsa, xn, xc⟩ = .agg #[.int .i64 xk, .int .i64 xp, .int .i64 xg, .int .i64 xw, .int .i64 xo, .slice xsa xn xc] from rfl)
      rw [HVO.out] at HME
      clear HVO
      go_wp2_with fail
      refine (HME.out _).mono ?_
      rintro _ w4 ⟨rfl, hb⟩
      replace H := H.below hb
      clear hb
      try clear C
      try simp only [World.size_alloc, List.nil_append, List.cons_append, List.append_assoc] at H
      try clear w3
      have C := H.cells
      try simp only [cellsOf, cellsM, apartOf, apartM, and_true] at C
      dsimp only
      clear HME
      skip
      cases mb with
      | false =>
        have HG := Lib.hid (HNO.out HMB.out)
        go_wp2_with fail
        go_roundw
        case rel => exact ⟨j + 1, es, ck, M, by go_num, by omega, HM, (show Hid _ from fun x => by rw [← HGE.out, HG.out]; exact HF.out x), HS.less H (by repeat (first | exact .slnil | refine .cons_cons _ ?_ | refine .cons _ ?_))⟩
        case measure => simp [intOf]; omega
      | true =>
        have HG := Lib.hid (HDO.out HMB.out)
        have hkk := HMK.out HMB.out
        clear HNO HDO HMK
        rcases hkk with ⟨kk, -, -⟩ | ⟨kk, hw0, hw3⟩ | kk | ⟨kk, hne⟩ | kk | kk
        · subst kk
          skip
          go_wp2_with fail
          go_roundw
          case rel => exact ⟨j + 1, es, ck, M, by go_num, by omega, HM, (show Hid _ from fun x => by rw [← HGE.out, HG.out]; exact HF.out x), HS.less H (by repeat (first | exact .slnil | refine .cons_cons _ ?_ | refine .cons _ ?_))⟩
          case measure => simp [intOf]; omega
        · subst kk
          skip
          cases ok with
          | false =>
            go_wp2_with fail
            go_roundw
            case rel =>
              refine ⟨j + 1, es, ck, M, by go_num, by omega, HM, (show Hid _ from fun y => ?_), HS.less H (by repeat (first | exact .slnil | refine .cons_cons _ ?_ | refine .cons _ ?_))⟩
              rw [← HGE.out, HG.out, HF.out]
              show _ = Option.map vQ (if y = (xp, xg) then (f (xp, xg)).map (fun q => q.put xw j) else f y)
              by_cases hy : y = (xp, xg)
              · rw [if_pos hy, hy, HQF.out]; rfl
              · rw [if_neg hy]
            case measure => simp [intOf]; omega
          | true =>
            skip
            have hw : xw = 0 ∨ xw = 1 ∨ xw = 2 ∨ xw = 3 := by omega
            clear hw0 hw3
            rcases hw with hw | hw | hw | hw
            · subst hw
              skip
              go_upto_region 17 with fail
              generalize hwb : World.setCell _ _ _ = w9
              replace H := HS.eqW hwb (H.setTo 3 rfl rfl)
              clear hwb
              simp only [List.set_cons_succ, List.set_cons_zero] at H
              skip
              try clear C
              try simp only [World.size_alloc, List.nil_append, List.cons_append, List.append_assoc] at H
              have C := H.cells
              try simp only [cellsOf, cellsM, apartOf, apartM, and_true] at C
              go_upto_region 32 with (at_mapUpdate; refine wpList_update_G rfl (.tmp 59) (.tmp 60) (.tmp 61) rfl HT keyU H 0 rfl HM.out rfl (n := (xp, xg)) (u := vQ ⟨j, q1', q2', q3⟩) rfl rfl (fun wy es' c' hM' HZ => ?_); clear H C)
              simp only [List.set_cons_succ, List.set_cons_zero] at HZ
              go_wp2_with fail
              go_roundw
              case rel =>
                refine ⟨j + 1, es', c', _, by go_num, by omega, hM', (show Hid _ from fun y => ?_), HS.less HZ (by repeat (first | exact .slnil | refine .cons_cons _ ?_ | refine .cons _ ?_))⟩
                rw [getG_put, ← HGE.out, HG.out]
                show _ = Option.map vQ (if y = (xp, xg) then (f (xp, xg)).map (fun q => q.put 0 j) else f y)
                by_cases hy : y = (xp, xg)
                · rw [if_pos hy, if_pos hy, HQF.out]; rfl
                · rw [if_neg hy, if_neg hy]; exact HF.out y
              case measure => simp [intOf]; omega
            · subst hw
              skip
              go_upto_region 17 with fail
              generalize hwb : World.setCell _ _ _ = w9
              replace H := HS.eqW hwb (H.setTo 3 rfl rfl)
              clear hwb
              simp only [List.set_cons_succ, List.set_cons_zero] at H
              skip
              try clear C
              try simp only [World.size_alloc, List.nil_append, List.cons_append, List.append_assoc] at H
              have C := H.cells
              try simp only [cellsOf, cellsM, apartOf, apartM, and_true] at C
              go_upto_region 32 with (at_mapUpdate; refine wpList_update_G rfl (.tmp 59) (.tmp 60) (.tmp 61) rfl HT keyU H 0 rfl HM.out rfl (n := (xp, xg)) (u := vQ ⟨q0, j, q2', q3⟩) rfl rfl (fun wy es' c' hM' HZ => ?_); clear H C)
              simp only [List.set_cons_succ, List.set_cons_zero] at HZ
              go_wp2_with fail
              go_roundw
              case rel =>
                refine ⟨j + 1, es', c', _, by go_num, by omega, hM', (show Hid _ from fun y => ?_), HS.less HZ (by repeat (first | exact .slnil | refine .cons_cons _ ?_ | refine .cons _ ?_))⟩
                rw [getG_put, ← HGE.out, HG.out]
                show _ = Option.map vQ (if y = (xp, xg) then (f (xp, xg)).map (fun q => q.put 1 j) else f y)
                by_cases hy : y = (xp, xg)
                · rw [if_pos hy, if_pos hy, HQF.out]; rfl
                · rw [if_neg hy, if_neg hy]; exact HF.out y
              case measure => simp [intOf]; omega
            · subst hw
              skip
              go_upto_region 17 with fail
              generalize hwb : World.setCell _ _ _ = w9
              replace H := HS.eqW hwb (H.setTo 3 rfl rfl)
              clear hwb
              simp only [List.set_cons_succ, List.set_cons_zero] at H
              skip
              try clear C
              try simp only [World.size_alloc, List.nil_append, List.cons_append, List.append_assoc] at H
              have C := H.cells
              try simp only [cellsOf, cellsM, apartOf, apartM, and_true] at C
              go_upto_region 32 with (at_mapUpdate; refine wpList_update_G rfl (.tmp 59) (.tmp 60) (.tmp 61) rfl HT keyU H 0 rfl HM.out rfl (n := (xp, xg)) (u := vQ ⟨q0, q1', j, q3⟩) rfl rfl (fun wy es' c' hM' HZ => ?_); clear H C)
              simp only [List.set_cons_succ, List.set_cons_zero] at HZ
              go_wp2_with fail
              go_roundw
              case rel =>
                refine ⟨j + 1, es', c', _, by go_num, by omega, hM', (show Hid _ from fun y => ?_), HS.less HZ (by repeat (first | exact .slnil | refine .cons_cons _ ?_ | refine .cons _ ?_))⟩
                rw [getG_put, ← HGE.out, HG.out]
                show _ = Option.map vQ (if y = (xp, xg) then (f (xp, xg)).map (fun q => q.put 2 j) else f y)
                by_cases hy : y = (xp, xg)
                · rw [if_pos hy, if_pos hy, HQF.out]; rfl
                · rw [if_neg hy, if_neg hy]; exact HF.out y
              case measure => simp [intOf]; omega
            · subst hw
              skip
              go_upto_region 17 with fail
              generalize hwb : World.setCell _ _ _ = w9
              replace H := HS.eqW hwb (H.setTo 3 rfl rfl)
              clear hwb
              simp only [List.set_cons_succ, List.set_cons_zero] at H
              skip
              try clear C
              try simp only [World.size_alloc, List.nil_append, List.cons_append, List.append_assoc] at H
              have C := H.cells
              try simp only [cellsOf, cellsM, apartOf, apartM, and_true] at C
              go_upto_region 32 with (at_mapUpdate; refine wpList_update_G rfl (.tmp 59) (.tmp 60) (.tmp 61) rfl HT keyU H 0 rfl HM.out rfl (n := (xp, xg)) (u := vQ ⟨q0, q1', q2', j⟩) rfl rfl (fun wy es' c' hM' HZ => ?_); clear H C)
              simp only [List.set_cons_succ, List.set_cons_zero] at HZ
              go_wp2_with fail
              go_roundw
              case rel =>
                refine ⟨j + 1, es', c', _, by go_num, by omega, hM', (show Hid _ from fun y => ?_), HS.less HZ (by repeat (first | exact .slnil | refine .cons_cons _ ?_ | refine .cons _ ?_))⟩
                rw [getG_put, ← HGE.out, HG.out]
                show _ = Option.map vQ (if y = (xp, xg) then (f (xp, xg)).map (fun q => q.put 3 j) else f y)
                by_cases hy : y = (xp, xg)
                · rw [if_pos hy, if_pos hy, HQF.out]; rfl
                · rw [if_neg hy, if_neg hy]; exact HF.out y
              case measure => simp [intOf]; omega
        · subst kk
          skip
          cases ok with
          | false =>
            go_upto_region 32 with (at_mapUpdate; refine wpList_update_G rfl (.tmp 41) (.tmp 42) (.tmp 47) rfl HT keyU H 0 rfl HM.out rfl (n := (xp, xg)) (u := vQ ⟨j, j, j, j⟩) rfl rfl (fun wy es' c' hM' HZ => ?_); clear H C)
            simp only [List.set_cons_succ, List.set_cons_zero] at HZ
            go_wp2_with fail
            go_roundw
            case rel =>
              refine ⟨j + 1, es', c', _, by go_num, by omega, hM', (show Hid _ from fun y => ?_), HS.less HZ (by repeat (first | exact .slnil | refine .cons_cons _ ?_ | refine .cons _ ?_))⟩
              rw [getG_put, ← HGE.out, HG.out]
              show _ = Option.map vQ (if y = (xp, xg) ∧ f (xp, xg) = none then some ⟨j, j, j, j⟩ else f y)
              by_cases hy : y = (xp, xg)
              · rw [if_pos hy, if_pos ⟨hy, by rw [HQF.out]; rfl⟩]; rfl
              · rw [if_neg hy, if_neg (fun h => hy h.1)]; exact HF.out y
            case measure => simp [intOf]; omega
          | true =>
            skip
            go_wp2_with fail
            go_roundw
            case rel =>
              refine ⟨j + 1, es, ck, M, by go_num, by omega, HM, (show Hid _ from fun y => ?_), HS.less H (by repeat (first | exact .slnil | refine .cons_cons _ ?_ | refine .cons _ ?_))⟩
              rw [← HGE.out, HG.out, HF.out]
              show _ = Option.map vQ (if y = (xp, xg) ∧ f (xp, xg) = none then some ⟨j, j, j, j⟩ else f y)
              rw [if_neg (fun h => by rw [HQF.out] at h; exact absurd h.2 (by simp))]
            case measure => simp [intOf]; omega
        · subst kk
          skip
          have hneb : (xo == xp) = false := beq_eq_false_iff_ne.2 hne
          have HNE := Lib.hid hne
          clear hne
          have HGF := Lib.hid (show g = forkF xp xo f from HG.out)
          clear HG
          replace H := H.less (L' := [.obj bM (.map es ck), .blk bO #[.int .i64 4, .int .i64 xp, .int .i64 xg, .int .i64 xw, .int .i64 xo, .slice xsa xn xc] 38]) (by repeat (first | exact .slnil | refine .cons_cons _ ?_ | refine .cons _ ?_))
          try clear C
          try clear C
          try simp only [World.size_alloc, List.nil_append, List.cons_append, List.append_assoc] at H
          have C := H.cells
          try simp only [cellsOf, cellsM, apartOf, apartM, and_true] at C
          go_upto_region 21 with (at_range; refine wpList_range_G rfl (.tmp 69) 57 rfl HT H 0 rfl rfl ?_; clear H C; intro H)
          try simp only [List.nil_append, List.cons_append] at H
          generalize hwb : World.alloc _ (Obj.mapIter _ _ _ _) = w77 at H ⊢
          clear hwb
          generalize (w4).heap.size = r2 at H ⊢
          go_frame
          go_loopw [9] (fun _ wr => ∃ (seen : Array Nat) (es2 : Array MapEntry) (M3 : List ((Int × Int) × Value)), Hid (MapG kU es2 ck M3) ∧ Hid (∀ x, x.1 ≠ xo → getG x M3 = getG x M) ∧ Hid (∀ x v, getG x M3 = some v → getG x M = some v) ∧ Hid (SeenG kU (fun x => x.1 ≠ xo) es2 seen) ∧ HS NoD w [.obj bM (.map es2 ck), .blk bO #[.int .i64 4, .int .i64 xp, .int .i64 xg, .int .i64 xw, .int .i64 xo, .slice xsa xn xc] 38, .obj r2 (.mapIter (some bM) ck seen ck)] wr) (fun _ wr => leftAt bM r2 wr)
          case atStart => exact ⟨#[], es, M, HM, fun _ _ => rfl, fun _ _ h => h, SeenG.nil _ _, H⟩
          case round =>
            clear H
            obtain ⟨seen2, es2, M3, HM3, HA3, HB3, HSE, H⟩ := hrel
            skip
            try clear C
            try simp only [World.size_alloc, List.nil_append, List.cons_append, List.append_assoc] at H
            have C := H.cells
            try simp only [cellsOf, cellsM, apartOf, apartM, and_true] at C
            go_upto_region 22 with (at_next; refine wpList_next_G rfl (.tmp 70) rfl H 0 2 HM3.out rfl rfl rfl (by decide) (Nat.le_refl _) (fun hdone => unhid ?_) (fun x v e wz he hke hve hmM hltn HZ hen => ?_))
            · have HALL := Lib.hid (HSE.out.all HM3.out hdone)
              clear hdone HSE
              have HG3 := Lib.hid (show ∀ x, getG x M3 = (PartF xp xo ((0 : Nat) : Int) f x).map vQ from fun x => by
                unfold PartF
                by_cases hx : x.1 = xo
                · rw [if_pos hx, if_neg (by omega)]
                  cases hg : getG x M3 with
                  | none => rfl
                  | some v => exact absurd hx (HALL.out _ _ ((getG_mem HM3.out.keys).1 hg))
                · rw [if_neg hx, HA3.out x hx]; exact HF.out x)
              clear HALL HA3 HB3
              have H9 := HS.less (L' := [.obj bM (.map es2 ck), .blk bO #[.int .i64 4, .int .i64 xp, .int .i64 xg, .int .i64 xw, .int .i64 xo, .slice xsa xn xc] 38]) H (by repeat (first | exact .slnil | refine .cons_cons _ ?_ | refine .cons _ ?_))
              clear H C
              have H := H9
              clear H9
              refine Lib.hid ?_
              skip
              try clear C
              try simp only [World.size_alloc, List.nil_append, List.cons_append, List.append_assoc] at H
              have C := H.cells
              try simp only [cellsOf, cellsM, apartOf, apartM, and_true] at C
              go_wp2_with fail
              go_loopw [10, 11, 12, 82] (fun _ _ _ nn wr => ∃ (n : Nat) (es4 : Array MapEntry) (c4 : Nat) (M4 : List ((Int × Int) × Value)), nn = .int .i64 n ∧ n ≤ 1000 ∧ Hid (MapG kU es4 c4 M4) ∧ Hid (∀ x, getG x M4 = (PartF xp xo n f x).map vQ) ∧ HS NoD w [.obj bM (.map es4 c4), .blk bO #[.int .i64 4, .int .i64 xp, .int .i64 xg, .int .i64 xw, .int .i64 xo, .slice xsa xn xc] 38] wr) (fun _ _ _ nn _ => 1000 - (intOf nn).toNat)
              case atStart => exact ⟨0, es2, ck, M3, rfl, by omega, HM3, HG3, H⟩
              case round =>
                clear H C
                obtain ⟨n, es4, c4, M4, rfl, hn, HM4, HG4, H⟩ := hrel
                skip
                try clear C
                try simp only [World.size_alloc, List.nil_append, List.cons_append, List.append_assoc] at H
                have C := H.cells
                try simp only [cellsOf, cellsM, apartOf, apartM, and_true] at C
                skip
                by_cases hn1 : n < 1000
                · have hn1i : (n : Int) < 1000 := by omega
                  obtain ⟨r0, r1, r2', r3, ok2, hqv, hqo, hqf⟩ : ∃ q0 q1 q2 q3 ok, (getG (xp, (n : Int)) M4).getD (.agg #[.int .i64 0, .int .i64 0, .int .i64 0, .int .i64 0]) = .agg #[.int .i64 q0, .int .i64 q1, .int .i64 q2, .int .i64 q3] ∧ (getG (xp, (n : Int)) M4).isSome = ok ∧ f (xp, n) = if ok = true then some ⟨q0, q1, q2, q3⟩ else none := by
                    have h1 := HG4.out (xp, (n : Int))
                    rw [partF_at HNE.out] at h1
                    cases hq : f (xp, (n : Int)) with
                    | none => rw [hq] at h1; rw [h1]; exact ⟨0, 0, 0, 0, false, rfl, rfl, rfl⟩
                    | some q => rw [hq] at h1; rw [h1]; obtain ⟨q0, q1, q2, q3⟩ := q; exact ⟨q0, q1, q2, q3, true, rfl, rfl, rfl⟩
                  have HQV2 := Lib.hid hqv
                  have HQO2 := Lib.hid hqo
                  have HQF2 := Lib.hid hqf
                  clear hqv hqo hqf
                  go_upto_region 29 with (at_lookup; refine wpList_lookup_G rfl (.tmp 86) (.tmp 90) rfl HT keyU HE H 0 rfl HM4.out rfl (n := (xp, (n : Int))) rfl HQV2.out HQO2.out ?_)
                  generalize hwb : wr.alloc _ = w5
                  replace H := HS.eqW hwb H.alloc
                  try simp only [World.size_alloc, List.nil_append, List.cons_append, List.append_assoc] at H
                  clear hwb
                  generalize wr.heap.size = bG at H ⊢
                  try clear C
                  try clear wr
                  have C := H.cells
                  try simp only [cellsOf, cellsM, apartOf, apartM, and_true] at C
                  skip
                  cases ok2 with
                  | false =>
                    have HPS := Lib.hid (partF_skip (p := xp) (o := xo) (n := n) (f := f) HQF2.out)
                    go_wp2_with fail
                    go_roundw
                    case rel => exact ⟨n + 1, es4, c4, M4, by go_num, by omega, HM4, (show Hid _ from fun x => by rw [HPS.out]; exact HG4.out x), HS.less H (by repeat (first | exact .slnil | refine .cons_cons _ ?_ | refine .cons _ ?_))⟩
                    case measure => simp [intOf]; omega
                  | true =>
                    have HPS := Lib.hid (partF_step (p := xp) (o := xo) (n := n) (f := f) HNE.out HQF2.out)
                    skip
                    go_upto_region 31 with (at_mapUpdate; refine wpList_update_G rfl (.tmp 95) (.tmp 99) (.tmp 100) rfl HT keyU H 0 rfl HM4.out rfl (n := (xo, (n : Int))) (u := vQ ⟨r0, r1, r2', r3⟩) rfl rfl (fun wy es' c' hM' HZ => ?_); clear H C)
                    simp only [List.set_cons_succ, List.set_cons_zero] at HZ
                    go_wp2_with fail
                    go_roundw
                    case rel =>
                      refine ⟨n + 1, es', c', _, by go_num, by omega, hM', (show Hid _ from fun x => ?_), HS.less HZ (by repeat (first | exact .slnil | refine .cons_cons _ ?_ | refine .cons _ ?_))⟩
                      rw [HPS.out, getG_put]
                      dsimp only
                      by_cases hx : x = (xo, (n : Int))
                      · rw [if_pos hx, if_pos hx]; rfl
                      · rw [if_neg hx, if_neg hx]; exact HG4.out x
                    case measure => simp [intOf]; omega
                · obtain rfl : n = 1000 := by omega
                  have HPE := Lib.hid (partF_end (p := xp) (o := xo) HBX.out)
                  go_wp2_with fail
                  go_roundw
                  case rel => exact ⟨j + 1, es4, c4, M4, by go_num, by omega, HM4, (show Hid _ from fun x => by rw [← HGE.out, HGF.out, ← HPE.out]; exact HG4.out x), HS.less H (by repeat (first | exact .slnil | refine .cons_cons _ ?_ | refine .cons _ ?_))⟩
                  case measure => simp [intOf]; omega
            · have HOLD := Lib.hid (leftAt_of (H.at 0 rfl) (H.at 2 rfl))
              clear H C
              have H := HZ
              clear HZ
              simp only [List.set_cons_succ, List.set_cons_zero] at H
              obtain ⟨q, hfq, rfl⟩ := getG_some HM.out.keys HF.out ((getG_mem HM.out.keys).1 (HB3.out _ _ ((getG_mem HM3.out.keys).2 hmM)))
              obtain ⟨ya, yb⟩ := x
              have HEN := Lib.hid hen
              clear hmM hfq hen
              skip
              try clear C
              try simp only [World.size_alloc, List.nil_append, List.cons_append, List.append_assoc] at H
              have C := H.cells
              try simp only [cellsOf, cellsM, apartOf, apartM, and_true] at C
              have HEK := Lib.hid (show ∀ x, e.key = kU x → x = (ya, yb) from fun x hx => (kU_inj (hke.symm.trans hx)).symm)
              have HS2 := Lib.hid (fun (p' : Int × Int → Prop) (h9 : SeenG kU p' es2 seen2) (h8 : ∀ x, e.key = kU x → p' x) => h9.push HM3.out he h8)
              have HKE := Lib.hid hke
              have HIN := Lib.hid he
              clear hke he
              go_step
              refine wpList_entry_G rfl (.tmp 70) rfl rfl HEN.out ?_
              clear HEN
              dsimp only [kU]
              go_upto_region 23 with fail
              generalize hwb : wz.alloc _ = w6
              replace H := HS.eqW hwb H.alloc
              try simp only [World.size_alloc, List.nil_append, List.cons_append, List.append_assoc] at H
              clear hwb
              generalize wz.heap.size = b7 at H ⊢
              try clear C
              try clear wz
              have C := H.cells
              try simp only [cellsOf, cellsM, apartOf, apartM, and_true] at C
              by_cases hya : ya = xo
              · subst hya
                go_wp2_with (at_delete; refine wpList_delete_G rfl (.tmp 80) (.tmp 81) rfl HT keyU H 0 rfl HM3.out rfl (n := (ya, yb)) rfl (fun wy es' hM' hsub HZ => ?_); clear H C)
                simp only [List.set_cons_succ, List.set_cons_zero] at HZ
                go_frame
                go_roundw
                case rel =>
                  refine ⟨seen2.push e.born, es', _, hM', (show Hid _ from fun x hx => ?_), (show Hid _ from fun x v hx => ?_), (show Hid _ from fun x' hx' hc y hy => ?_), HS.less HZ (by repeat (first | exact .slnil | refine .cons_cons _ ?_ | refine .cons _ ?_))⟩
                  · rw [getG_del _ _ _ HM3.out.keys, if_neg (fun e9 => hx (by rw [e9]))]; exact HA3.out x hx
                  · rw [getG_del _ _ _ HM3.out.keys] at hx
                    split at hx
                    · cases hx
                    · exact HB3.out x v hx
                  · rw [Array.contains_push, Bool.or_eq_true] at hc
                    have hno := hM'.noKey (x := (ya, yb)) (by rw [getG_del _ _ _ HM3.out.keys, if_pos rfl])
                    have hold := fun h => HSE.out x' (hsub.subset hx') h y hy
                    rcases hc with hc | hc
                    all_goals first
                      | exact hold hc
                      | (have hee : x' = e := born_injG HM3.out.nodup (hsub.subset hx') HIN.out (by simpa using hc)
                         subst hee
                         exact absurd HKE.out (hno _ hx'))
                case measure =>
                  rw [leftAt_of (HZ.at 0 rfl) (HZ.at 2 rfl), HOLD.out]
                  exact Nat.lt_of_le_of_lt (leftG_sub hsub _) hltn
              · have hyb : (ya == xo) = false := beq_eq_false_iff_ne.2 hya
                go_wp2_with fail
                go_roundw
                case rel =>
                  exact ⟨seen2.push e.born, es2, M3, HM3, HA3, HB3, (show Hid _ from HS2.out _ HSE.out fun x hx => by rw [HEK.out x hx]; exact hya), HS.less H (by repeat (first | exact .slnil | refine .cons_cons _ ?_ | refine .cons _ ?_))⟩
                case measure =>
                  rw [leftAt_of (H.at 0 rfl) (H.at 2 rfl), HOLD.out]
                  exact hltn
        · subst kk
          skip
          go_upto_region 32 with (at_delete; refine wpList_delete_G rfl (.tmp 50) (.tmp 51) rfl HT keyU H 0 rfl HM.out rfl (n := (xp, xg)) rfl (fun wy es' hM' hsub HZ => ?_); clear H C)
          simp only [List.set_cons_succ, List.set_cons_zero] at HZ
          go_wp2_with fail
          go_roundw
          case rel =>
            refine ⟨j + 1, es', ck, _, by go_num, by omega, hM', (show Hid _ from fun y => ?_), HS.less HZ (by repeat (first | exact .slnil | refine .cons_cons _ ?_ | refine .cons _ ?_))⟩
            rw [getG_del _ _ _ HM.out.keys, ← HGE.out, HG.out]
            show _ = Option.map vQ (if y = (xp, xg) then none else f y)
            by_cases hy : y = (xp, xg)
            · rw [if_pos hy, if_pos hy]; rfl
            · rw [if_neg hy, if_neg hy]; exact HF.out y
          case measure => simp [intOf]; omega
        · subst kk
          skip
          go_wp2_with fail
          go_roundw
          case rel => exact ⟨j + 1, es, ck, M, by go_num, by omega, HM, (show Hid _ from fun x => by rw [← HGE.out, HG.out]; exact HF.out x), HS.less H (by repeat (first | exact .slnil | refine .cons_cons _ ?_ | refine .cons _ ?_))⟩
          case measure => simp [intOf]; omega
    · obtain rfl : j = l.length := by omega
      go_wp2_with fail
      go_ret
      exact ⟨bM, es, ck, M, rfl, HM.out, fun x => by have := HF.out x; rwa [List.take_length] at this, H⟩
end Go.Proofs.Ythpoanlmaafanaa
