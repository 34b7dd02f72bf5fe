/- Plan (chapter 39): lists of ranks compared (both packages); which plan is better. -/
import Derived.Test.YtdhnpjgnnfgklaaPlQ
namespace Go.Proofs.Ytdhnpjgnnfgklaa
set_option linter.unusedSimpArgs false
set_option linter.unusedVariables false
open Go.RowKit
set_option maxRecDepth 100000
attribute [local irreducible] wpX wpF Calls
attribute [local go_sem] run_mkMapG
open Go.Sort Go.Lib
theorem pcompare_any (x y : P6) (w : World) : Calls Try.prog 27 #[kP x, kP y] w (Gives (.int .i64 (cmpR x y)) w) := by
  refine (show Calls Try.prog 27 #[kP x, kP y] w _ from compare_ex x y w).mono ?_
  rintro e w' ⟨rfl, q, os', rfl⟩
  refine ⟨rfl, rfl, rfl, rfl, ?_, fun k hk => ?_⟩
  · show w.heap.size ≤ (w.heap ++ os').size; rw [Array.size_append]; omega
  · show (w.heap ++ os')[k]? = w.heap[k]?; rw [Array.getElem?_append_left hk]
theorem cmpR_neg {x y : P6} : cmpR x y < 0 ↔ befP x y = true := by
  rw [← cmpR_lt]; unfold ltOf; rw [decide_eq_true_iff]
theorem cmpR_pos {x y : P6} : 0 < cmpR x y ↔ befP y x = true := by
  rw [befP_iff]
  unfold cmpR orI compareInt
  by_cases h1 : x.a < y.a
  · simp [h1]; omega
  · by_cases h2 : y.a < x.a
    · have : ¬ x.a = y.a := by omega
      simp [h1, h2, this]
    · have e : x.a = y.a := by omega
      by_cases h3 : x.b < y.b
      · simp [e, h3]; omega
      · by_cases h4 : y.b < x.b
        · have : ¬ x.b = y.b := by omega
          simp [e, h3, h4, this]
        · have e2 : x.b = y.b := by omega
          by_cases h5 : x.c < y.c
          · simp [e, e2, h5]; omega
          · by_cases h6 : y.c < x.c <;> simp [e, e2, h5, h6]
theorem cmpR_zero {x y : P6} (hx : RankIs x) (hy : RankIs y) : cmpR x y = 0 ↔ x = y := by
  constructor
  · intro h
    refine Decidable.byContradiction fun hn => ?_
    rcases befP_total hx hy hn with h1 | h1
    · have := cmpR_neg.2 h1; omega
    · have := cmpR_pos.2 h1; omega
  · rintro rfl
    unfold cmpR orI compareInt
    simp
theorem lists_at : ∀ {a b : List P6} {i : Nat}, (∀ j, j < i → a[j]! = b[j]!) → i < a.length → a.length = b.length → a[i]! ≠ b[i]! → listsP a b = befP a[i]! b[i]!
  | [], b, i, _, h, _, _ => absurd h (by simp)
  | x :: a, [], i, _, _, h, _ => by simp at h
  | x :: a, y :: b, 0, _, _, _, hn => by
    have hn' : x ≠ y := hn
    rw [listsP, if_pos hn']; rfl
  | x :: a, y :: b, i + 1, he, hi, hl, hn => by
    have h0 : x = y := he 0 (by omega)
    rw [listsP, if_neg (by simp [h0])]
    exact lists_at (i := i) (fun j hj => by have := he (j + 1) (by omega); simpa using this) (by simpa using hi) (by simpa using hl) (by simpa using hn)
theorem lists_all : ∀ {a b : List P6}, (∀ j, j < a.length → a[j]! = b[j]!) → a.length = b.length → listsP a b = false
  | [], [], _, _ => rfl
  | x :: a, [], _, h => by simp at h
  | [], y :: b, _, h => by simp at h
  | x :: a, y :: b, he, hl => by
    have h0 : x = y := he 0 (by simp)
    rw [listsP, if_neg (by simp [h0])]
    exact lists_all (fun j hj => by have := he (j + 1) (by simpa using hj); simpa using this) (by simpa using hl)
def CmpLP (a b : List P6) (w : World) (e : Ending) (w' : World) : Prop := ∃ v : Int, e = .returned (.int .i64 v) ∧ (decide (v < 0) = listsP a b) ∧ Below w.heap.size w w'
set_option maxHeartbeats 8000000 in
theorem compareF_any {sa sb : Option Addr} (c d : Nat) {a b : List P6} (hx : a.length ≤ 100000) (hl : a.length = b.length) (ha : ∀ r ∈ a, RankIs r) (hb : ∀ r ∈ b, RankIs r) (w : World) (hla : Lies w w.heap.size sa 6 a.length (fun j => pC a[j]!)) (hlb : Lies w w.heap.size sb 6 b.length (fun j => pC b[j]!)) :
    Calls Try.prog 58 #[.slice sa a.length c, .slice sb b.length d, .func (.func 27) #[] #[]] w (CmpLP a b w) := by
  have HA := Lib.hid hla
  have HB := Lib.hid hlb
  have HRA := Lib.hid ha
  have HRB := Lib.hid hb
  have eg : ∀ args w, (callFunc 27 args).run Try.prog w = .ok (.enter 27 args) w := fun _ _ => rfl
  clear hla hlb ha hb
  rw [← hl] at HB ⊢
  have HLN := Lib.hid hl
  clear hl
  go_enter Try.func58, Try.ntmps58
  have H := HS.start NoD w
  go_wp2_with fail
  go_loopw [13] (fun i wr => ∃ (j : Nat), i = .int .i64 j ∧ j ≤ a.length ∧ Hid (∀ i, i < j → a[i]! = b[i]!) ∧ HS NoD w [] wr) (fun i _ => a.length - (intOf i).toNat)
  case atStart => exact ⟨0, rfl, Nat.zero_le _, (show Hid _ from fun i hi => absurd hi (Nat.not_lt_zero _)), H⟩
  case round =>
    clear H
    obtain ⟨j, rfl, hj, HE, H⟩ := hrel
    skip
    by_cases hlt : j < a.length
    · have hji : (j : Int) < a.length := by omega
      obtain ⟨ba, oa, rfl, -, hc⟩ := (H.lies HA.out).at hlt
      obtain ⟨bb, ob, rfl, hbz, -⟩ := (H.lies HB.out).at hlt
      have HRX := Lib.hid (HRA.out a[j]! (by rw [getElem!_pos a j hlt]; exact List.getElem_mem _))
      have HRY := Lib.hid (HRB.out b[j]! (by rw [getElem!_pos b j (by have := HLN.out; omega)]; exact List.getElem_mem _))
      have HCD := Lib.hid (fun (wx : World) (hx : HS NoD w [] wx) => show ∀ i u, (pC b[j]!)[i]? = some u → wx.cell? ⟨bb, ob + j * 6 + i, none⟩ = some u from by
        obtain ⟨b9, o9, e9, -, h9⟩ := (hx.lies HB.out).at hlt
        cases e9
        exact h9)
      obtain ⟨x, hxx⟩ : ∃ x, x = a[j]! := ⟨_, rfl⟩
      obtain ⟨y, hyy⟩ : ∃ y, y = b[j]! := ⟨_, rfl⟩
      rw [← hxx] at hc HRX
      rw [← hyy] at HCD HRY
      have HX := Lib.hid hxx
      have HY := Lib.hid hyy
      clear hxx hyy
      have HCM := Lib.hid (fun W => pcompare_any x y W)
      have HZ := Lib.hid (show (cmpR x y = 0 ↔ x = y) ∧ (decide (cmpR x y < 0) = befP x y) from ⟨cmpR_zero HRX.out HRY.out, by rw [Bool.eq_iff_iff, decide_eq_true_iff]; exact cmpR_neg⟩)
      generalize cmpR x y = v at HCM HZ
      obtain ⟨x0, x1, x2, x3, x4, x5⟩ := x
      obtain ⟨y0, y1, y2, y3, y4, y5⟩ := y
      replace HCM := Lib.hid (show ∀ W, Calls Try.prog 27 #[v6 x0 x1 x2 x3 x4 x5, v6 y0 y1 y2 y3 y4 y5] W (Gives (.int .i64 v) W) from HCM.out)
      have c0 : wr.cell? ⟨ba, oa + j * 6, none⟩ = some (.int .i64 x0) := hc 0 _ rfl
      have c1 : wr.cell? ⟨ba, oa + j * 6 + 1, none⟩ = some (.int .i64 x1) := hc 1 _ rfl
      have c2 : wr.cell? ⟨ba, oa + j * 6 + 2, none⟩ = some (.int .i64 x2) := hc 2 _ rfl
      have c3 : wr.cell? ⟨ba, oa + j * 6 + 3, none⟩ = some (.int .i64 x3) := hc 3 _ rfl
      have c4 : wr.cell? ⟨ba, oa + j * 6 + 4, none⟩ = some (.int .i64 x4) := hc 4 _ rfl
      have c5 : wr.cell? ⟨ba, oa + j * 6 + 5, none⟩ = some (.int .i64 x5) := hc 5 _ rfl
      clear hc
      go_upto_region 4 with fail
      clear c0 c1 c2 c3 c4 c5
      generalize hwb : wr.alloc _ = w1
      replace H := HS.eqW hwb H.alloc
      try simp only [World.size_alloc, List.nil_append, List.cons_append, List.append_assoc] at H
      clear hwb
      generalize wr.heap.size = bX at H ⊢
      try clear C
      try clear wr
      have C := H.cells
      try simp only [cellsOf, cellsM, apartOf, apartM, and_true] at C
      have hd := HCD.out _ (HS.less H (List.nil_sublist _))
      have d0 : w1.cell? ⟨bb, ob + j * 6, none⟩ = some (.int .i64 y0) := hd 0 _ rfl
      have d1 : w1.cell? ⟨bb, ob + j * 6 + 1, none⟩ = some (.int .i64 y1) := hd 1 _ rfl
      have d2 : w1.cell? ⟨bb, ob + j * 6 + 2, none⟩ = some (.int .i64 y2) := hd 2 _ rfl
      have d3 : w1.cell? ⟨bb, ob + j * 6 + 3, none⟩ = some (.int .i64 y3) := hd 3 _ rfl
      have d4 : w1.cell? ⟨bb, ob + j * 6 + 4, none⟩ = some (.int .i64 y4) := hd 4 _ rfl
      have d5 : w1.cell? ⟨bb, ob + j * 6 + 5, none⟩ = some (.int .i64 y5) := hd 5 _ rfl
      clear hd
      go_upto_region 7 with fail
      clear d0 d1 d2 d3 d4 d5
      generalize hwb : w1.alloc _ = w2
      replace H := HS.eqW hwb H.alloc
      try simp only [World.size_alloc, List.nil_append, List.cons_append, List.append_assoc] at H
      clear hwb
      generalize w1.heap.size = bY at H ⊢
      try clear C
      try clear w1
      have C := H.cells
      try simp only [cellsOf, cellsM, apartOf, apartM, and_true] at C
      go_wp2_with fail
      refine (HCM.out _).mono ?_
      rintro _ wc ⟨rfl, hb⟩
      replace H := H.below hb
      clear hb
      skip
      try clear C
      try simp only [World.size_alloc, List.nil_append, List.cons_append, List.append_assoc] at H
      have C := H.cells
      try simp only [cellsOf, cellsM, apartOf, apartM, and_true] at C
      skip
      by_cases hv : v = 0
      · subst hv
        go_wp2_with fail
        go_roundw
        case rel =>
          refine ⟨j + 1, by go_num, by omega, (show Hid _ from fun i hi => ?_), H.less (by repeat (first | exact .slnil | refine .cons_cons _ ?_ | refine .cons _ ?_))⟩
          by_cases e : i = j
          · subst e; rw [← HX.out, ← HY.out]; first | exact HZ.out.1.1 rfl | exact HZ.out.1.1 trivial
          · exact HE.out i (by omega)
        case measure => simp [intOf]; omega
      · have hvb : (v == 0) = false := beq_eq_false_iff_ne.2 hv
        have hvn : (v != 0) = true := bne_iff_ne.2 hv
        have HV := Lib.hid hv
        skip
        go_wp2_with fail
        go_ret
        refine ⟨v, rfl, ?_, H.done⟩
        rw [lists_at HE.out hlt HLN.out (by rw [← HX.out, ← HY.out]; exact fun e => HV.out (HZ.out.1.2 e)), ← HX.out, ← HY.out]
        exact HZ.out.2
    · have hja : j = a.length := by omega
      subst hja
      go_wp2_with fail
      go_ret
      refine ⟨0, rfl, ?_, H.done⟩
      rw [lists_all HE.out HLN.out]; rfl
set_option maxHeartbeats 8000000 in
theorem better_any {ps qs : Int} {pr qr : Option Addr} {pn pd qn qd : Nat} {sa sb : Option Addr} (c d : Nat) {a b : List P6} (hx : a.length ≤ 100000) (hy : b.length ≤ 100000) (ha : ∀ r ∈ a, RankIs r) (hb : ∀ r ∈ b, RankIs r) (R Q : List Int) (w : World) (hla : Lies w w.heap.size sa 6 a.length (fun j => pC a[j]!)) (hlb : Lies w w.heap.size sb 6 b.length (fun j => pC b[j]!)) :
    Calls Try.prog 33 #[.agg #[.slice pr pn pd, .slice sa a.length c, .int .i64 ps], .agg #[.slice qr qn qd, .slice sb b.length d, .int .i64 qs]] w (Gives (.bool (betterP ⟨R, a, ps⟩ ⟨Q, b, qs⟩)) w) := by
  have HA := Lib.hid hla
  have HB := Lib.hid hlb
  have HRA := Lib.hid ha
  have HRB := Lib.hid hb
  clear hla hlb ha hb
  go_enter Try.func33, Try.ntmps33
  have H := HS.start NoD w
  go_upto_region 1 with fail
  generalize hwb : (w.alloc _).alloc _ = w1
  replace H := HS.eqW hwb H.alloc.alloc
  try simp only [World.size_alloc, List.nil_append, List.cons_append, List.append_assoc] at H
  clear hwb
  generalize w.heap.size + 1 = bQ at H ⊢
  generalize w.heap.size = bP at H ⊢
  try clear C
  have C := H.cells
  try simp only [cellsOf, cellsM, apartOf, apartM, and_true] at C
  skip
  by_cases hs : ps = qs
  · subst hs
    by_cases hl : a.length = b.length
    · have hlb : ((a.length : Int) == b.length) = true := beq_iff_eq.2 (by omega)
      have hlb2 : ((a.length : Int) != b.length) = false := by rw [bne, hlb]; rfl
      have HCF := Lib.hid (fun wx h1 h2 => compareF_any (sa := sa) (sb := sb) c d hx hl HRA.out HRB.out wx h1 h2)
      have HLL := Lib.hid hl
      clear hl
      go_wp2_with fail
      refine (HCF.out _ (H.liesUp HA.out) (H.liesUp HB.out)).mono ?_
      rintro _ w5 ⟨v, rfl, hv, hb⟩
      replace H := H.below hb
      clear hb HCF
      have HV := Lib.hid hv
      clear hv
      skip
      try clear C
      try simp only [World.size_alloc, List.nil_append, List.cons_append, List.append_assoc] at H
      have C := H.cells
      try simp only [cellsOf, cellsM, apartOf, apartM, and_true] at C
      go_wp2_with fail
      go_ret
      refine ⟨?_, H.done⟩
      have : betterP ⟨R, a, ps⟩ ⟨Q, b, ps⟩ = listsP a b := by unfold betterP; simp [HLL.out]
      rw [this, ← HV.out]; first | rfl | simp
    · have hli : ¬ (a.length : Int) = b.length := by omega
      have hlb : ((a.length : Int) == b.length) = false := beq_eq_false_iff_ne.2 hli
      have hlb2 : ((a.length : Int) != b.length) = true := bne_iff_ne.2 hli
      have HLL := Lib.hid hl
      skip
      go_wp2_with fail
      go_ret
      refine ⟨?_, H.done⟩
      have : betterP ⟨R, a, ps⟩ ⟨Q, b, ps⟩ = decide (a.length < b.length) := by unfold betterP; simp [HLL.out]
      rw [this]; first | rfl | simp
  · have hsb : (ps == qs) = false := beq_eq_false_iff_ne.2 hs
    have hsb2 : (ps != qs) = true := bne_iff_ne.2 hs
    have HSS := Lib.hid hs
    skip
    go_wp2_with fail
    go_ret
    refine ⟨?_, H.done⟩
    have : betterP ⟨R, a, ps⟩ ⟨Q, b, qs⟩ = decide (qs < ps) := by unfold betterP; simp [HSS.out]
    rw [this]; first | rfl | simp
end Go.Proofs.Ytdhnpjgnnfgklaa
