/- Package rate: within, Leak, Over on valid gauges. -/
import Derived.Test.YtdcieajdgmopkaaRow
import Derived.Deep.CutRange
import Derived.Deep.CutBlock
namespace Go.Proofs.Ytdcieajdgmopkaa
set_option linter.unusedSimpArgs false
set_option linter.unusedVariables false
open Go.RowKit
set_option maxRecDepth 100000
attribute [local go_sem] lt_more ne_more ne_more'

structure G3 where
  p : Int
  l : Int
  t : Int
deriving Inhabited, DecidableEq
def gC (x : G3) : List Value := [.int .i64 x.p, .int .i64 x.l, .int .i64 x.t]
theorem gC_len (x : G3) : (gC x).length = 3 := rfl
@[reducible] def vG (P L : Int) (v : Value) : Value := .agg #[.int .i64 P, .int .i64 L, v]
theorem infoG : (Try.prog.info? 33).map (fun i => (i.zero, i.size, i.bytes)) = some (some (.agg #[.int .i64 0, .int .i64 0, .int .i64 0]), 3, 24) := by kernel_rfl
theorem elemG : Elem Try.prog 22 33 (.agg #[.int .i64 0, .int .i64 0, .int .i64 0]) 3 24 := Elem.mk' Try.underlying22 infoG rfl (by decide)

/-- Gauges whose numbers are within bounds. -/
structure GOK (P T : Int) (xs : List G3) : Prop where
  P1 : 1 ≤ P
  P2 : P ≤ 1099511627776
  T0 : 0 ≤ T
  T2 : T ≤ 1099511627776
  len : xs.length ≤ 1000
  all : ∀ x ∈ xs, 1 ≤ x.l ∧ x.l ≤ 1048576 ∧ 0 ≤ x.t ∧ x.t ≤ 1099511627776
/-- How much leaks, and what is left. -/
def leakN (P T : Int) (x : G3) : Int := if x.t ≤ T then (T - x.t) / P else 0
def leakG (P T : Int) (x : G3) : Option G3 := if 0 < x.l - leakN P T x then some ⟨x.p, x.l - leakN P T x, x.t + leakN P T x * P⟩ else none
def leakL (P T : Int) (xs : List G3) : List G3 := xs.filterMap (leakG P T)
theorem leakL_len (P T : Int) (xs : List G3) : (leakL P T xs).length ≤ xs.length := List.length_filterMap_le _ _
theorem leakL_take {P T : Int} {xs : List G3} {j : Nat} (hj : j < xs.length) : leakL P T (xs.take (j + 1)) = leakL P T (xs.take j) ++ (leakG P T xs[j]!).toList := by
  unfold leakL
  rw [List.take_succ_eq_append_getElem hj, List.filterMap_append]
  rw [getElem!_pos xs j hj]
  cases h : leakG P T xs[j] <;> simp [List.filterMap_cons, h]
theorem leakN_in {P T : Int} {x : G3} (hP : 1 ≤ P) (h : x.t ≤ T) : 0 ≤ leakN P T x ∧ leakN P T x ≤ T - x.t ∧ 0 ≤ leakN P T x * P ∧ leakN P T x * P ≤ T - x.t ∧ (T - x.t).tdiv P = leakN P T x := by
  unfold leakN
  rw [if_pos h]
  have h1 : 0 ≤ (T - x.t) / P := Int.ediv_nonneg (by omega) (by omega)
  have h2 : (T - x.t) / P * P ≤ T - x.t := Int.ediv_mul_le _ (by omega)
  have h3 : (T - x.t) / P ≤ T - x.t := Int.ediv_le_self _ (by omega)
  exact ⟨h1, h3, Int.mul_nonneg h1 (by omega), h2, Int.tdiv_eq_ediv_of_nonneg (by omega)⟩

theorem within_any (n lo hi : Int) (w : World) : Calls Try.prog 16 #[.int .i64 n, .int .i64 lo, .int .i64 hi] w (Gives (.bool (decide (lo ≤ n ∧ n ≤ hi))) w) := by
  go_enter Try.func16, Try.ntmps16
  have H := HS.start NoD w
  go_wp2_with fail
  all_goals go_ret
  all_goals refine ⟨?_, H.done⟩
  all_goals simp_all
  all_goals omega

set_option maxHeartbeats 4000000 in
theorem leak_ok {P T : Int} (L : Int) {sa : Option Addr} (c : Nat) {xs : List G3} (hok : GOK P T xs) (w : World) (hl : Lies w w.heap.size sa 3 xs.length (fun j => gC xs[j]!)) :
    Calls Try.prog 19 #[vG P L (.slice sa xs.length c), .int .i64 T] w (GivesS (vG P L) 33 3 (leakL P T xs).length ((leakL P T xs).flatMap gC) w) := by
  have HL := Lib.hid hl
  have HOK := Lib.hid hok
  have hxl := hok.len
  clear hl hok
  go_enter Try.func19, Try.ntmps19
  have H := HS.start NoD w
  go_wp2_with fail
  generalize hwb : ((w.alloc _).alloc _).alloc _ = w1
  replace H := HS.eqW hwb H.alloc.alloc.alloc
  try simp only [World.size_alloc, List.nil_append, List.cons_append, List.append_assoc] at H
  clear hwb
  generalize w.heap.size + 2 = bO at H ⊢
  generalize w.heap.size + 1 = bR at H ⊢
  generalize w.heap.size = bG at H ⊢
  try clear C
  have C := H.cells
  try simp only [cellsOf, apartOf, and_true] at C
  have hn := H.nilRow 33 3
  clear H
  have H := hn
  clear hn
  try simp only [List.nil_append, List.cons_append] at H
  go_loopw [17] (fun i wr => ∃ (j : Nat) (v : Value), i = .int .i64 j ∧ j ≤ xs.length ∧ HS NoD w [.blk bG #[.int .i64 P, .int .i64 L, .slice sa xs.length c] 24, .blk bR #[.int .i64 0, .int .i64 0, .slice none 0 0] 24, .blk bO #[.int .i64 P, .int .i64 L, v] 24, .row v 33 3 (leakL P T (xs.take j)).length ((leakL P T (xs.take j)).flatMap gC)] wr) (fun i _ => xs.length - (intOf i).toNat)
  case atStart => exact ⟨0, _, rfl, Nat.zero_le _, H⟩
  case round =>
    clear H C w1
    obtain ⟨j, v, rfl, hj, H⟩ := hrel
    skip
    try clear C
    try simp only [World.size_alloc, List.nil_append, List.cons_append, List.append_assoc] at H
    have C := H.cells
    try simp only [cellsOf, apartOf, and_true] at C
    by_cases hlt : j < xs.length
    · obtain ⟨b, o, rfl, hb, hc⟩ := (H.lies HL.out).at hlt
      have htk := leakL_take (P := P) (T := T) hlt
      have hxo := HOK.out.all xs[j]! (by rw [getElem!_pos xs j hlt]; exact List.getElem_mem _)
      obtain ⟨x, hx⟩ : ∃ x, x = xs[j]! := ⟨_, rfl⟩
      rw [← hx] at hc hxo htk
      obtain ⟨p, l, t⟩ := x
      have c0 : wr.cell? ⟨b, o + j * 3, none⟩ = some (.int .i64 p) := hc 0 _ rfl
      have c1 : wr.cell? ⟨b, o + j * 3 + 1, none⟩ = some (.int .i64 l) := hc 1 _ rfl
      have c2 : wr.cell? ⟨b, o + j * 3 + 2, none⟩ = some (.int .i64 t) := hc 2 _ rfl
      dsimp only at hxo
      have HTK := Lib.hid htk
      clear hc hx htk
      generalize hys : leakL P T (xs.take j) = ys at H C HTK
      have hylen : ys.length ≤ 1000 := by rw [← hys]; exact Nat.le_trans (leakL_len _ _ _) (Nat.le_trans (List.length_take_le' _ _) HOK.out.len)
      clear hys
      obtain ⟨q, hq⟩ : ∃ q, q = leakN P T ⟨p, l, t⟩ := ⟨_, rfl⟩
      have hgo : wrap64 (l - q) = l - q ∧ (t ≤ T → wrap64 (T - t) = T - t ∧ (T - t).tdiv P = q ∧ wrap64 q = q ∧ wrap64 (q * P) = q * P ∧ wrap64 (t + q * P) = t + q * P) ∧ (¬ t ≤ T → q = 0) := by
        have hT2 := HOK.out.T2
        have hT0 := HOK.out.T0
        by_cases hge : t ≤ T
        · have h1 := leakN_in (x := ⟨p, l, t⟩) HOK.out.P1 hge
          rw [← hq] at h1
          generalize q * P = m at h1 ⊢
          dsimp only at h1
          refine ⟨IntWalk.wrap64_in _ (by omega), fun _ => ⟨IntWalk.wrap64_in _ (by omega), h1.2.2.2.2, IntWalk.wrap64_in _ (by omega), IntWalk.wrap64_in _ (by omega), IntWalk.wrap64_in _ (by omega)⟩, fun h => absurd hge h⟩
        · have : q = 0 := by rw [hq]; unfold leakN; rw [if_neg hge]
          subst this
          exact ⟨IntWalk.wrap64_in _ (by omega), fun h => absurd h hge, fun _ => rfl⟩
      have htk2 : leakL P T (xs.take (j + 1)) = ys ++ (if 0 < l - q then [⟨p, l - q, t + q * P⟩] else []) := by
        rw [HTK.out]
        unfold leakG
        rw [← hq]
        dsimp only
        split <;> rfl
      have HTK2 := Lib.hid htk2
      have hP0 : P ≠ 0 := by have := HOK.out.P1; omega
      have hP1 : 0 < P := by have := HOK.out.P1; omega
      have hP2 : ¬ P = -1 := by have := HOK.out.P1; omega
      clear htk2 HTK hq
      obtain ⟨q0, qs, qz⟩ := hgo
      by_cases hge : t ≤ T
      · obtain ⟨q1, q2, q3, q4, q5⟩ := qs hge
        clear qs qz
        by_cases hpos : 0 < l - q
        · rw [if_pos hpos] at HTK2
          go_upto_region 10 with fail
          generalize hwb : wr.alloc _ = w2
          replace H := HS.eqW hwb H.alloc
          try simp only [World.size_alloc, List.nil_append, List.cons_append, List.append_assoc] at H
          clear hwb
          generalize wr.heap.size = bx at H ⊢
          try clear C
          try clear wr
          have C := H.cells
          try simp only [cellsOf, apartOf, and_true] at C
          go_wp2_with (at_builtin; refine wpList_append_H rfl (.tmp 54) (.tmp 56) 22 rfl elemG H.alloc 3 rfl rfl 5 rfl rfl rfl rfl (by decide) (by unfold maxLen; omega) (by omega) (fun g cap wz HZ => ?_); clear H C; have C := HZ.cells; simp only [List.nil_append, List.cons_append, List.set_cons_succ, List.set_cons_zero, cellsOf, apartOf, and_true] at C)
          go_roundw
          case rel =>
            refine ⟨j + 1, .slice (some ⟨g, 0, none⟩) (ys.length + 1) cap, by go_num, by omega, ?_⟩
            rw [HTK2.out]
            have HY := HZ.setTo (o := 2) (v := .slice (some ⟨g, 0, none⟩) (ys.length + 1) cap) 2 rfl rfl
            rw [List.length_append, List.flatMap_append]
            exact HY.less (by repeat (first | exact .slnil | refine .cons_cons _ ?_ | refine .cons _ ?_))
          case measure => simp [intOf]; omega
        · rw [if_neg hpos, List.append_nil] at HTK2
          go_wp2_with fail
          go_roundw
          case rel => exact ⟨j + 1, v, by go_num, by omega, by rw [HTK2.out]; exact H.alloc.less (by repeat (first | exact .slnil | refine .cons_cons _ ?_ | refine .cons _ ?_))⟩
          case measure => simp [intOf]; omega
      · obtain rfl := qz hge
        clear qs qz
        simp only [Int.sub_zero, Int.zero_mul, Int.add_zero] at HTK2 q0
        by_cases hpos : 0 < l
        · rw [if_pos hpos] at HTK2
          go_upto_region 10 with fail
          skip
          generalize hwb : wr.alloc _ = w3
          replace H := HS.eqW hwb H.alloc
          try simp only [World.size_alloc, List.nil_append, List.cons_append, List.append_assoc] at H
          clear hwb
          generalize wr.heap.size = bx at H ⊢
          try clear C
          try clear wr
          have C := H.cells
          try simp only [cellsOf, apartOf, and_true] at C
          go_wp2_with (at_builtin; refine wpList_append_H rfl (.tmp 54) (.tmp 56) 22 rfl elemG H.alloc 3 rfl rfl 5 rfl rfl rfl rfl (by decide) (by unfold maxLen; omega) (by omega) (fun g cap wz HZ => ?_); clear H C; have C := HZ.cells; simp only [List.nil_append, List.cons_append, List.set_cons_succ, List.set_cons_zero, cellsOf, apartOf, and_true] at C)
          go_roundw
          case rel =>
            refine ⟨j + 1, .slice (some ⟨g, 0, none⟩) (ys.length + 1) cap, by go_num, by omega, ?_⟩
            rw [HTK2.out]
            have HY := HZ.setTo (o := 2) (v := .slice (some ⟨g, 0, none⟩) (ys.length + 1) cap) 2 rfl rfl
            rw [List.length_append, List.flatMap_append]
            exact HY.less (by repeat (first | exact .slnil | refine .cons_cons _ ?_ | refine .cons _ ?_))
          case measure => simp [intOf]; omega
        · omega
    · have hje : j = xs.length := by omega
      subst hje
      rw [List.take_length] at H
      skip
      try clear C
      try simp only [World.size_alloc, List.nil_append, List.cons_append, List.append_assoc] at H
      have C := H.cells
      try simp only [cellsOf, apartOf, and_true] at C
      obtain ⟨sb, d, rfl⟩ := ownsRow_slice (H.at 3 rfl)
      go_wp2_with fail
      generalize hwb : ((wr.setCell _ _).setCell _ _).setCell _ _ = w4
      replace H := HS.eqW hwb (H.putAll (i := 1) rfl (vs := [.int .i64 P, .int .i64 L, .slice sb (leakL P T xs).length d]) rfl rfl)
      simp only [List.nil_append, List.cons_append, List.append_assoc, List.set_cons_succ, List.set_cons_zero] at H
      clear hwb
      try clear C
      try clear wr
      have C := H.cells
      try simp only [cellsOf, apartOf, and_true] at C
      refine bodyPost_ret (by simp [results, Try.results19, go_sem, C]; try rfl) rfl ?_
      exact H.givesS 3 rfl
end Go.Proofs.Ytdcieajdgmopkaa
