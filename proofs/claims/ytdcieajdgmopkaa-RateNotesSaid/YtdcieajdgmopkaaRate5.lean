/- Package rate: Over; Note on gauges of one part; the example of chapter 26. -/
import Derived.Test.YtdcieajdgmopkaaRate4
namespace Go.Proofs.Ytdcieajdgmopkaa
set_option linter.unusedSimpArgs false
set_option linter.unusedVariables false
open Go.RowKit
set_option maxRecDepth 100000
attribute [local go_sem] lt_more ne_more ne_more'

theorem infoI : (Try.prog.info? 3).map (fun i => (i.zero, i.size, i.bytes)) = some (some (.int .i64 0), 1, 8) := by kernel_rfl
theorem elemI : Elem Try.prog 25 3 (.int .i64 0) 1 8 := Elem.mk' Try.underlying25 infoI rfl (by decide)
def overL (L : Int) (xs : List G3) : List Value := (xs.filter fun x => decide (L ≤ x.l)).map fun x => .int .i64 x.p
theorem overL_len (L : Int) (xs : List G3) : (overL L xs).length ≤ xs.length := by
  unfold overL; rw [List.length_map]; exact List.length_filter_le _ _
theorem overL_take {L : Int} {xs : List G3} {j : Nat} (hj : j < xs.length) : overL L (xs.take (j + 1)) = overL L (xs.take j) ++ if L ≤ xs[j]!.l then [.int .i64 xs[j]!.p] else [] := by
  unfold overL
  rw [List.take_succ_eq_append_getElem hj, List.filter_append, List.map_append, getElem!_pos xs j hj]
  split <;> simp [*]
set_option maxHeartbeats 4000000 in
theorem over_any (P L : Int) {sa : Option Addr} (c : Nat) {xs : List G3} (hx : xs.length ≤ 1000) (w : World) (hl : Lies w w.heap.size sa 3 xs.length (fun j => gC xs[j]!)) :
    Calls Try.prog 14 #[vG P L (.slice sa xs.length c)] w (GivesS (fun v => v) 3 1 (overL L xs).length (overL L xs) w) := by
  have HL := Lib.hid hl
  clear hl
  go_enter Try.func14, Try.ntmps14
  have H := HS.start NoD w
  go_wp2_with fail
  generalize hwb : w.alloc _ = w1
  replace H := HS.eqW hwb H.alloc
  try simp only [World.size_alloc, List.nil_append, List.cons_append, List.append_assoc] at H
  clear hwb
  generalize w.heap.size = bG at H ⊢
  try clear C
  have C := H.cells
  try simp only [cellsOf, apartOf, and_true] at C
  have hn := H.nilRow 3 1
  clear H
  have H := hn
  clear hn
  try simp only [List.nil_append, List.cons_append] at H
  go_loopw [3, 9] (fun v i wr => ∃ (j : Nat), i = .int .i64 j ∧ j ≤ xs.length ∧ HS NoD w [.blk bG #[.int .i64 P, .int .i64 L, .slice sa xs.length c] 24, .row v 3 1 (overL L (xs.take j)).length (overL L (xs.take j))] wr) (fun _ i _ => xs.length - (intOf i).toNat)
  case atStart => exact ⟨0, rfl, Nat.zero_le _, H⟩
  case round =>
    clear H C w1
    obtain ⟨j, rfl, hj, H⟩ := hrel
    rename_i v _ _
    skip
    try clear C
    try simp only [World.size_alloc, List.nil_append, List.cons_append, List.append_assoc] at H
    have C := H.cells
    try simp only [cellsOf, apartOf, and_true] at C
    by_cases hlt : j < xs.length
    · obtain ⟨b, o, rfl, hb, hc⟩ := (H.lies HL.out).at hlt
      have htk := overL_take (L := L) hlt
      obtain ⟨x, hxj⟩ : ∃ x, x = xs[j]! := ⟨_, rfl⟩
      rw [← hxj] at hc htk
      obtain ⟨p, l, t⟩ := x
      have c0 : wr.cell? ⟨b, o + j * 3, none⟩ = some (.int .i64 p) := hc 0 _ rfl
      have c1 : wr.cell? ⟨b, o + j * 3 + 1, none⟩ = some (.int .i64 l) := hc 1 _ rfl
      have c2 : wr.cell? ⟨b, o + j * 3 + 2, none⟩ = some (.int .i64 t) := hc 2 _ rfl
      dsimp only at htk
      have HTK := Lib.hid htk
      clear hc hxj htk
      generalize hys : overL L (xs.take j) = ys at H C HTK
      have hyl : ys.length ≤ 1000 := by rw [← hys]; exact Nat.le_trans (overL_len _ _) (Nat.le_trans (List.length_take_le' _ _) hx)
      clear hys
      by_cases hge : L ≤ l
      · rw [if_pos hge] at HTK
        go_upto_region 6 with fail
        generalize hwb : wr.alloc _ = w2
        replace H := HS.eqW hwb H.alloc
        try simp only [World.size_alloc, List.nil_append, List.cons_append, List.append_assoc] at H
        clear hwb
        generalize wr.heap.size = bx at H ⊢
        try clear C
        try clear wr
        have C := H.cells
        try simp only [cellsOf, apartOf, and_true] at C
        go_wp2_with (at_builtin; refine wpList_append_H rfl (.tmp 18) (.tmp 21) 25 rfl elemI H.alloc 1 rfl rfl 3 rfl rfl rfl rfl (by decide) (by unfold maxLen; omega) (by omega) (fun g cap wz HZ => ?_); clear H C)
        go_roundw
        case rel =>
          refine ⟨j + 1, by go_num, by omega, ?_⟩
          rw [HTK.out, List.length_append]
          exact HZ.less (by repeat (first | exact .slnil | refine .cons_cons _ ?_ | refine .cons _ ?_))
        case measure => simp [intOf]; omega
      · rw [if_neg hge, List.append_nil] at HTK
        skip
        go_wp2_with fail
        go_roundw
        case rel =>
          refine ⟨j + 1, by go_num, by omega, ?_⟩
          rw [HTK.out]
          exact H.alloc.less (by repeat (first | exact .slnil | refine .cons_cons _ ?_ | refine .cons _ ?_))
        case measure => simp [intOf]; omega
    · have hje : j = xs.length := by omega
      subst hje
      rw [List.take_length] at H
      skip
      try clear C
      try simp only [World.size_alloc, List.nil_append, List.cons_append, List.append_assoc] at H
      have C := H.cells
      try simp only [cellsOf, apartOf, and_true] at C
      obtain ⟨sb, d, rfl⟩ := ownsRow_slice (H.at 1 rfl)
      go_wp2_with fail
      go_ret
      exact H.givesS 1 (mk := fun v => v) rfl

/-- What becomes of the gauge of a part, where there is no other one. -/
def newG (P T part n : Int) (xs : List G3) : G3 :=
  match leakL P T xs with
  | [] => ⟨part, n, T⟩
  | x :: _ => ⟨part, min (x.l + n) 1048576, x.t⟩
theorem noteR_one {P T part n : Int} {xs zs : List G3} {lv : Int} (h : NoteR part T n (leakL P T xs) zs lv) (hx : xs.length ≤ 1) (hp : ∀ x ∈ xs, x.p = part) : zs = [newG P T part n xs] ∧ lv = (newG P T part n xs).l := by
  have h1 : (leakL P T xs).length ≤ 1 := Nat.le_trans (leakL_len _ _ _) hx
  have h2 : ∀ y ∈ leakL P T xs, y.p = part := fun y hy => by
    obtain ⟨x, hxm, hxy⟩ := List.mem_filterMap.1 hy
    unfold leakG at hxy
    split at hxy
    · simp at hxy; subst hxy; exact hp x hxm
    · cases hxy
  unfold newG
  generalize leakL P T xs = ys at *
  cases h with
  | found i h3 h4 h5 =>
    match ys, h1, h3 with
    | [y], _, h3 =>
      obtain rfl : i = 0 := by simpa using h3
      simp
  | last h3 h4 =>
    match ys, h1 with
    | [], _ => simp
    | [y], _ =>
      have := h3 y (by simp); have := h2 y (by simp); omega
theorem note_one {P L part T n : Int} {sa : Option Addr} (c : Nat) {xs : List G3} (hv : rvB P L xs = true) (hpart : 0 ≤ part) (hT : 0 ≤ T ∧ T ≤ 1099511627776) (hn : 1 ≤ n ∧ n ≤ 1048576) (hx : xs.length ≤ 1) (hall : ∀ x ∈ xs, x.p = part ∧ x.t ≤ T)
    (w : World) (hl : Lies w w.heap.size sa 3 xs.length (fun j => gC xs[j]!)) :
    Calls Try.prog 9 #[vG P L (.slice sa xs.length c), .int .i64 part, .int .i64 T, .int .i64 n] w (GivesS (fun v => .tuple #[vG P L v, .bool (decide (L ≤ (newG P T part n xs).l)), .int .i64 0]) 33 3 [newG P T part n xs].length ([newG P T part n xs].flatMap gC) w) := by
  refine (note_ok c hv hpart hT hn (fun x hx => (hall x hx).2) ⟨?_, fun y hy => ?_⟩ w hl).mono ?_
  · have := leakL_len P T xs; omega
  · obtain ⟨x, hxm, hxy⟩ := List.mem_filterMap.1 hy
    unfold leakG at hxy
    split at hxy
    · simp at hxy; subst hxy; exact Int.le_of_eq (hall x hxm).1
    · cases hxy
  · rintro e w' ⟨zs, lv, hR, hG⟩
    obtain ⟨rfl, rfl⟩ := noteR_one hR hx (fun x hx => (hall x hx).1)
    exact hG

def awG (j : Nat) : List G3 := if j = 0 then [] else [⟨7, j, 0⟩]
def awS (j : Nat) : List G3 := if j = 0 then [] else [⟨7, 1, 10 * (j - 1 : Int)⟩]
theorem awG_ok (j : Nat) (hj : j < 3) : rvB 10 3 (awG j) = true := by
  obtain rfl | rfl | rfl : j = 0 ∨ j = 1 ∨ j = 2 := by omega
  all_goals decide +kernel
theorem awS_ok (j : Nat) (hj : j < 3) : rvB 10 3 (awS j) = true := by
  obtain rfl | rfl | rfl : j = 0 ∨ j = 1 ∨ j = 2 := by omega
  all_goals decide +kernel
theorem aw_note (j : Nat) (hj : j < 3) {sa : Option Addr} (c : Nat) (w : World) (hl : Lies w w.heap.size sa 3 (awG j).length (fun k => gC (awG j)[k]!)) :
    Calls Try.prog 9 #[vG 10 3 (.slice sa (awG j).length c), .int .i64 7, .int .i64 j, .int .i64 1] w (GivesS (fun v => .tuple #[vG 10 3 v, .bool (decide (3 ≤ j + 1)), .int .i64 0]) 33 3 (awG (j + 1)).length ((awG (j + 1)).flatMap gC) w) := by
  have h := note_one (P := 10) (L := 3) (part := 7) (T := j) (n := 1) (sa := sa) c (xs := awG j) (awG_ok j hj) (by decide) (by omega) (by decide) (by unfold awG; split <;> simp) (by unfold awG; split <;> simp) w hl
  have e : [newG 10 j 7 1 (awG j)] = awG (j + 1) ∧ (newG 10 j 7 1 (awG j)).l = j + 1 := by
    obtain rfl | rfl | rfl : j = 0 ∨ j = 1 ∨ j = 2 := by omega
    all_goals decide +kernel
  rw [e.1, e.2] at h
  have e3 : decide ((3 : Int) ≤ (j : Int) + 1) = decide (3 ≤ j + 1) := decide_eq_decide.2 (by omega)
  rw [e3] at h
  exact h
theorem aw_slow (j : Nat) (hj : j < 3) {sa : Option Addr} (c : Nat) (w : World) (hl : Lies w w.heap.size sa 3 (awS j).length (fun k => gC (awS j)[k]!)) :
    Calls Try.prog 9 #[vG 10 3 (.slice sa (awS j).length c), .int .i64 7, .int .i64 (10 * j), .int .i64 1] w (GivesS (fun v => .tuple #[vG 10 3 v, .bool false, .int .i64 0]) 33 3 (awS (j + 1)).length ((awS (j + 1)).flatMap gC) w) := by
  have h := note_one (P := 10) (L := 3) (part := 7) (T := 10 * j) (n := 1) (sa := sa) c (xs := awS j) (awS_ok j hj) (by decide) (by omega) (by decide) (by unfold awS; split <;> simp) (by unfold awS; split <;> simp <;> omega) w hl
  have e : [newG 10 (10 * j) 7 1 (awS j)] = awS (j + 1) ∧ (newG 10 (10 * j) 7 1 (awS j)).l = 1 := by
    obtain rfl | rfl | rfl : j = 0 ∨ j = 1 ∨ j = 2 := by omega
    all_goals decide +kernel
  rw [e.1, e.2] at h
  exact h
set_option maxHeartbeats 4000000 in
theorem awake26 (w : World) : Calls Try.prog 5 #[] w (Gives (.bool true) w) := by
  go_enter Try.func5, Try.ntmps5
  have H := HS.start NoD w
  go_wp2_with fail
  generalize hwb : (w.alloc _).alloc _ = w1
  replace H := HS.eqW hwb H.alloc.alloc
  try simp only [World.size_alloc, List.nil_append, List.cons_append, List.append_assoc] at H
  clear hwb
  generalize w.heap.size + 1 = bS at H ⊢
  generalize w.heap.size = bG at H ⊢
  try clear C
  have C := H.cells
  try simp only [cellsOf, apartOf, and_true] at C
  have hn := (H.nilRow 33 3).nilRow 33 3
  clear H
  have H := hn
  clear hn
  try simp only [List.nil_append, List.cons_append] at H
  go_loopw [3, 4, 5, 6, 7] (fun ov lt e f k wr => ∃ (j : Nat) (v1 v2 : Value), k = .int .i64 j ∧ ov = .bool (decide (3 ≤ j)) ∧ lt = .bool false ∧ e = .int .i64 0 ∧ f = .int .i64 0 ∧ j ≤ 3 ∧ HS NoD w [.blk bG #[.int .i64 10, .int .i64 3, v1] 24, .blk bS #[.int .i64 10, .int .i64 3, v2] 24, .row v1 33 3 (awG j).length ((awG j).flatMap gC), .row v2 33 3 (awS j).length ((awS j).flatMap gC)] wr) (fun _ _ _ _ k _ => 3 - (intOf k).toNat)
  case atStart => exact ⟨0, _, _, rfl, rfl, rfl, rfl, rfl, by decide, H⟩
  case round =>
    clear H C w1
    obtain ⟨j, v1, v2, rfl, rfl, rfl, rfl, rfl, hj, H⟩ := hrel
    obtain ⟨s1, d1, rfl⟩ := ownsRow_slice (H.at 2 rfl)
    obtain ⟨s2, d2, rfl⟩ := ownsRow_slice (H.at 3 rfl)
    skip
    try clear C
    try simp only [World.size_alloc, List.nil_append, List.cons_append, List.append_assoc] at H
    have C := H.cells
    try simp only [cellsOf, apartOf, and_true] at C
    by_cases hlt : j < 3
    · have HA := Lib.hid (fun w hl => aw_note j hlt (sa := s1) d1 w hl)
      have HB := Lib.hid (fun w hl => aw_slow j hlt (sa := s2) d2 w hl)
      have hlt' : (j : Int) < 3 := by omega
      have q1 : wrap64 (10 * (j : Int)) = 10 * j := IntWalk.wrap64_in _ (by omega)
      go_wp2_with fail
      refine (HA.out _ (H.rowLies 2 gC_len rfl rfl)).mono ?_
      rintro _ w2 ⟨s3, d3, rfl, hr, hb⟩
      replace H := (H).getsRow hb hr
      clear hb hr
      try clear C
      try simp only [World.size_alloc, List.nil_append, List.cons_append, List.append_assoc] at H
      try clear wr
      have C := H.cells
      try simp only [cellsOf, apartOf, and_true] at C
      dsimp only
      go_upto_region 9 with fail
      generalize hwb : ((w2.setCell _ _).setCell _ _).setCell _ _ = w3
      replace H := HS.eqW hwb (H.putAll (i := 0) rfl (vs := [.int .i64 10, .int .i64 3, .slice s3 (awG (j + 1)).length d3]) rfl rfl)
      simp only [List.nil_append, List.cons_append, List.append_assoc, List.set_cons_succ, List.set_cons_zero] at H
      clear hwb
      try clear C
      try clear w2
      have C := H.cells
      try simp only [cellsOf, apartOf, and_true] at C
      go_wp2_with fail
      refine (HB.out _ (H.rowLies 3 gC_len rfl rfl)).mono ?_
      rintro _ w4 ⟨s4, d4, rfl, hr, hb⟩
      replace H := (H).getsRow hb hr
      clear hb hr
      try clear C
      try simp only [World.size_alloc, List.nil_append, List.cons_append, List.append_assoc] at H
      try clear w3
      have C := H.cells
      try simp only [cellsOf, apartOf, and_true] at C
      dsimp only
      go_wp2_with fail
      generalize hwb : ((w4.setCell _ _).setCell _ _).setCell _ _ = w5
      replace H := HS.eqW hwb (H.putAll (i := 1) rfl (vs := [.int .i64 10, .int .i64 3, .slice s4 (awS (j + 1)).length d4]) rfl rfl)
      simp only [List.nil_append, List.cons_append, List.append_assoc, List.set_cons_succ, List.set_cons_zero] at H
      clear hwb
      try clear C
      try clear w4
      have C := H.cells
      try simp only [cellsOf, apartOf, and_true] at C
      go_roundw
      case rel => exact ⟨j + 1, _, _, by go_num, congrArg Value.bool (decide_eq_decide.2 (by omega)), rfl, rfl, rfl, by omega, H.less (by repeat (first | exact .slnil | refine .cons_cons _ ?_ | refine .cons _ ?_))⟩
      case measure => simp [intOf]; omega
    · have hje : j = 3 := by omega
      subst hje
      have HA := Lib.hid (fun w hl => over_any 10 3 d1 (xs := awG 3) (sa := s1) (by decide) w hl)
      have HB := Lib.hid (fun w hl => over_any 10 3 d2 (xs := awS 3) (sa := s2) (by decide) w hl)
      have o1 : (overL 3 (awG 3)).length = 1 := by decide +kernel
      have o2 : (overL 3 (awS 3)).length = 0 := by decide +kernel
      skip
      go_wp2_with fail
      refine (HA.out _ (H.rowLies 2 gC_len rfl rfl)).mono ?_
      rintro _ w6 ⟨s3, d3, rfl, hr, hb⟩
      replace H := (H).getsRow hb hr
      clear hb hr
      try clear C
      try simp only [World.size_alloc, List.nil_append, List.cons_append, List.append_assoc] at H
      try clear wr
      have C := H.cells
      try simp only [cellsOf, apartOf, and_true] at C
      dsimp only
      go_wp2_with fail
      refine (HB.out _ (H.rowLies 3 gC_len rfl rfl)).mono ?_
      rintro _ w7 ⟨s4, d4, rfl, hr, hb⟩
      replace H := (H).getsRow hb hr
      clear hb hr
      try clear C
      try simp only [World.size_alloc, List.nil_append, List.cons_append, List.append_assoc] at H
      try clear w6
      have C := H.cells
      try simp only [cellsOf, apartOf, and_true] at C
      dsimp only
      go_wp2_with fail
      go_ret
      exact ⟨rfl, H.done⟩
end Go.Proofs.Ytdcieajdgmopkaa
