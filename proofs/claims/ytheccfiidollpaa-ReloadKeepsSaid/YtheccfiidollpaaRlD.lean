/- reload.index, Unused, Get. -/
import Derived.Test.YtheccfiidollpaaRlC
namespace Go.Proofs.Ytheccfiidollpaa
set_option linter.unusedSimpArgs false
set_option linter.unusedVariables false
open Go.RowKit
set_option maxRecDepth 100000
attribute [local irreducible] wpX wpF Calls

/-- What a search over a slice by a test hands back. -/
def FindPostBb (p : Bv → Bool) (xs : List Bv) (w : World) (e : Ending) (w' : World) : Prop :=
  ∃ r : Int, e = .returned (.int .i64 r) ∧ ((r = -1 ∧ ∀ i, i < xs.length → p xs[i]! = false) ∨ ∃ i : Nat, i < xs.length ∧ r = i ∧ p xs[i]! = true ∧ ∀ j, j < i → p xs[j]! = false) ∧ Below w.heap.size w w'
/-- The closure g with the captured addresses lb answers by p. -/
def AsksBb (g : Nat) (lb : Array Value) (p : Bv → Bool) (w : World) : Prop := ∀ W x, Below w.heap.size w W → Calls Try.prog g (#[.agg (bvC x).toArray] ++ lb) W (Gives (.bool (p x)) W)
set_option maxHeartbeats 2000000 in
theorem findBb (g : Nat) (eg : ∀ args w, (callFunc g args).run Try.prog w = .ok (.enter g args) w) (lb : Array Value) (p : Bv → Bool) {sa : Option Addr} (c : Nat) {xs : List Bv} (hx : xs.length ≤ 100000) (w : World) (hl : Lies w w.heap.size sa 2 xs.length (fun j => bvC xs[j]!)) (hp : AsksBb g lb p w) :
    Calls Try.prog 30 #[.slice sa xs.length c, .func (.func g) #[] lb] w (FindPostBb p xs w) := by
  have HL := Lib.hid hl
  have HP := Lib.hid hp
  clear hl hp
  go_enter Try.func30, Try.ntmps30
  have H := HS.start NoD w
  go_wp2_with fail
  go_loopw [5, 8] (fun _ i wr => ∃ (j : Nat), i = .int .i64 j ∧ j ≤ xs.length ∧ Hid (∀ i, i < j → p xs[i]! = false) ∧ HS NoD w [] wr) (fun _ i _ => xs.length - (intOf i).toNat)
  case atStart => exact ⟨0, rfl, Nat.zero_le _, fun i hi => absurd hi (Nat.not_lt_zero _), H⟩
  case round =>
    clear H
    obtain ⟨j, rfl, hj, HF, H⟩ := hrel
    skip
    by_cases hlt : j < xs.length
    · obtain ⟨b, o, rfl, hb, hc⟩ := (H.lies HL.out).at hlt
      have hcall := Lib.hid (fun (b : Bool) (e : p xs[j]! = b) => by have := HP.out wr xs[j]! H.done; rw [e] at this; exact this)
      obtain ⟨x, hxj⟩ : ∃ x, x = xs[j]! := ⟨_, rfl⟩
      rw [← hxj] at hc hcall
      have c0 : wr.cell? ⟨b, o + j * 2, none⟩ = _ := hc 0 _ rfl
      have c1 : wr.cell? ⟨b, o + j * 2 + 1, none⟩ = _ := hc 1 _ rfl
      have HX := Lib.hid hxj
      clear hc hxj
      cases hq : p x with
      | true =>
        have HQ := Lib.hid hq
        have hca := hcall.out _ hq
        clear hq hcall
        go_wp2_with fail
        refine hca.mono ?_
        rintro _ w1 ⟨rfl, hb1⟩
        clear hca
        go_wp2_with fail
        go_ret
        exact ⟨_, rfl, .inr ⟨j, hlt, rfl, by rw [← HX.out]; exact HQ.out, HF.out⟩, (H.below hb1).done⟩
      | false =>
        have HQ := Lib.hid hq
        have hca := hcall.out _ hq
        clear hq hcall
        go_wp2_with fail
        refine hca.mono ?_
        rintro _ w1 ⟨rfl, hb1⟩
        clear hca
        go_wp2_with fail
        go_roundw
        case rel =>
          refine ⟨j + 1, by go_num, by omega, (show Hid _ from fun i hi => ?_), H.below hb1⟩
          by_cases e : i = j
          · subst e; rw [← HX.out]; exact HQ.out
          · exact HF.out i (by omega)
        case measure => simp [intOf]; omega
    · go_wp2_with fail
      go_ret
      exact ⟨-1, rfl, .inl ⟨rfl, fun i hi => HF.out i (by omega)⟩, H.done⟩

theorem ridx1_any (x : Bv) (id : Int) (bI : Nat) (w : World) (hc : ∀ o, w.cell? ⟨bI, o, none⟩ = #[Value.int .i64 id][o]?) (hl : bI < w.heap.size) : Calls Try.prog 31 (#[.agg (bvC x).toArray] ++ #[.pointer (some ⟨bI, 0, none⟩)]) w (Gives (.bool (decide (x.id = id))) w) := by
  obtain ⟨xi, xa, xn, xc⟩ := x
  show Calls Try.prog 31 #[.agg #[.int .i64 xi, .slice xa xn xc], .pointer (some ⟨bI, 0, none⟩)] w _
  have n1 : (bI = w.heap.size) = False := eq_false (by omega)
  have n2 : (w.heap.size = bI) = False := eq_false (by omega)
  by_cases h : xi = id
  · subst h
    go_enter Try.func31, Try.ntmps31
    have H := HS.start NoD w
    go_wp2_with fail
    go_ret
    exact ⟨by simp, H.skipAlloc.done⟩
  · have hb : (xi == id) = false := beq_eq_false_iff_ne.2 h
    go_enter Try.func31, Try.ntmps31
    have H := HS.start NoD w
    go_wp2_with fail
    go_ret
    exact ⟨by simp [h], H.skipAlloc.done⟩
def FindI (l : List Bm) (id r : Int) : Prop := (r = -1 ∧ ∀ i, i < l.length → (l[i]!).id ≠ id) ∨ ∃ i : Nat, i < l.length ∧ r = i ∧ (l[i]!).id = id ∧ ∀ j, j < i → (l[j]!).id ≠ id
set_option maxHeartbeats 4000000 in
theorem rindex_any (x : Sv) (l : List Bm) (hs : l.length ≤ 1000) (id : Int) (w : World) (h : StoreAt w x l) : Calls Try.prog 19 #[x.v, .int .i64 id] w (fun e w' => ∃ r, e = .returned (.int .i64 r) ∧ FindI l id r ∧ Below w.heap.size w w') := by
  obtain ⟨sa, n, c⟩ := x
  obtain ⟨q0, hql, hn, hcap, hl, hb⟩ := h
  dsimp only at hn hcap hl
  subst hn
  have HL := Lib.hid hl
  have HID := Lib.hid (fun j (hj : j < l.length) => (hb j hj).1)
  have HQL := Lib.hid hql
  have hq1000 : q0.length ≤ 1000 := by omega
  clear hb hcap hl hql
  show Calls Try.prog 19 #[.slice sa q0.length c, .int .i64 id] w _
  go_enter Try.func19, Try.ntmps19
  have H := HS.start NoD w
  go_wp2_with fail
  generalize hwb : w.alloc _ = w1
  replace H := HS.eqW hwb H.alloc
  try simp only [World.size_alloc, List.nil_append, List.cons_append, List.append_assoc] at H
  clear hwb
  generalize w.heap.size = bI at H ⊢
  try clear C
  have C := H.cells
  try simp only [cellsOf, cellsM, apartOf, apartM, and_true] at C
  have hcon := findBb 31 (fun _ _ => rfl) #[.pointer (some ⟨bI, 0, none⟩)] (fun q => decide (q.id = id)) c (by omega) w1 (H.liesUp HL.out) (fun W x hb => ridx1_any x id bI W ((Blk.below (H.at 0 rfl) hb).cell) (Blk.below (H.at 0 rfl) hb).lt)
  refine (hcon).mono ?_
  rintro _ w2 ⟨r, rfl, hr, hb⟩
  replace H := H.below hb
  clear hb
  try clear C
  try simp only [World.size_alloc, List.nil_append, List.cons_append, List.append_assoc] at H
  try clear w1
  have C := H.cells
  try simp only [cellsOf, cellsM, apartOf, apartM, and_true] at C
  dsimp only
  have HR := Lib.hid (show FindI l id r from by
    rcases hr with ⟨h1, h2⟩ | ⟨i, h1, h2, h3, h4⟩
    · exact .inl ⟨h1, fun i hi => by have := h2 i (by rw [HQL.out]; exact hi); rw [← HID.out i hi]; simpa using this⟩
    · rw [HQL.out] at h1
      refine .inr ⟨i, h1, h2, by rw [← HID.out i h1]; simpa using h3, fun j hj => ?_⟩
      have := h4 j hj
      rw [← HID.out j (by omega)]; simpa using this)
  clear hr hcon
  go_wp2_with fail
  go_ret
  exact ⟨r, rfl, HR.out, H.done⟩
def UnusedIs (l : List Bm) (u : Int) : Prop := (u = 0 ∨ 1 ≤ u ∧ u ≤ 64 ∧ ∀ i, i < l.length → (l[i]!).id ≠ u) ∧ ∀ k : Int, 1 ≤ k → k ≤ 64 → (k < u ∨ u = 0) → ∃ i, i < l.length ∧ (l[i]!).id = k
set_option maxHeartbeats 4000000 in
theorem runused_any (x : Sv) (l : List Bm) (hs : l.length ≤ 1000) (w : World) (h : StoreAt w x l) : Calls Try.prog 11 #[x.v] w (fun e w' => ∃ u, e = .returned (.int .i64 u) ∧ UnusedIs l u ∧ Below w.heap.size w w') := by
  have HS0 := Lib.hid h
  have HIX := Lib.hid (fun id w h => rindex_any x l hs id w h)
  clear h
  obtain ⟨sa, n, c⟩ := x
  show Calls Try.prog 11 #[.slice sa n c] w _
  have HIX2 := Lib.hid (fun id w h => (show Calls Try.prog 19 #[.slice sa n c, .int .i64 id] w _ from HIX.out id w h))
  clear HIX
  go_enter Try.func11, Try.ntmps11
  have H := HS.start NoD w
  go_wp2_with fail
  go_loopw [3] (fun kk wr => ∃ (k : Nat), kk = .int .i64 k ∧ 1 ≤ k ∧ k ≤ 65 ∧ Hid (∀ m : Int, 1 ≤ m → m < k → ∃ i, i < l.length ∧ (l[i]!).id = m) ∧ HS NoD w [] wr) (fun kk _ => 65 - (intOf kk).toNat)
  case atStart => exact ⟨1, rfl, by omega, by omega, (show Hid _ from fun m h1 h2 => by omega), H⟩
  case round =>
    clear H
    obtain ⟨k, rfl, hk1, hk2, HF, H⟩ := hrel
    skip
    try clear C
    try simp only [World.size_alloc, List.nil_append, List.cons_append, List.append_assoc] at H
    have C := H.cells
    try simp only [cellsOf, cellsM, apartOf, apartM, and_true] at C
    by_cases hlt : k ≤ 64
    · have hki : (k : Int) ≤ 64 := by omega
      go_wp2_with fail
      refine (HIX2.out k _ (HS0.out.up H.done)).mono ?_
      rintro _ w1 ⟨r, rfl, hr, hb⟩
      replace H := H.below hb
      clear hb
      try clear C
      try simp only [World.size_alloc, List.nil_append, List.cons_append, List.append_assoc] at H
      try clear wr
      have C := H.cells
      try simp only [cellsOf, cellsM, apartOf, apartM, and_true] at C
      dsimp only
      rcases hr with ⟨rfl, hr⟩ | ⟨i, hi, rfl, hid, hfi⟩
      · have HN := Lib.hid hr
        clear hr
        go_wp2_with fail
        go_ret
        exact ⟨k, rfl, ⟨.inr ⟨by omega, by omega, HN.out⟩, fun m h1 h2 h3 => HF.out m h1 (by omega)⟩, H.done⟩
      · have HN := Lib.hid (show ∀ m : Int, 1 ≤ m → m < ((k + 1 : Nat) : Int) → ∃ i, i < l.length ∧ (l[i]!).id = m from fun m h1 h2 => by
          by_cases e : m = k
          · exact ⟨i, hi, by rw [hid, e]⟩
          · exact HF.out m h1 (by omega))
        have hi0 : ¬ (i : Int) < 0 := by omega
        clear hid hfi
        go_wp2_with fail
        go_roundw
        case rel => exact ⟨k + 1, by go_num, by omega, by omega, HN, H⟩
        case measure => simp [intOf]; omega
    · obtain rfl : k = 65 := by omega
      go_wp2_with fail
      go_ret
      exact ⟨0, rfl, ⟨.inl rfl, fun m h1 h2 h3 => HF.out m h1 (by omega)⟩, H.done⟩
def GivesGet (l : List Bm) (id : Int) (w : World) (e : Ending) (w' : World) : Prop :=
  (∃ (i : Nat) (q : Bv) (F : Nat → Prop), i < l.length ∧ (l[i]!).id = id ∧ e = .returned (.tuple #[vBv q, .bool true]) ∧ HS NoD w [.any F (fun w => BlobAt w q l[i]!)] w') ∨
  ((∀ i, i < l.length → (l[i]!).id ≠ id) ∧ e = .returned (.tuple #[vBv ⟨0, ⟨none, 0, 0⟩⟩, .bool false]) ∧ HS NoD w [] w')
set_option maxHeartbeats 4000000 in
theorem rget_any (x : Sv) (l : List Bm) (hs : SmallS l) (id : Int) (w : World) (h : StoreAt w x l) : Calls Try.prog 13 #[x.v, .int .i64 id] w (GivesGet l id w) := by
  have HS0 := Lib.hid h
  have HIX := Lib.hid (fun w h => rindex_any x l hs.1 id w h)
  have HSM := Lib.hid hs.2
  obtain ⟨sa, n, c⟩ := x
  obtain ⟨q0, hql, hn, hcap, hl, hb⟩ := h
  dsimp only at hn hcap hl
  subst hn
  have HB := Lib.hid hb
  have HL := Lib.hid hl
  have HQL := Lib.hid hql
  clear hb hl hcap hql hs
  show Calls Try.prog 13 #[.slice sa q0.length c, .int .i64 id] w _
  have HIX2 := Lib.hid (fun w h => (show Calls Try.prog 19 #[.slice sa q0.length c, .int .i64 id] w _ from HIX.out w h))
  clear HIX
  go_enter Try.func13, Try.ntmps13
  have H := HS.start NoD w
  go_upto_region 1 with fail
  generalize hwb : w.alloc _ = w1
  replace H := HS.eqW hwb H.alloc
  try simp only [World.size_alloc, List.nil_append, List.cons_append, List.append_assoc] at H
  clear hwb
  generalize w.heap.size = bR at H ⊢
  try clear C
  have C := H.cells
  try simp only [cellsOf, cellsM, apartOf, apartM, and_true] at C
  go_wp2_with fail
  refine (HIX2.out _ (HS0.out.up H.done)).mono ?_
  rintro _ w2 ⟨r, rfl, hr, hb⟩
  replace H := H.below hb
  clear hb
  try clear C
  try simp only [World.size_alloc, List.nil_append, List.cons_append, List.append_assoc] at H
  try clear w1
  have C := H.cells
  try simp only [cellsOf, cellsM, apartOf, apartM, and_true] at C
  dsimp only
  skip
  rcases hr with ⟨rfl, hr⟩ | ⟨i, hi, rfl, hid, hfi⟩
  · have HN := Lib.hid hr
    clear hr
    go_wp2_with fail
    generalize hwb : (w2.setCell _ _).setCell _ _ = w3
    replace H := HS.eqW hwb (H.putAll (i := 0) rfl (vs := [.int .i64 0, .slice none 0 0]) rfl rfl)
    simp only [List.nil_append, List.cons_append, List.append_assoc, List.set_cons_succ, List.set_cons_zero] at H
    clear hwb
    try clear C
    try clear w2
    have C := H.cells
    try simp only [cellsOf, cellsM, apartOf, apartM, and_true] at C
    refine bodyPost_ret (by simp [results, Try.results13, go_sem, C]; try rfl) rfl ?_
    exact .inr ⟨HN.out, rfl, HS.less H (by repeat (first | exact .slnil | refine .cons_cons _ ?_ | refine .cons _ ?_))⟩
  · skip
    have HQI := Lib.hid hid
    have hi2 : i < q0.length := by rw [HQL.out]; exact hi
    have hii : (i : Int) < q0.length := by omega
    have hi0 : ¬ (i : Int) < 0 := by omega
    obtain ⟨b, o, rfl, hb, hc⟩ := (H.liesUp HL.out).at hi2
    have HBJ := Lib.hid (HB.out i hi)
    have HOW := Lib.hid (fun wx hx => owned_any q0[i]! l[i]! (HSM.out i hi) wx hx)
    generalize q0[i]! = x at hc HBJ HOW
    obtain ⟨xi, xa, xn, xc⟩ := x
    have c0 : w2.cell? ⟨b, o + i * 2, none⟩ = some (.int .i64 xi) := hc 0 _ rfl
    have c1 : w2.cell? ⟨b, o + i * 2 + 1, none⟩ = some (.slice xa xn xc) := hc 1 _ rfl
    have HOW2 := Lib.hid (fun wx hx => (show Calls Try.prog 26 #[.agg #[.int .i64 xi, .slice xa xn xc]] wx (GivesBlob l[i]! wx) from HOW.out wx hx))
    clear hc HOW hid hfi
    go_wp2_with fail
    refine (HOW2.out _ (HBJ.out.up H.done)).mono ?_
    rintro _ w8 ⟨q, G, rfl, K⟩
    replace H := H.join K (one_low rfl)
    clear K c0 c1 HOW2
    try simp only [List.nil_append, List.cons_append] at H
    obtain ⟨qi, qa, qn, qc⟩ := q
    skip
    try clear C
    try simp only [World.size_alloc, List.nil_append, List.cons_append, List.append_assoc] at H
    have C := H.cells
    try simp only [cellsOf, cellsM, apartOf, apartM, and_true] at C
    dsimp only [vBv]
    go_wp2_with fail
    generalize hwb : (w8.setCell _ _).setCell _ _ = w4
    replace H := HS.eqW hwb (H.putAll (i := 0) rfl (vs := [.int .i64 qi, .slice qa qn qc]) rfl rfl)
    simp only [List.nil_append, List.cons_append, List.append_assoc, List.set_cons_succ, List.set_cons_zero] at H
    clear hwb
    try clear C
    try clear w8
    have C := H.cells
    try simp only [cellsOf, cellsM, apartOf, apartM, and_true] at C
    refine bodyPost_ret (by simp [results, Try.results13, go_sem, C]; try rfl) rfl ?_
    exact .inl ⟨i, ⟨qi, qa, qn, qc⟩, G, hi, HQI.out, rfl, HS.less H (by repeat (first | exact .slnil | refine .cons_cons _ ?_ | refine .cons _ ?_))⟩
end Go.Proofs.Ytheccfiidollpaa
