/- Plan (chapter 39): the best plan (plan.Best). -/
import Derived.Test.YtdhnpjgnnfgklaaPlR
namespace Go.Proofs.Ytdhnpjgnnfgklaa
set_option linter.unusedSimpArgs false
set_option linter.unusedVariables false
open Go.RowKit
set_option maxRecDepth 100000
attribute [local irreducible] wpX wpF Calls
attribute [local go_sem] run_mkMapG

/-- What a call hands back that makes a plan. -/
def GivesPl (R : PlR) (er : Int) (w : World) (e : Ending) (w' : World) : Prop :=
  ∃ (sk : Option Addr) (ck : Nat) (sr : Option Addr) (cr : Nat), e = .returned (.tuple #[.agg #[.slice sr R.rows.length cr, .slice sk R.ranks.length ck, .int .i64 R.saved], .int .i64 er]) ∧
    HS NoD w [.row (.slice sk R.ranks.length ck) 39 6 R.ranks.length (R.ranks.flatMap pC), .row (.slice sr R.rows.length cr) 3 1 R.rows.length (R.rows.flatMap iC)] w'
noncomputable def bestV (s : P6) (l : List Nd) (a b : Int) : PlR × Int := if validN s l then (if (0 ≤ a ∧ a ≤ 12) ∧ 0 ≤ b ∧ b ≤ 12 then (bestP l a b, 0) else (⟨[], [], 0⟩, 2)) else (⟨[], [], 0⟩, 1)
theorem givesPl_nil {er : Int} {w w' : World} (hb : Below w.heap.size w w') : GivesPl ⟨[], [], 0⟩ er w (.returned (.tuple #[.agg #[.slice none 0 0, .slice none 0 0, .int .i64 0], .int .i64 er])) w' := by
  refine ⟨none, 0, none, 0, rfl, ?_⟩
  have h := ((((HS.start NoD w).below hb).nilRow 39 6).nilRow 3 1)
  simpa using h
theorem validN.loss {s : P6} {l : List Nd} (h : validN s l) : LossOk l := by
  refine ⟨by have := h.2.1; omega, fun x hx => ?_⟩
  obtain ⟨i, hi, rfl⟩ := List.getElem_of_mem hx
  have := h.2.2 i hi
  unfold goodN at this
  rw [getElem!_pos l i hi] at this
  exact ⟨this.2.2.1, this.2.2.2.1⟩
def CompactP (sa : Option Addr) (c : Nat) (ts : List P6) (w : World) (e : Ending) (w' : World) : Prop :=
  e = .returned (.slice sa (compactP ts).length c) ∧ w'.ownsRow 0 39 6 (.slice sa (compactP ts).length c) (compactP ts).length ((compactP ts).flatMap pC) ∧ w.grownBy w' (Value.slice sa ts.length c).ownBlock
theorem compact_all {sa : Option Addr} (c : Nat) {ts : List P6} (hn : ts.length ≤ 100) (w : World) (hr : w.ownsRow 0 39 6 (.slice sa ts.length c) ts.length (ts.flatMap pC)) :
    Calls Try.prog 28 #[.slice sa ts.length c] w (CompactP sa c ts w) := by
  by_cases h0 : ts = []
  · subst h0
    have HR := Lib.hid hr
    clear hr
    show Calls Try.prog 28 #[.slice sa 0 c] w _
    go_enter Try.func28, Try.ntmps28
    have H := HS.start NoD w
    go_wp2_with fail
    go_ret
    exact ⟨rfl, HR.out, grown_below _ H.done⟩
  · have h00 : 0 < ts.length := List.length_pos_iff.2 h0
    obtain ⟨g, cap, hv, -, -⟩ := World.ownsRow.form hr h00
    obtain ⟨rfl, -, rfl⟩ := Value.slice.inj hv
    clear hv
    refine (compact_any c h00 hn w hr).mono ?_
    rintro e w' ⟨rfl, H⟩
    exact ⟨rfl, H.at 0 rfl, grown_chg H.doneDice⟩
/-- The plan at hand ahead of the set n: nothing, or the best of the sets below. -/
def accN (al : List P6) (l : List Nd) (a b : Int) (n : Nat) : PlR := if n = 0 then ⟨[], [], 0⟩ else bestN al l a b n
theorem accN_crowd {al : List P6} {l : List Nd} {a b : Int} {n : Nat} (h : crowdP chanP (pickS al n) b = true) : accN al l a b (n + 1) = accN al l a b n ∨ n = 0 := by
  by_cases h0 : n = 0
  · exact .inr h0
  · refine .inl ?_
    unfold accN
    rw [if_neg (by omega), if_neg h0]
    show bestStep al l a b (bestN al l a b n) n = _
    unfold bestStep; rw [if_pos h]
theorem accN_better {al : List P6} {l : List Nd} {a b : Int} {n : Nat} (h0 : n ≠ 0) (hc : crowdP chanP (pickS al n) b = false) : accN al l a b (n + 1) = if betterP (planOf l a (pickS al n)) (accN al l a b n) = true then planOf l a (pickS al n) else accN al l a b n := by
  unfold accN
  rw [if_neg (by omega), if_neg h0]
  show bestStep al l a b (bestN al l a b n) n = _
  unfold bestStep; rw [hc, if_neg (by simp)]
theorem accN_one {al : List P6} {l : List Nd} {a b : Int} (hl : NonNeg l) : accN al l a b 1 = planOf l a (pickS al 0) := by
  unfold accN
  rw [if_neg (by omega), bestN_one hl, pickS_zero]
theorem accN_full {al : List P6} {l : List Nd} {a b : Int} : accN al l a b (2 ^ al.length) = bestN al l a b (2 ^ al.length) := by
  unfold accN
  rw [if_neg (by have := Nat.two_pow_pos al.length; omega)]
theorem rankK_take {l : List Nd} {k : Nat} (hk : k < l.length) : (l.take (k + 1)).map (fun x => rankP x.p) = (l.take k).map (fun x => rankP x.p) ++ [rankP l[k]!.p] := by
  rw [List.take_add_one, List.getElem?_eq_getElem hk, List.map_append, getElem!_pos l k hk]
  rfl
set_option maxHeartbeats 8000000 in
theorem pBest_bad1 (a0 a1 a2 a3 a4 a5 : Int) {sa : Option Addr} (c : Nat) {l : List Nd} (hx : l.length ≤ 100000) (hcap : l.length ≤ c) (a b : Int) (hv : ¬ validN ⟨a0, a1, a2, a3, a4, a5⟩ l) (w : World) (hl : Lies w w.heap.size sa 7 l.length (fun j => ndC l[j]!)) :
    Calls Try.prog 13 #[v6 a0 a1 a2 a3 a4 a5, .slice sa l.length c, .int .i64 a, .int .i64 b] w (GivesPl ⟨[], [], 0⟩ 1 w) := by
  have hvd := decide_eq_false hv
  have HL := Lib.hid hl
  clear hl
  go_enter Try.func13, Try.ntmps13
  have H := HS.start NoD w
  have HVA := Lib.hid (fun wx hx9 => pvalid_any a0 a1 a2 a3 a4 a5 (sa := sa) c hx hcap wx hx9)
  go_upto_region 1 with fail
  generalize hwb : (w.alloc _).alloc _ = w1
  replace H := HS.eqW hwb H.alloc.alloc
  try simp only [World.size_alloc, List.nil_append, List.cons_append, List.append_assoc] at H
  clear hwb
  generalize w.heap.size + 1 = bO at H ⊢
  generalize w.heap.size = bS at H ⊢
  try clear C
  have C := H.cells
  try simp only [cellsOf, cellsM, apartOf, apartM, and_true] at C
  go_wp2_with fail
  refine (HVA.out _ (H.liesUp HL.out)).mono ?_
  rintro _ w5 ⟨rfl, hb⟩
  replace H := H.below hb
  clear hb HVA
  rw [hvd]
  clear hvd
  skip
  try clear C
  try simp only [World.size_alloc, List.nil_append, List.cons_append, List.append_assoc] at H
  have C := H.cells
  try simp only [cellsOf, cellsM, apartOf, apartM, and_true] at C
  dsimp only
  go_wp2_with fail
  generalize hwb : ((w5.setCell _ _).setCell _ _).setCell _ _ = w2
  replace H := HS.eqW hwb (H.putAll (i := 1) rfl (vs := [.slice none 0 0, .slice none 0 0, .int .i64 0]) rfl rfl)
  simp only [List.nil_append, List.cons_append, List.append_assoc, List.set_cons_succ, List.set_cons_zero] at H
  clear hwb
  try clear C
  try clear w5
  have C := H.cells
  try simp only [cellsOf, cellsM, apartOf, apartM, and_true] at C
  refine bodyPost_ret (by simp [results, Try.results13, go_sem, C]; try rfl) rfl ?_
  exact givesPl_nil H.done
set_option maxHeartbeats 8000000 in
theorem pBest_bad2 (a0 a1 a2 a3 a4 a5 : Int) {sa : Option Addr} (c : Nat) {l : List Nd} (hx : l.length ≤ 100000) (hcap : l.length ≤ c) (a b : Int) (hv : validN ⟨a0, a1, a2, a3, a4, a5⟩ l) (hf : ¬ ((0 ≤ a ∧ a ≤ 12) ∧ 0 ≤ b ∧ b ≤ 12)) (w : World) (hl : Lies w w.heap.size sa 7 l.length (fun j => ndC l[j]!)) :
    Calls Try.prog 13 #[v6 a0 a1 a2 a3 a4 a5, .slice sa l.length c, .int .i64 a, .int .i64 b] w (GivesPl ⟨[], [], 0⟩ 2 w) := by
  have hvd := decide_eq_true hv
  clear hv
  have HL := Lib.hid hl
  clear hl
  go_enter Try.func13, Try.ntmps13
  have H := HS.start NoD w
  have HVA := Lib.hid (fun wx hx9 => pvalid_any a0 a1 a2 a3 a4 a5 (sa := sa) c hx hcap wx hx9)
  go_upto_region 1 with fail
  generalize hwb : (w.alloc _).alloc _ = w1
  replace H := HS.eqW hwb H.alloc.alloc
  try simp only [World.size_alloc, List.nil_append, List.cons_append, List.append_assoc] at H
  clear hwb
  generalize w.heap.size + 1 = bO at H ⊢
  generalize w.heap.size = bS at H ⊢
  try clear C
  have C := H.cells
  try simp only [cellsOf, cellsM, apartOf, apartM, and_true] at C
  go_wp2_with fail
  refine (HVA.out _ (H.liesUp HL.out)).mono ?_
  rintro _ w5 ⟨rfl, hb⟩
  replace H := H.below hb
  clear hb HVA
  rw [hvd]
  clear hvd
  skip
  try clear C
  try simp only [World.size_alloc, List.nil_append, List.cons_append, List.append_assoc] at H
  have C := H.cells
  try simp only [cellsOf, cellsM, apartOf, apartM, and_true] at C
  dsimp only
  by_cases hfa : 0 ≤ a ∧ a ≤ 12
  · have hfad := decide_eq_true hfa
    have hfb : ¬ (0 ≤ b ∧ b ≤ 12) := fun h => hf ⟨hfa, h⟩
    have hfbd := decide_eq_false hfb
    clear hfa hfb hf
    go_wp2_with fail
    refine (few_any a _).mono ?_
    rintro _ w6 ⟨rfl, hb⟩
    replace H := H.below hb
    clear hb
    rw [hfad]
    skip
    try clear C
    try simp only [World.size_alloc, List.nil_append, List.cons_append, List.append_assoc] at H
    have C := H.cells
    try simp only [cellsOf, cellsM, apartOf, apartM, and_true] at C
    dsimp only
    go_wp2_with fail
    refine (few_any b _).mono ?_
    rintro _ w7 ⟨rfl, hb⟩
    replace H := H.below hb
    clear hb
    rw [hfbd]
    skip
    try clear C
    try simp only [World.size_alloc, List.nil_append, List.cons_append, List.append_assoc] at H
    have C := H.cells
    try simp only [cellsOf, cellsM, apartOf, apartM, and_true] at C
    dsimp only
    go_wp2_with fail
    generalize hwb : ((w7.setCell _ _).setCell _ _).setCell _ _ = w2
    replace H := HS.eqW hwb (H.putAll (i := 1) rfl (vs := [.slice none 0 0, .slice none 0 0, .int .i64 0]) rfl rfl)
    simp only [List.nil_append, List.cons_append, List.append_assoc, List.set_cons_succ, List.set_cons_zero] at H
    clear hwb
    try clear C
    try clear w7
    have C := H.cells
    try simp only [cellsOf, cellsM, apartOf, apartM, and_true] at C
    refine bodyPost_ret (by simp [results, Try.results13, go_sem, C]; try rfl) rfl ?_
    exact givesPl_nil H.done
  · have hfad := decide_eq_false hfa
    clear hfa hf
    skip
    go_wp2_with fail
    refine (few_any a _).mono ?_
    rintro _ w6 ⟨rfl, hb⟩
    replace H := H.below hb
    clear hb
    rw [hfad]
    skip
    try clear C
    try simp only [World.size_alloc, List.nil_append, List.cons_append, List.append_assoc] at H
    have C := H.cells
    try simp only [cellsOf, cellsM, apartOf, apartM, and_true] at C
    dsimp only
    go_wp2_with fail
    generalize hwb : ((w6.setCell _ _).setCell _ _).setCell _ _ = w3
    replace H := HS.eqW hwb (H.putAll (i := 1) rfl (vs := [.slice none 0 0, .slice none 0 0, .int .i64 0]) rfl rfl)
    simp only [List.nil_append, List.cons_append, List.append_assoc, List.set_cons_succ, List.set_cons_zero] at H
    clear hwb
    try clear C
    try clear w6
    have C := H.cells
    try simp only [cellsOf, cellsM, apartOf, apartM, and_true] at C
    refine bodyPost_ret (by simp [results, Try.results13, go_sem, C]; try rfl) rfl ?_
    exact givesPl_nil H.done
theorem u64_and_nat (a b : Nat) (ha : a < 9223372036854775808) (hb : b < 9223372036854775808) : bits .and .u64 (a : Int) (b : Int) = ((a &&& b : Nat) : Int) := by
  have hx : a &&& b < 2 ^ 63 := Nat.and_lt_two_pow _ (by omega)
  show IntKind.u64.wrap ((BitVec.ofInt 64 (a : Int) &&& BitVec.ofInt 64 (b : Int)).toNat : Int) = _
  rw [BitVec.toNat_and, ofInt_i64 a ha, ofInt_i64 b hb]
  unfold IntKind.wrap
  simp [IntKind.bits, IntKind.signed]
  omega
theorem bit_at (n k : Nat) (hn : n < 4611686018427387904) : bits .and .u64 ((n : Int) / 2 ^ k) 1 = ((n / 2 ^ k % 2 : Nat) : Int) := by
  have h1 : ((n : Int) / 2 ^ k) = ((n / 2 ^ k : Nat) : Int) := by push_cast; rfl
  have h2 : n / 2 ^ k ≤ n := Nat.div_le_self _ _
  rw [h1, show (1 : Int) = ((1 : Nat) : Int) from rfl, u64_and_nat _ _ (by omega) (by omega), Nat.and_one_is_mod]
set_option maxHeartbeats 64000000 in
theorem pBest_ok (a0 a1 a2 a3 a4 a5 : Int) {sa : Option Addr} (c : Nat) {l : List Nd} (hx : l.length ≤ 100000) (hcap : l.length ≤ c) (a b : Int) (hv : validN ⟨a0, a1, a2, a3, a4, a5⟩ l) (hfa : 0 ≤ a ∧ a ≤ 12) (hfb : 0 ≤ b ∧ b ≤ 12) (w : World) (hl : Lies w w.heap.size sa 7 l.length (fun j => ndC l[j]!)) :
    Calls Try.prog 13 #[v6 a0 a1 a2 a3 a4 a5, .slice sa l.length c, .int .i64 a, .int .i64 b] w (GivesPl (bestP l a b) 0 w) := by
  have hvd := decide_eq_true hv
  have hfad := decide_eq_true hfa
  have hfbd := decide_eq_true hfb
  have hl12 : l.length ≤ 12 := hv.2.1
  have HOK := Lib.hid hv.loss
  have HFA := Lib.hid hfa
  have HFB := Lib.hid hfb
  clear hv hfa hfb
  have HL := Lib.hid hl
  clear hl
  go_enter Try.func13, Try.ntmps13
  have H := HS.start NoD w
  have HVA := Lib.hid (fun wx hx9 => pvalid_any a0 a1 a2 a3 a4 a5 (sa := sa) c hx hcap wx hx9)
  go_upto_region 1 with fail
  generalize hwb : (w.alloc _).alloc _ = w1
  replace H := HS.eqW hwb H.alloc.alloc
  try simp only [World.size_alloc, List.nil_append, List.cons_append, List.append_assoc] at H
  clear hwb
  generalize w.heap.size + 1 = bO at H ⊢
  generalize w.heap.size = bS at H ⊢
  try clear C
  have C := H.cells
  try simp only [cellsOf, cellsM, apartOf, apartM, and_true] at C
  go_wp2_with fail
  refine (HVA.out _ (H.liesUp HL.out)).mono ?_
  rintro _ w5 ⟨rfl, hb⟩
  replace H := H.below hb
  clear hb HVA
  rw [hvd]
  clear hvd
  skip
  try clear C
  try simp only [World.size_alloc, List.nil_append, List.cons_append, List.append_assoc] at H
  have C := H.cells
  try simp only [cellsOf, cellsM, apartOf, apartM, and_true] at C
  dsimp only
  go_wp2_with fail
  refine (few_any a _).mono ?_
  rintro _ w6 ⟨rfl, hb⟩
  replace H := H.below hb
  clear hb
  rw [hfad]
  skip
  try clear C
  try simp only [World.size_alloc, List.nil_append, List.cons_append, List.append_assoc] at H
  have C := H.cells
  try simp only [cellsOf, cellsM, apartOf, apartM, and_true] at C
  dsimp only
  go_wp2_with fail
  refine (few_any b _).mono ?_
  rintro _ w7 ⟨rfl, hb⟩
  replace H := H.below hb
  clear hb
  rw [hfbd]
  skip
  try clear C
  try simp only [World.size_alloc, List.nil_append, List.cons_append, List.append_assoc] at H
  have C := H.cells
  try simp only [cellsOf, cellsM, apartOf, apartM, and_true] at C
  dsimp only
  clear hfad hfbd
  go_upto_region 6 with fail
  have hnr := H.nilRow 39 6
  clear H
  have H := hnr
  clear hnr
  try simp only [List.nil_append, List.cons_append] at H
  try clear C
  try simp only [World.size_alloc, List.nil_append, List.cons_append, List.append_assoc] at H
  have C := H.cells
  try simp only [cellsOf, cellsM, apartOf, apartM, and_true] at C
  go_wp2_with fail
  go_loopw [10, 36] (fun u j wr => ∃ (k : Nat) (xs : List P6), j = .int .i64 k ∧ k ≤ l.length ∧ Hid (xs = (l.take k).map fun x => rankP x.p) ∧ HS NoD w [.blk bS #[.int .i64 a0, .int .i64 a1, .int .i64 a2, .int .i64 a3, .int .i64 a4, .int .i64 a5] 28, .blk bO #[.slice none 0 0, .slice none 0 0, .int .i64 0] 35, .row u 39 6 xs.length (xs.flatMap pC)] wr) (fun _ j _ => l.length - (intOf j).toNat)
  case atStart => exact ⟨0, [], rfl, Nat.zero_le _, (show Hid _ from rfl), H⟩
  case round =>
    clear H C
    obtain ⟨k, xs, rfl, hk, HX, H⟩ := hrel
    skip
    try clear C
    try simp only [World.size_alloc, List.nil_append, List.cons_append, List.append_assoc] at H
    have C := H.cells
    try simp only [cellsOf, cellsM, apartOf, apartM, and_true] at C
    by_cases hlt : k < l.length
    · have hki : (k : Int) < l.length := by omega
      have hxl : xs.length ≤ 12 := by rw [HX.out, List.length_map, List.length_take]; omega
      obtain ⟨b, o, rfl, hb, hc⟩ := (H.lies HL.out).at hlt
      obtain ⟨q, hq⟩ : ∃ q, q = l[k]! := ⟨_, rfl⟩
      rw [← hq] at hc
      have HQ := Lib.hid hq
      clear hq
      have HTK := Lib.hid (rankK_take hlt)
      rw [← HQ.out] at HTK
      have HRP := Lib.hid (fun W => prank_any q.p W)
      obtain ⟨⟨p0, p1, p2, p3, p4, p5⟩, pl⟩ := q
      have c0 : wr.cell? ⟨b, o + k * 7, none⟩ = some (.int .i64 p0) := hc 0 _ rfl
      have c1 : wr.cell? ⟨b, o + k * 7 + 1, none⟩ = some (.int .i64 p1) := hc 1 _ rfl
      have c2 : wr.cell? ⟨b, o + k * 7 + 2, none⟩ = some (.int .i64 p2) := hc 2 _ rfl
      have c3 : wr.cell? ⟨b, o + k * 7 + 3, none⟩ = some (.int .i64 p3) := hc 3 _ rfl
      have c4 : wr.cell? ⟨b, o + k * 7 + 4, none⟩ = some (.int .i64 p4) := hc 4 _ rfl
      have c5 : wr.cell? ⟨b, o + k * 7 + 5, none⟩ = some (.int .i64 p5) := hc 5 _ rfl
      have c6 : wr.cell? ⟨b, o + k * 7 + 6, none⟩ = some (.int .i64 pl) := hc 6 _ rfl
      clear hc hb
      dsimp only at HRP HTK
      generalize rankP ⟨p0, p1, p2, p3, p4, p5⟩ = y at HRP HTK
      replace HRP := Lib.hid (show ∀ W, Calls Try.prog 25 #[v6 p0 p1 p2 p3 p4 p5] W (Gives (v6 y.a y.b y.c y.d y.e y.f) W) from HRP.out)
      go_upto_region 9 with fail
      clear c0 c1 c2 c3 c4 c5 c6
      generalize hwb : wr.alloc _ = w2
      replace H := HS.eqW hwb H.alloc
      try simp only [World.size_alloc, List.nil_append, List.cons_append, List.append_assoc] at H
      clear hwb
      generalize wr.heap.size = bN at H ⊢
      try clear C
      try clear wr
      have C := H.cells
      try simp only [cellsOf, cellsM, apartOf, apartM, and_true] at C
      go_wp2_with fail
      refine (HRP.out _).mono ?_
      rintro _ wc ⟨rfl, hb⟩
      replace H := H.below hb
      clear hb
      skip
      try clear C
      try simp only [World.size_alloc, List.nil_append, List.cons_append, List.append_assoc] at H
      have C := H.cells
      try simp only [cellsOf, cellsM, apartOf, apartM, and_true] at C
      go_wp2_with (at_builtin; refine wpList_append_H rfl (.tmp 40) (.tmp 44) 33 rfl elemPl H.alloc 2 rfl rfl 4 rfl rfl rfl rfl (by decide) (by unfold maxLen; omega) (by omega) (fun g cap wz HZ9 => ?_); clear H C)
      go_roundw
      case rel =>
        refine ⟨k + 1, xs ++ [y], by go_num, by omega, (show Hid _ from by rw [HTK.out, HX.out]; rfl), ?_⟩
        rw [List.length_append, List.flatMap_append]
        exact HS.less HZ9 (by repeat (first | exact .slnil | refine .cons_cons _ ?_ | refine .cons _ ?_))
      case measure => simp [intOf]; omega
    · skip
      have hkl : k = l.length := by omega
      subst hkl
      obtain ⟨s5, c5, rfl⟩ := ownsRow_slice (H.at 2 rfl)
      have hxx := HX.out
      rw [List.take_length] at hxx
      have HXX := Lib.hid hxx
      have hxl : xs.length ≤ 12 := by rw [hxx, List.length_map]; omega
      clear hxx HX
      go_wp2_with fail
      refine (sortPl_any (by omega) _ (H.at 2 rfl)).mono ?_
      rintro _ wd ⟨rfl, ts, htp, hts, hrow, hgr⟩
      have H1 := H.grownAt 2 rfl hgr (.inr ⟨hrow, fun k hk => .inl hk⟩)
      clear H C
      have H := H1
      clear H1 hrow hgr
      simp only [List.set_cons_succ, List.set_cons_zero] at H
      have htl : ts.length = xs.length := htp.length_eq
      rw [← htl] at H ⊢
      have htn : ts.length ≤ 12 := by omega
      clear htl
      skip
      try clear C
      try simp only [World.size_alloc, List.nil_append, List.cons_append, List.append_assoc] at H
      have C := H.cells
      try simp only [cellsOf, cellsM, apartOf, apartM, and_true] at C
      dsimp only
      go_wp2_with fail
      refine (compact_all c5 (by omega) _ (H.at 2 rfl)).mono ?_
      rintro _ we ⟨rfl, hrow, hgr⟩
      have H1 := H.grownAt 2 rfl hgr (.inr ⟨hrow, fun k hk => .inl (by cases s5 with
                                                                       | none => cases (show (none : Option Nat) = some k from hk)
                                                                       | some ad => exact hk)⟩)
      clear H C
      have H := H1
      clear H1 hrow hgr
      simp only [List.set_cons_succ, List.set_cons_zero] at H
      have hal : compactP ts = allR l := compactP_all (HXX.out ▸ htp) hts
      rw [hal] at H ⊢
      clear hal htp hts HXX
      have HAL := Lib.hid (allR_rank l)
      obtain ⟨al, hale⟩ : ∃ al, al = allR l := ⟨_, rfl⟩
      rw [← hale] at H HAL ⊢
      have hall : al.length ≤ 12 := by rw [hale]; have := allR_len l; omega
      have HALE := Lib.hid hale
      clear hale
      skip
      try clear C
      try simp only [World.size_alloc, List.nil_append, List.cons_append, List.append_assoc] at H
      have C := H.cells
      try simp only [cellsOf, cellsM, apartOf, apartM, and_true] at C
      dsimp only
      go_upto_region 14 with fail
      generalize hwb : we.alloc _ = w3
      replace H := HS.eqW hwb H.alloc
      try simp only [World.size_alloc, List.nil_append, List.cons_append, List.append_assoc] at H
      clear hwb
      generalize we.heap.size = bT at H ⊢
      try clear C
      try clear we
      have C := H.cells
      try simp only [cellsOf, cellsM, apartOf, apartM, and_true] at C
      have hnr := (H.nilRow 39 6).nilRow 3 1
      clear H
      have H := hnr
      clear hnr
      try simp only [List.nil_append, List.cons_append] at H
      try clear C
      try simp only [World.size_alloc, List.nil_append, List.cons_append, List.append_assoc] at H
      have C := H.cells
      try simp only [cellsOf, cellsM, apartOf, apartM, and_true] at C
      obtain ⟨N, hN⟩ : ∃ N : Nat, N = 2 ^ al.length := ⟨_, rfl⟩
      have hNb : 1 ≤ N ∧ N ≤ 4096 := by
        rw [hN]
        refine ⟨Nat.two_pow_pos _, ?_⟩
        have := Nat.pow_le_pow_right (n := 2) (by omega) hall
        omega
      have HN := Lib.hid hN
      clear hN
      have hali : (al.length : Int) < 64 := by omega
      have hw54 : IntKind.u64.wrap ((2 : Int) ^ al.length) = (N : Int) := by
        have h1 : ((2 : Int) ^ al.length) = (N : Int) := by rw [HN.out]; push_cast; rfl
        rw [h1]
        unfold IntKind.wrap
        simp [IntKind.bits, IntKind.signed]
        omega
      go_wp2_with fail
      clear hw54 hali
      go_loopw [55] (fun ss wr => ∃ (n : Nat) (R : PlR) (sk : Option Addr) (ck : Nat) (sr : Option Addr) (cr : Nat), ss = .int .u64 n ∧ n ≤ N ∧ R.ranks.length ≤ 12 ∧ Hid (R = accN al l a b n) ∧ Hid (∀ r ∈ R.ranks, RankIs r) ∧ HS NoD w [.blk bS #[.int .i64 a0, .int .i64 a1, .int .i64 a2, .int .i64 a3, .int .i64 a4, .int .i64 a5] 28, .blk bO #[.slice none 0 0, .slice none 0 0, .int .i64 0] 35, .row (.slice s5 al.length c5) 39 6 al.length (al.flatMap pC), .blk bT #[.slice sr R.rows.length cr, .slice sk R.ranks.length ck, .int .i64 R.saved] 35, .row (.slice sk R.ranks.length ck) 39 6 R.ranks.length (R.ranks.flatMap pC), .row (.slice sr R.rows.length cr) 3 1 R.rows.length (R.rows.flatMap iC)] wr) (fun ss _ => N - (intOf ss).toNat)
      case atStart => exact ⟨0, ⟨[], [], 0⟩, none, 0, none, 0, rfl, Nat.zero_le _, by simp, (show Hid _ from rfl), (show Hid _ from fun r hr => absurd hr List.not_mem_nil), H⟩
      case round =>
        clear H C
        obtain ⟨n, R, sk, ck, sr, cr, rfl, hn, hrl12, HR, HRR, H⟩ := hrel
        skip
        try clear C
        try simp only [World.size_alloc, List.nil_append, List.cons_append, List.append_assoc] at H
        have C := H.cells
        try simp only [cellsOf, cellsM, apartOf, apartM, and_true] at C
        by_cases hlt : n < N
        · have hni : (n : Int) < N := by omega
          go_upto_region 18 with fail
          generalize hwb : wr.alloc _ = w4
          replace H := HS.eqW hwb H.alloc
          try simp only [World.size_alloc, List.nil_append, List.cons_append, List.append_assoc] at H
          clear hwb
          generalize wr.heap.size = bX at H ⊢
          try clear C
          try clear wr
          have C := H.cells
          try simp only [cellsOf, cellsM, apartOf, apartM, and_true] at C
          have hnr := H.nilRow 39 6
          clear H
          have H := hnr
          clear hnr
          try simp only [List.nil_append, List.cons_append] at H
          try clear C
          try simp only [World.size_alloc, List.nil_append, List.cons_append, List.append_assoc] at H
          have C := H.cells
          try simp only [cellsOf, cellsM, apartOf, apartM, and_true] at C
          go_wp2_with fail
          go_loopw [60] (fun jj wr => ∃ (k : Nat) (ys : List P6) (sy : Option Addr) (cy : Nat), jj = .int .i64 k ∧ k ≤ al.length ∧ Hid (ys = pickS (al.take k) n) ∧ HS NoD w [.blk bS #[.int .i64 a0, .int .i64 a1, .int .i64 a2, .int .i64 a3, .int .i64 a4, .int .i64 a5] 28, .blk bO #[.slice none 0 0, .slice none 0 0, .int .i64 0] 35, .row (.slice s5 al.length c5) 39 6 al.length (al.flatMap pC), .blk bT #[.slice sr R.rows.length cr, .slice sk R.ranks.length ck, .int .i64 R.saved] 35, .row (.slice sk R.ranks.length ck) 39 6 R.ranks.length (R.ranks.flatMap pC), .row (.slice sr R.rows.length cr) 3 1 R.rows.length (R.rows.flatMap iC), .blk bX #[.slice none 0 0, .slice sy ys.length cy, .int .i64 0] 35, .row (.slice sy ys.length cy) 39 6 ys.length (ys.flatMap pC)] wr) (fun jj _ => al.length - (intOf jj).toNat)
          case atStart => exact ⟨0, [], none, 0, rfl, Nat.zero_le _, (show Hid _ from rfl), H⟩
          case round =>
            clear H C
            obtain ⟨k, ys, sy, cy, rfl, hk, HY, H⟩ := hrel
            skip
            try clear C
            try simp only [World.size_alloc, List.nil_append, List.cons_append, List.append_assoc] at H
            have C := H.cells
            try simp only [cellsOf, cellsM, apartOf, apartM, and_true] at C
            by_cases hlt2 : k < al.length
            · have hki : (k : Int) < al.length := by omega
              have hk12 : (k : Int) ≤ 12 := by omega
              have HPT := Lib.hid (pickS_take al n k hlt2)
              obtain ⟨bb, ob, rfl, hbz, hc⟩ := (H.rowLies 2 pC_len rfl rfl).at hlt2
              obtain ⟨x, hx⟩ : ∃ x, x = al[k]! := ⟨_, rfl⟩
              rw [← hx] at hc HPT
              clear hx
              obtain ⟨x0, x1, x2, x3, x4, x5⟩ := x
              have c0 : wr.cell? ⟨bb, ob + k * 6, none⟩ = some (.int .i64 x0) := hc 0 _ rfl
              have c1 : wr.cell? ⟨bb, ob + k * 6 + 1, none⟩ = some (.int .i64 x1) := hc 1 _ rfl
              have c2 : wr.cell? ⟨bb, ob + k * 6 + 2, none⟩ = some (.int .i64 x2) := hc 2 _ rfl
              have c3 : wr.cell? ⟨bb, ob + k * 6 + 3, none⟩ = some (.int .i64 x3) := hc 3 _ rfl
              have c4 : wr.cell? ⟨bb, ob + k * 6 + 4, none⟩ = some (.int .i64 x4) := hc 4 _ rfl
              have c5 : wr.cell? ⟨bb, ob + k * 6 + 5, none⟩ = some (.int .i64 x5) := hc 5 _ rfl
              clear hc hbz
              go_upto_region 21 with fail
              clear c0 c1 c2 c3 c4 c5
              generalize hwb : wr.alloc _ = w5
              replace H := HS.eqW hwb H.alloc
              try simp only [World.size_alloc, List.nil_append, List.cons_append, List.append_assoc] at H
              clear hwb
              generalize wr.heap.size = bE at H ⊢
              try clear C
              try clear wr
              have C := H.cells
              try simp only [cellsOf, cellsM, apartOf, apartM, and_true] at C
              have hbit := bit_at n k (by omega)
              have hyl : ys.length ≤ 12 := by rw [HY.out]; have := (pickS_sub (al.take k) n).length_le; have h9 : (al.take k).length ≤ al.length := by rw [List.length_take]; omega
                                              omega
              skip
              by_cases hodd : n / 2 ^ k % 2 = 1
              · have hbb : (bits BinOp.and IntKind.u64 ((n : Int) / 2 ^ k) 1 == 1) = true := by rw [hbit, hodd]; rfl
                rw [if_pos hodd] at HPT
                clear hbit hodd
                go_upto_region 23 with (at_builtin; refine wpList_append_H rfl (.tmp 72) (.tmp 74) 33 rfl elemPl H.alloc 7 rfl rfl 9 rfl rfl rfl rfl (by decide) (by unfold maxLen; omega) (by omega) (fun g cap wz HZ9 => ?_); clear H C; (try simp only [List.nil_append, List.cons_append, List.set_cons_succ, List.set_cons_zero] at HZ9); have C := HZ9.cells; (try simp only [cellsOf, cellsM, apartOf, apartM, and_true] at C))
                generalize hwb : World.setCell _ _ _ = w71
                have H9 := HS.eqW hwb (HZ9.setAt 6 rfl (o := 1) (v := .slice (some ⟨g, 0, none⟩) (ys.length + 1) cap))
                clear HZ9 C hwb
                simp only [List.set_cons_succ, List.set_cons_zero] at H9
                have H := H9
                clear H9
                skip
                try clear C
                try simp only [World.size_alloc, List.nil_append, List.cons_append, List.append_assoc] at H
                have C := H.cells
                try simp only [cellsOf, cellsM, apartOf, apartM, and_true] at C
                go_wp2_with fail
                go_roundw
                case rel =>
                  refine ⟨k + 1, ys ++ [⟨x0, x1, x2, x3, x4, x5⟩], some ⟨g, 0, none⟩, cap, by go_num, by omega, (show Hid _ from by rw [HPT.out, HY.out]; rfl), ?_⟩
                  rw [List.length_append, List.flatMap_append]
                  exact HS.less H (by repeat (first | exact .slnil | refine .cons_cons _ ?_ | refine .cons _ ?_))
                case measure => simp [intOf]; omega
              · have hbb : (bits BinOp.and IntKind.u64 ((n : Int) / 2 ^ k) 1 == 1) = false := by rw [hbit]; exact beq_eq_false_iff_ne.2 (by omega)
                rw [if_neg hodd, List.append_nil] at HPT
                clear hbit hodd
                skip
                go_wp2_with fail
                go_roundw
                case rel => exact ⟨k + 1, ys, sy, cy, by go_num, by omega, (show Hid _ from by rw [HPT.out, HY.out]; rfl), H.less (by repeat (first | exact .slnil | refine .cons_cons _ ?_ | refine .cons _ ?_))⟩
                case measure => simp [intOf]; omega
            · skip
              have hkl : k = al.length := by omega
              subst hkl
              have hyy := HY.out
              rw [List.take_length] at hyy
              have HYY := Lib.hid hyy
              have hyr : ∀ r ∈ ys, RankIs r := fun r hr => HAL.out r ((pickS_sub al n).subset (hyy ▸ hr))
              have hyl : ys.length ≤ 12 := by rw [hyy]; have := (pickS_sub al n).length_le; omega
              have HYR := Lib.hid hyr
              clear hyy HY hyr
              have HMN := Lib.hid (fun wx hx9 => many_any 30 (fun _ _ => rfl) chanP (fun p W => pchan_any p W) b (sa := sy) cy (rs := ys) (by omega) wx hx9)
              go_wp2_with fail
              refine (HMN.out _ (H.rowLies 7 pC_len rfl rfl)).mono ?_
              rintro _ wg ⟨rfl, hb⟩
              replace H := H.below hb
              clear hb HMN
              skip
              try clear C
              try simp only [World.size_alloc, List.nil_append, List.cons_append, List.append_assoc] at H
              have C := H.cells
              try simp only [cellsOf, cellsM, apartOf, apartM, and_true] at C
              cases hcr : crowdP chanP ys b with
              | true =>
                have HCR := Lib.hid hcr
                clear hcr
                go_wp2_with fail
                go_roundw
                case rel =>
                  refine ⟨n + 1, R, sk, ck, sr, cr, by go_num, by omega, hrl12, (show Hid _ from ?_), HRR, H.less (by repeat (first | exact .slnil | refine .cons_cons _ ?_ | refine .cons _ ?_))⟩
                  rcases accN_crowd (al := al) (l := l) (a := a) (b := b) (n := n) (by rw [← HYY.out]; exact HCR.out) with h | h
                  · rw [h]; exact HR.out
                  · have h1 := HCR.out
                    rw [HYY.out, h, pickS_zero] at h1
                    cases h1
                case measure => simp [intOf]; omega
              | false =>
                have HCR := Lib.hid hcr
                clear hcr
                have HBE := Lib.hid (fun wx h1 h2 => pbest_any HOK.out hl12 a HFA.out (sa := sa) (sc := sy) c cy (rs := ys) (by omega) HYR.out wx h1 h2)
                have HWO := Lib.hid (fun (rows : List Int) (hrl : rows.length ≤ 100000) (sb : Option Addr) (d : Nat) wx h1 h2 h3 => pworth_any HOK.out (sa := sa) (sb := sb) (sc := sy) c d cy (rows := rows) (rs := ys) hrl (by omega) wx h1 h2 h3)
                have HRL := Lib.hid (show (rowsFor l a ys).length ≤ 100000 from by have := rowsK_len l a ys l.length; rw [rowsK_full] at this; omega)
                obtain ⟨pl, hpl⟩ : ∃ pl, pl = planOf l a ys := ⟨_, rfl⟩
                have HP1 := Lib.hid (show rowsFor l a ys = pl.rows from by rw [hpl]; rfl)
                have HP2 := Lib.hid (show worthP l pl.rows ys = pl.saved from by rw [hpl]; rfl)
                have HP3 := Lib.hid (show pl.ranks = ys from by rw [hpl]; rfl)
                have HPL := Lib.hid hpl
                rw [HP1.out] at HBE HRL
                clear hpl HP1
                go_wp2_with fail
                refine (HBE.out _ (H.liesUp HL.out) (H.rowLies 7 pC_len rfl rfl)).mono ?_
                rintro _ wh ⟨sq, cq, rfl, hr, hb⟩
                replace H := H.getsRow hb hr
                clear hb hr HBE
                try simp only [List.nil_append, List.cons_append] at H
                skip
                try clear C
                try simp only [World.size_alloc, List.nil_append, List.cons_append, List.append_assoc] at H
                have C := H.cells
                try simp only [cellsOf, cellsM, apartOf, apartM, and_true] at C
                dsimp only
                go_upto_region 26 with fail
                generalize hwb : World.setCell _ _ _ = w72
                have H9 := HS.eqW hwb (H.setAt 6 rfl (o := 0) (v := .slice sq pl.rows.length cq))
                clear H C hwb
                simp only [List.set_cons_succ, List.set_cons_zero] at H9
                have H := H9
                clear H9
                skip
                try clear C
                try simp only [World.size_alloc, List.nil_append, List.cons_append, List.append_assoc] at H
                have C := H.cells
                try simp only [cellsOf, cellsM, apartOf, apartM, and_true] at C
                go_wp2_with fail
                refine (HWO.out pl.rows HRL.out sq cq _ (H.liesUp HL.out) (H.rowLies 8 iC_len rfl rfl) (H.rowLies 7 pC_len rfl rfl)).mono ?_
                rintro _ wi ⟨rfl, hb⟩
                replace H := H.below hb
                clear hb HWO
                rw [HP2.out]
                skip
                try clear C
                try simp only [World.size_alloc, List.nil_append, List.cons_append, List.append_assoc] at H
                have C := H.cells
                try simp only [cellsOf, cellsM, apartOf, apartM, and_true] at C
                dsimp only
                go_upto_region 27 with fail
                generalize hwb : World.setCell _ _ _ = w73
                have H9 := HS.eqW hwb (H.setAt 6 rfl (o := 2) (v := .int .i64 pl.saved))
                clear H C hwb
                simp only [List.set_cons_succ, List.set_cons_zero] at H9
                have H := H9
                clear H9
                skip
                try clear C
                try simp only [World.size_alloc, List.nil_append, List.cons_append, List.append_assoc] at H
                have C := H.cells
                try simp only [cellsOf, cellsM, apartOf, apartM, and_true] at C
                skip
                have HEND := Lib.hid (fun (wx : World) (hx : HS NoD w [.blk bS #[.int .i64 a0, .int .i64 a1, .int .i64 a2, .int .i64 a3, .int .i64 a4, .int .i64 a5] 28, .blk bO #[.slice none 0 0, .slice none 0 0, .int .i64 0] 35, .row (.slice s5 al.length c5) 39 6 al.length (al.flatMap pC), .blk bT #[.slice sq pl.rows.length cq, .slice sy ys.length cy, .int .i64 pl.saved] 35, .row (.slice sy ys.length cy) 39 6 ys.length (ys.flatMap pC), .row (.slice sq pl.rows.length cq) 3 1 pl.rows.length (pl.rows.flatMap iC)] wx) => show HS NoD w [.blk bS #[.int .i64 a0, .int .i64 a1, .int .i64 a2, .int .i64 a3, .int .i64 a4, .int .i64 a5] 28, .blk bO #[.slice none 0 0, .slice none 0 0, .int .i64 0] 35, .row (.slice s5 al.length c5) 39 6 al.length (al.flatMap pC), .blk bT #[.slice sq pl.rows.length cq, .slice sy pl.ranks.length cy, .int .i64 pl.saved] 35, .row (.slice sy pl.ranks.length cy) 39 6 pl.ranks.length (pl.ranks.flatMap pC), .row (.slice sq pl.rows.length cq) 3 1 pl.rows.length (pl.rows.flatMap iC)] wx from by rw [HP3.out]; exact hx)
                by_cases hn0 : n = 0
                · subst hn0
                  go_wp2_with fail
                  generalize hwb : ((w73.setCell _ _).setCell _ _).setCell _ _ = w6
                  replace H := HS.eqW hwb (H.putAll (i := 3) rfl (vs := [.slice sq pl.rows.length cq, .slice sy ys.length cy, .int .i64 pl.saved]) rfl rfl)
                  simp only [List.nil_append, List.cons_append, List.append_assoc, List.set_cons_succ, List.set_cons_zero] at H
                  clear hwb
                  try clear C
                  try clear w73
                  have C := H.cells
                  try simp only [cellsOf, cellsM, apartOf, apartM, and_true] at C
                  go_roundw
                  case rel => exact ⟨1, pl, sy, cy, sq, cq, rfl, by omega, by rw [HP3.out]; exact hyl, (show Hid _ from by rw [accN_one HOK.out.nn, HPL.out, HYY.out]; trivial), (show Hid _ from by rw [HP3.out]; exact HYR.out), HEND.out _ (H.less (by repeat (first | exact .slnil | refine .cons_cons _ ?_ | refine .cons _ ?_)))⟩
                  case measure => simp [intOf]; omega
                · have hnb : ((n : Int) == 0) = false := beq_eq_false_iff_ne.2 (by omega)
                  have HN0 := Lib.hid hn0
                  have HBT := Lib.hid (fun wx h1 h2 => better_any (ps := pl.saved) (qs := R.saved) (pr := sq) (pn := pl.rows.length) (pd := cq) (qr := sr) (qn := R.rows.length) (qd := cr) (sa := sy) (sb := sk) cy ck (a := ys) (b := R.ranks) (by omega) (by omega) HYR.out HRR.out pl.rows R.rows wx h1 h2)
                  have HBV := Lib.hid (show betterP ⟨pl.rows, ys, pl.saved⟩ ⟨R.rows, R.ranks, R.saved⟩ = betterP (planOf l a (pickS al n)) (accN al l a b n) from by
                    rw [← HR.out, ← HYY.out, ← HPL.out]
                    have : (⟨pl.rows, ys, pl.saved⟩ : PlR) = pl := by
                      have h9 := HP3.out
                      obtain ⟨q1, q2, q3⟩ := pl
                      simp only at h9
                      rw [h9]
                    rw [this])
                  rw [HBV.out] at HBT
                  have HAC := Lib.hid (accN_better (al := al) (l := l) (a := a) (b := b) (n := n) hn0 (by rw [← HYY.out]; exact HCR.out))
                  generalize hbt : betterP (planOf l a (pickS al n)) (accN al l a b n) = t at HBT HAC
                  clear hn0 HBV hbt
                  skip
                  go_wp2_with fail
                  refine (HBT.out _ (H.rowLies 7 pC_len rfl rfl) (H.rowLies 4 pC_len rfl rfl)).mono ?_
                  rintro _ wj ⟨rfl, hb⟩
                  replace H := H.below hb
                  clear hb HBT
                  skip
                  try clear C
                  try simp only [World.size_alloc, List.nil_append, List.cons_append, List.append_assoc] at H
                  have C := H.cells
                  try simp only [cellsOf, cellsM, apartOf, apartM, and_true] at C
                  skip
                  cases t with
                  | true =>
                    go_wp2_with fail
                    generalize hwb : ((wj.setCell _ _).setCell _ _).setCell _ _ = w7
                    replace H := HS.eqW hwb (H.putAll (i := 3) rfl (vs := [.slice sq pl.rows.length cq, .slice sy ys.length cy, .int .i64 pl.saved]) rfl rfl)
                    simp only [List.nil_append, List.cons_append, List.append_assoc, List.set_cons_succ, List.set_cons_zero] at H
                    clear hwb
                    try clear C
                    try clear wj
                    have C := H.cells
                    try simp only [cellsOf, cellsM, apartOf, apartM, and_true] at C
                    go_roundw
                    case rel => exact ⟨n + 1, pl, sy, cy, sq, cq, by go_num, by omega, by rw [HP3.out]; exact hyl, (show Hid _ from by rw [HAC.out, if_pos (by first | rfl | trivial), HPL.out, HYY.out]; trivial), (show Hid _ from by rw [HP3.out]; exact HYR.out), HEND.out _ (H.less (by repeat (first | exact .slnil | refine .cons_cons _ ?_ | refine .cons _ ?_)))⟩
                    case measure => simp [intOf]; omega
                  | false =>
                    skip
                    go_wp2_with fail
                    go_roundw
                    case rel => exact ⟨n + 1, R, sk, ck, sr, cr, by go_num, by omega, hrl12, (show Hid _ from by rw [HAC.out, if_neg (by simp), HR.out]; trivial), HRR, H.less (by repeat (first | exact .slnil | refine .cons_cons _ ?_ | refine .cons _ ?_))⟩
                    case measure => simp [intOf]; omega
        · skip
          have hnn : n = N := by omega
          subst hnn
          go_wp2_with fail
          generalize hwb : ((wr.setCell _ _).setCell _ _).setCell _ _ = w8
          replace H := HS.eqW hwb (H.putAll (i := 1) rfl (vs := [.slice sr R.rows.length cr, .slice sk R.ranks.length ck, .int .i64 R.saved]) rfl rfl)
          simp only [List.nil_append, List.cons_append, List.append_assoc, List.set_cons_succ, List.set_cons_zero] at H
          clear hwb
          try clear C
          try clear wr
          have C := H.cells
          try simp only [cellsOf, cellsM, apartOf, apartM, and_true] at C
          refine bodyPost_ret (by simp [results, Try.results13, go_sem, C]; try rfl) rfl ?_
          have hR : R = bestP l a b := by
            rw [HR.out, HN.out, accN_full, HALE.out]; rfl
          rw [← hR]
          exact ⟨sk, ck, sr, cr, rfl, H.less (by repeat (first | exact .slnil | refine .cons_cons _ ?_ | refine .cons _ ?_))⟩
theorem pBest_any (a0 a1 a2 a3 a4 a5 : Int) {sa : Option Addr} (c : Nat) {l : List Nd} (hx : l.length ≤ 100000) (hcap : l.length ≤ c) (a b : Int) (w : World) (hl : Lies w w.heap.size sa 7 l.length (fun j => ndC l[j]!)) :
    Calls Try.prog 13 #[v6 a0 a1 a2 a3 a4 a5, .slice sa l.length c, .int .i64 a, .int .i64 b] w (GivesPl (bestV ⟨a0, a1, a2, a3, a4, a5⟩ l a b).1 (bestV ⟨a0, a1, a2, a3, a4, a5⟩ l a b).2 w) := by
  by_cases hv : validN ⟨a0, a1, a2, a3, a4, a5⟩ l
  · by_cases hf : (0 ≤ a ∧ a ≤ 12) ∧ 0 ≤ b ∧ b ≤ 12
    · rw [show bestV ⟨a0, a1, a2, a3, a4, a5⟩ l a b = (bestP l a b, 0) from by unfold bestV; rw [if_pos hv, if_pos hf]]
      exact pBest_ok a0 a1 a2 a3 a4 a5 c hx hcap a b hv hf.1 hf.2 w hl
    · rw [show bestV ⟨a0, a1, a2, a3, a4, a5⟩ l a b = (⟨[], [], 0⟩, 2) from by unfold bestV; rw [if_pos hv, if_neg hf]]
      exact pBest_bad2 a0 a1 a2 a3 a4 a5 c hx hcap a b hv hf w hl
  · rw [show bestV ⟨a0, a1, a2, a3, a4, a5⟩ l a b = (⟨[], [], 0⟩, 1) from by unfold bestV; rw [if_neg hv]]
    exact pBest_bad1 a0 a1 a2 a3 a4 a5 c hx hcap a b hv w hl
end Go.Proofs.Ytdhnpjgnnfgklaa
